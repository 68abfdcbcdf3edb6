/- The call of txn.shown: whatever the orders, it answers true and leaves the world as it was. -/
import Derived.Test.YthckkbhjocjmkaaGreatDoorEvS
namespace Go.Proofs.YthckkbhjocjmkaaGreatDoor
namespace Ev
def find44 : Find := fun f _ os => cond (Nat.beq f 44) (cond (eqOs (memo44 esA).objs os) (some (memo44 esA)) (cond (eqOs (memo44 esB).objs os) (some (memo44 esB)) none)) none
theorem find44_of {E : Env} {n fuel : Nat} (hE : E.Ok) (hf : ∀ f xs os e, findSort f xs os = some e → MemoOk E e) (hA : memoB (gS E n) fuel (memo44 esA) = true) (hB : memoB (gS E n) fuel (memo44 esB) = true) :
    ∀ f xs os e, find44 f xs os = some e → MemoOk E e := by
  intro f xs os e h
  unfold find44 at h
  cases h1 : Nat.beq f 44 with
  | false => rw [h1] at h; cases h
  | true =>
    rw [h1] at h
    cases h2 : eqOs (memo44 esA).objs os with
    | true => rw [h2] at h; simp only [cond_true, Option.some.injEq] at h; subst h; exact memoB_ok (gS_ok hE hf n) hA
    | false =>
      rw [h2] at h
      cases h3 : eqOs (memo44 esB).objs os with
      | true => rw [h3] at h; simp only [cond_true, cond_false, Option.some.injEq] at h; subst h; exact memoB_ok (gS_ok hE hf n) hB
      | false => rw [h3] at h; cases h
def wrapT (g : CallF) : CallF := memoed (fun f => Nat.beq f 44) find44 200 (framed (fun f => Nat.beq f 44 || Nat.beq f 15) 200 g)
noncomputable def gT (E : Env) (n : Nat) : CallF := callFrom E (enterFrom E (ev E wrapT n))
theorem wrapT_ok {E : Env} (hf : ∀ f xs os e, find44 f xs os = some e → MemoOk E e) : ∀ c, CallFOk E c → CallFOk E (wrapT c) := fun _ h => memoed_ok hf (framed_ok h)
theorem gT_ok {E : Env} (hE : E.Ok) (hf : ∀ f xs os e, find44 f xs os = some e → MemoOk E e) (n : Nat) : CallFOk E (gT E n) := callFrom_ok hE (enterFrom_ok hE (ev_ok hE (wrapT_ok hf) n))
def memoShown : Memo := ⟨4, [], [], [⟨.bool true, [], []⟩]⟩
set_option maxRecDepth 100000
theorem find44_ok : ∀ f xs os e, find44 f xs os = some e → MemoOk EE e := find44_of (n := 100) (fuel := 200) EE_ok findSort_ok m44A m44B
end Ev
end Go.Proofs.YthckkbhjocjmkaaGreatDoor
