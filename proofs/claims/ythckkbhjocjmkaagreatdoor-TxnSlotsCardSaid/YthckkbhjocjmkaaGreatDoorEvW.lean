/- The call of shown of the statement's package: whatever the orders, it answers true and leaves every block as it was. -/
import Derived.Test.YthckkbhjocjmkaaGreatDoorEvV1
import Derived.Test.YthckkbhjocjmkaaGreatDoorEvV2
import Derived.Test.YthckkbhjocjmkaaGreatDoorEvV3
import Derived.Test.YthckkbhjocjmkaaGreatDoorEvV4
namespace Go.Proofs.YthckkbhjocjmkaaGreatDoor
namespace Ev
/-- The first entry of a list that is a call's. -/
def findIn : List Memo → Find
  | [], _, _, _ => none
  | m :: l, f, xs, os => cond (Nat.beq m.f f && (veqL m.args xs && eqOs m.objs os)) (some m) (findIn l f xs os)
theorem findIn_mem : ∀ {l : List Memo} {f xs os e}, findIn l f xs os = some e → e ∈ l
  | [], _, _, _, _, h => by cases h
  | m :: l, f, xs, os, e, h => by
    unfold findIn at h
    cases hc : (Nat.beq m.f f && (veqL m.args xs && eqOs m.objs os)) with
    | true => rw [hc] at h; simp only [cond_true, Option.some.injEq] at h; subst h; exact List.mem_cons_self
    | false => rw [hc] at h; exact List.mem_cons_of_mem _ (findIn_mem h)
def hasF (fs : List Nat) (f : FuncId) : Bool := fs.any (Nat.beq f)
def wrapM (fs : List Nat) (ms : List Memo) (g : CallF) : CallF := memoed (hasF fs) (findIn ms) 400 (wrapT g)
noncomputable def gM (E : Env) (fs : List Nat) (ms : List Memo) (n : Nat) : CallF := callFrom E (enterFrom E (ev E (wrapM fs ms) n))
theorem gM_ok {E : Env} (hE : E.Ok) (hf : ∀ f xs os e, find44 f xs os = some e → MemoOk E e) {fs : List Nat} {ms : List Memo} (hm : ∀ e ∈ ms, MemoOk E e) (n : Nat) : CallFOk E (gM E fs ms n) :=
  callFrom_ok hE (enterFrom_ok hE (ev_ok hE (fun _ h => memoed_ok (fun _ _ _ _ he => hm _ (findIn_mem he)) (wrapT_ok hf _ h)) n))
def memosU : List Memo := [memoNew, memoDoA, memoDoB, memoC1, memoC2]
theorem memosU_of {E : Env} {n fuel : Nat} (hE : E.Ok) (hf : ∀ f xs os e, find44 f xs os = some e → MemoOk E e) (h : ∀ m ∈ memosU, memoB (gT E n) fuel m = true) : ∀ m ∈ memosU, MemoOk E m := fun m hm =>
  memoB_ok (gT_ok hE hf n) (h m hm)
set_option maxRecDepth 100000
theorem memosU_ok : ∀ m ∈ memosU, MemoOk EE m := memosU_of (n := 300) (fuel := 400) EE_ok find44_ok (by
  intro m hm
  simp only [memosU, List.mem_cons, List.not_mem_nil, or_false] at hm
  rcases hm with rfl | rfl | rfl | rfl | rfl
  · exact new_run
  · exact doA_run
  · exact doB_run
  · exact c1_run
  · exact c2_run)
theorem shown_run : memoB (gM EE [5, 9, 10] memosU 300) 400 memoShown = true := by kernel_rfl
end Ev
end Go.Proofs.YthckkbhjocjmkaaGreatDoor
