/- The two calls of slices.SortedFunc at maps of five keys. -/
import Derived.Test.YthckkbhjocjmkaaGreatDoorEvQ
namespace Go.Proofs.YthckkbhjocjmkaaGreatDoor
namespace Ev
def bs (l : List UInt8) : Value := .string ⟨⟨l⟩⟩
def enK (i : Nat) (v : Value) (b : Nat) : MapEntry := { key := .agg ⟨keysL.getD i []⟩, val := v, born := b }
def memo44 (es : List MapEntry) : Memo := ⟨44, [.func (.func 76) #[] #[.pointer (some ⟨0, 0, none⟩)], .func (.func 46) #[] #[]], [.row [.map (some 1)] 85 0, .map es 5],
  [⟨.slice (some ⟨2, 0, none⟩) 5 4611686018427387909, [some (.row [.map (some 1)] 85 0), some (.map es 5)], [.row (catK [0, 1, 2, 3, 4]) 70 24]⟩]⟩
def esA : List MapEntry := [enK 0 (bs [1]) 0, enK 1 (bs [0, 0, 0, 2]) 1, enK 3 (bs [2, 0, 0, 0, 1, 0, 0, 0, 0]) 2, enK 2 (bs [0, 0, 0, 3]) 3, enK 4 (bs [2, 0, 0, 0, 1, 0, 0, 0, 0]) 4]
def esB : List MapEntry := [enK 0 (bs [1]) 0, enK 1 (bs [0, 0, 0, 2]) 1, enK 2 (bs [0, 0, 0, 3]) 2, enK 3 (bs [2, 0, 0, 0, 1, 0, 0, 0, 0]) 3, enK 4 (bs [2, 0, 0, 0, 1, 0, 0, 0, 0]) 4]
def wrapS (g : CallF) : CallF := memoed (fun f => Nat.beq f 35) findSort 200 g
noncomputable def gS (E : Env) (n : Nat) : CallF := callFrom E (enterFrom E (ev E wrapS n))
theorem wrapS_ok {E : Env} (hf : ∀ f xs os e, findSort f xs os = some e → MemoOk E e) : ∀ c, CallFOk E c → CallFOk E (wrapS c) := fun _ h => memoed_ok hf h
theorem gS_ok {E : Env} (hE : E.Ok) (hf : ∀ f xs os e, findSort f xs os = some e → MemoOk E e) (n : Nat) : CallFOk E (gS E n) := callFrom_ok hE (enterFrom_ok hE (ev_ok hE (wrapS_ok hf) n))
set_option maxRecDepth 100000
theorem m44A : memoB (gS EE 100) 200 (memo44 esA) = true := by kernel_rfl
end Ev
end Go.Proofs.YthckkbhjocjmkaaGreatDoor
