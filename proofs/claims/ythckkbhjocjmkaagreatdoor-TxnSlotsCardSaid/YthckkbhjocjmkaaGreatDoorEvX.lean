/- The call of TxnSlots at a slot: what is to be shown of each, and the slots that there are not. -/
import Derived.Test.YthckkbhjocjmkaaGreatDoorEvW
namespace Go.Proofs.YthckkbhjocjmkaaGreatDoor
namespace Ev
def memosX : List Memo := [memoShown, memoNew]
def slotMemo (i : Int) : Memo := ⟨3, [.int .i64 i], [], [⟨.bool true, [], []⟩]⟩
theorem memosX_of {E : Env} {fs : List Nat} {n fuel : Nat} (hE : E.Ok) (hf : ∀ f xs os e, find44 f xs os = some e → MemoOk E e) (hm : ∀ m ∈ memosU, MemoOk E m) (h : memoB (gM E fs memosU n) fuel memoShown = true) :
    ∀ m ∈ memosX, MemoOk E m := by
  intro m h1
  simp only [memosX, List.mem_cons, List.not_mem_nil, or_false] at h1
  rcases h1 with rfl | rfl
  · exact memoB_ok (gM_ok hE hf hm n) h
  · exact hm _ List.mem_cons_self
theorem slot_of {E : Env} {fs : List Nat} {n fuel : Nat} {i : Int} (hE : E.Ok) (hf : ∀ f xs os e, find44 f xs os = some e → MemoOk E e) (hm : ∀ m ∈ memosX, MemoOk E m) (h : memoB (gM E fs memosX n) fuel (slotMemo i) = true) :
    MemoOk E (slotMemo i) := memoB_ok (gM_ok hE hf hm n) h
set_option maxRecDepth 100000
theorem memosX_ok : ∀ m ∈ memosX, MemoOk EE m := memosX_of (fs := [5, 9, 10]) (n := 300) (fuel := 400) EE_ok find44_ok memosU_ok shown_run
theorem slot_above (k : Nat) : memoB (gM EE [4, 5] memosX 300) 400 (slotMemo (Int.ofNat (k + 64))) = true := by kernel_rfl
theorem slot_minus1 : memoB (gM EE [4, 5] memosX 300) 400 (slotMemo (Int.negSucc 0)) = true := by kernel_rfl
theorem slot_below (k : Nat) : memoB (gM EE [4, 5] memosX 300) 400 (slotMemo (Int.negSucc (k + 1))) = true := by kernel_rfl
end Ev
end Go.Proofs.YthckkbhjocjmkaaGreatDoor
