/- Whatever the slot and whatever the orders, the call of TxnSlots returns true and leaves every block that there was as it was. -/
import Derived.Test.YthckkbhjocjmkaaGreatDoorEvY0
import Derived.Test.YthckkbhjocjmkaaGreatDoorEvY1
import Derived.Test.YthckkbhjocjmkaaGreatDoorEvY2
import Derived.Test.YthckkbhjocjmkaaGreatDoorEvY3
namespace Go.Proofs.YthckkbhjocjmkaaGreatDoor
namespace Ev
theorem all_below {p : Nat → Bool} (h0 : (List.range' 0 16).all p = true) (h1 : (List.range' 16 16).all p = true) (h2 : (List.range' 32 16).all p = true) (h3 : (List.range' 48 16).all p = true) (i : Nat) (hi : i < 64) : p i = true := by
  rcases Nat.lt_or_ge i 16 with h | h
  · exact List.all_eq_true.1 h0 i (by rw [List.mem_range'_1]; omega)
  rcases Nat.lt_or_ge i 32 with h | h
  · exact List.all_eq_true.1 h1 i (by rw [List.mem_range'_1]; omega)
  rcases Nat.lt_or_ge i 48 with h | h
  · exact List.all_eq_true.1 h2 i (by rw [List.mem_range'_1]; omega)
  · exact List.all_eq_true.1 h3 i (by rw [List.mem_range'_1]; omega)
/-- Every slot's check, from those of the sixty-four and those of the others. -/
theorem all_slots {p : Int → Bool} (hb : ∀ i : Nat, i < 64 → p (Int.ofNat i) = true) (ha : ∀ k : Nat, p (Int.ofNat (k + 64)) = true) (hn : p (Int.negSucc 0) = true) (hm : ∀ k : Nat, p (Int.negSucc (k + 1)) = true) : ∀ i, p i = true
  | .ofNat i => by
    rcases Nat.lt_or_ge i 64 with h | h
    · exact hb i h
    · have := ha (i - 64)
      rwa [Nat.sub_add_cancel h] at this
  | .negSucc 0 => hn
  | .negSucc (k + 1) => hm k
theorem rel_none (W : World) : Rel (fun _ => none) (heapOf []) W :=
  ⟨fun i ob h => (by rw [heapOf_get] at h; simp at h), fun i _ _ _ _ _ h => (by rw [heapOf_get] at h; simp at h), fun i e he => (by cases he)⟩
theorem kept_of_same {W w' : World} (h1 : w'.os = W.os) (h2 : w'.output = W.output) (h : ∀ b, b < W.heap.size → w'.heap[b]? = W.heap[b]?) : W.keptBut w' (fun _ => False) := by
  refine ⟨h1, h2, fun i hi => ?_⟩
  rw [h i hi]
  cases ho : W.heap[i]? with
  | none => rfl
  | some o => cases o <;> first | exact ⟨rfl, rfl, rfl, fun _ _ => rfl⟩ | exact .inr ⟨rfl, rfl⟩ | rfl
theorem calls_of {E : Env} {i : Int} (hm : MemoOk E (slotMemo i)) (W : World) (he : (callFunc 3 #[.int .i64 i]).run E.P W = .ok (.enter 3 #[.int .i64 i]) W) :
    Calls E.P 3 #[.int .i64 i] W fun e w' => e = .returned (.bool true) ∧ W.keptBut w' (fun _ => False) := by
  have h := hm (fun _ => none) W [.int .i64 i] (rel_none W) rfl
  have he' : (callFunc (slotMemo i).f ⟨[.int .i64 i]⟩).run E.P W = .ok (.enter 3 #[.int .i64 i]) W := he
  rw [he'] at h
  refine Calls.mono h ?_
  rintro e w' ⟨v, rfl, x, hx, R', hext, _, hsub⟩
  simp only [slotMemo, List.map_cons, List.map_nil, List.mem_singleton] at hx
  subst hx
  have hv : v = .bool true := (Option.some.inj hsub).symm
  subst hv
  refine ⟨rfl, kept_of_same hext.os hext.output fun b hb => hext.same b hb ?_⟩
  rintro ⟨j, oj, e, hj, _, _⟩
  rw [heapOf_get] at hj
  have hj' : ([] : List AObj)[j]? = some oj := hj
  simp at hj'
theorem enter3 (i : Int) (W : World) : (callFunc 3 #[.int .i64 i]).run Tryz.prog W = .ok (.enter 3 #[.int .i64 i]) W := by
  have hname : (Tryz.f3.name == "runtime.NumGoroutine") = false := by kernel_rfl
  have hb : Tryz.f3.body.isNone = false := by kernel_rfl
  simp only [callFunc, Sem.run_bind, run_program, Result.andThen_ok, Tryz.func3, hname, Bool.false_eq_true, if_false, hb, Sem.run_pure]
set_option maxRecDepth 100000
theorem slot_all (i : Int) : memoB (gM EE [4, 5] memosX 300) 400 (slotMemo i) = true :=
  all_slots (p := fun i => memoB (gM EE [4, 5] memosX 300) 400 (slotMemo i)) (all_below (p := fun i => memoB (gM EE [4, 5] memosX 300) 400 (slotMemo (Int.ofNat i))) slots_0 slots_1 slots_2 slots_3) slot_above slot_minus1 slot_below i
theorem slot_memo (i : Int) : MemoOk EE (slotMemo i) := slot_of (fs := [4, 5]) (n := 300) (fuel := 400) EE_ok find44_ok memosX_ok (slot_all i)
/-- The walk. -/
theorem txnSlots_calls (i : Int) (W : World) : Calls Tryz.prog 3 #[.int .i64 i] W fun e w' => e = .returned (.bool true) ∧ W.keptBut w' (fun _ => False) :=
  calls_of (E := EE) (slot_memo i) W (enter3 i W)
end Ev
end Go.Proofs.YthckkbhjocjmkaaGreatDoor
