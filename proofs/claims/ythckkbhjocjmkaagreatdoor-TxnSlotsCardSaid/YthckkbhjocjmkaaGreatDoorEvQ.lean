/- The table of the sorts of five keys. -/
import Derived.Test.YthckkbhjocjmkaaGreatDoorEvP0
import Derived.Test.YthckkbhjocjmkaaGreatDoorEvP1
import Derived.Test.YthckkbhjocjmkaaGreatDoorEvP2
import Derived.Test.YthckkbhjocjmkaaGreatDoorEvP3
import Derived.Test.YthckkbhjocjmkaaGreatDoorEvP4
import Derived.Test.YthckkbhjocjmkaaGreatDoorEvP5
import Derived.Test.YthckkbhjocjmkaaGreatDoorEvP6
import Derived.Test.YthckkbhjocjmkaaGreatDoorEvP7
namespace Go.Proofs.YthckkbhjocjmkaaGreatDoor
namespace Ev

set_option maxRecDepth 100000
theorem all_memo {E : Env} (hE : E.Ok) {n fuel : Nat} {l : List (List Nat)} (h : l.all (fun p => memoB (gOf E n) fuel (sortMemo p)) = true) : ∀ p ∈ l, MemoOk E (sortMemo p) := fun p hp =>
  memoB_ok (gOf_ok hE n) (List.all_eq_true.1 h p hp)

def psAll : List (List Nat) := ps0 ++ (ps1 ++ (ps2 ++ (ps3 ++ (ps4 ++ (ps5 ++ (ps6 ++ ps7))))))
theorem sortMemo_ok : ∀ p ∈ psAll, MemoOk EE (sortMemo p) := by
  intro p hp
  simp only [psAll, List.mem_append] at hp
  rcases hp with h | h | h | h | h | h | h | h
  · exact all_memo (n := 100) (fuel := 100) EE_ok sort_0 p h
  · exact all_memo (n := 100) (fuel := 100) EE_ok sort_1 p h
  · exact all_memo (n := 100) (fuel := 100) EE_ok sort_2 p h
  · exact all_memo (n := 100) (fuel := 100) EE_ok sort_3 p h
  · exact all_memo (n := 100) (fuel := 100) EE_ok sort_4 p h
  · exact all_memo (n := 100) (fuel := 100) EE_ok sort_5 p h
  · exact all_memo (n := 100) (fuel := 100) EE_ok sort_6 p h
  · exact all_memo (n := 100) (fuel := 100) EE_ok sort_7 p h

/-- Which of the five keys a row of keys begins with. -/
def keyAt (c : List Value) : List (List Value) → Nat → Option Nat
  | [], _ => none
  | k :: l, i => cond (veqL k (c.take 24)) (some i) (keyAt c l (i + 1))
def keyIxs : Nat → List Value → Option (List Nat)
  | 0, _ => some []
  | n + 1, c => (keyAt c keysL 0).bind fun i => (keyIxs n (c.drop 24)).map fun l => i :: l
def findP (p : List Nat) : List (List Nat) → Bool
  | [] => false
  | q :: l => eqNats q p || findP p l
theorem findP_mem {p : List Nat} : ∀ {l : List (List Nat)}, findP p l = true → p ∈ l
  | [], h => by cases h
  | q :: l, h => by
    simp only [findP, Bool.or_eq_true] at h
    rcases h with h | h
    · rw [eqNats_eq h]; exact List.mem_cons_self
    · exact List.mem_cons_of_mem _ (findP_mem h)
def findSort : Find := fun f _ os =>
  cond (Nat.beq f 35) (match os with
    | [.row c _ _] => match keyIxs 5 c with
      | some p => cond (findP p psAll) (some (sortMemo p)) none
      | none => none
    | _ => none) none
theorem findSort_ok : ∀ f xs os e, findSort f xs os = some e → MemoOk EE e := by
  intro f xs os e h
  unfold findSort at h
  cases hf : Nat.beq f 35 with
  | false => rw [hf] at h; cases h
  | true =>
    rw [hf] at h
    simp only [cond_true] at h
    split at h
    · split at h
      · rename_i p hp
        cases hb : findP p psAll with
        | false => rw [hb] at h; cases h
        | true =>
          rw [hb] at h
          simp only [cond_true, Option.some.injEq] at h
          subst h
          exact sortMemo_ok p (findP_mem hb)
      · cases h
    · cases h
end Ev
end Go.Proofs.YthckkbhjocjmkaaGreatDoor
