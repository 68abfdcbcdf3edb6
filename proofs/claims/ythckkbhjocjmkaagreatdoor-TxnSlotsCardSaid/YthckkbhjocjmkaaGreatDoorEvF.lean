/- A region that draws its order: the plan by which the abstract run goes through it, and why that is enough. After the library's text on loads that are taken first (OrdersHeld), with a condition on the world that may hang on which operations have been carried out. -/
import Derived.Test.YthckkbhjocjmkaaGreatDoorEvE
import Derived.OrdersHeld
namespace Go.Proofs.YthckkbhjocjmkaaGreatDoor
namespace Ev

section
variable {P : Program} {ops : Array Oper} {Q : Exit → Act → World → Prop} {S : Array Bool → World → Prop}

/-- Whatever order is picked, and S holds behind every operation that is carried out. -/
def wpAnyS (P : Program) (ops : Array Oper) (Q : Exit → Act → World → Prop) (S : Array Bool → World → Prop) : Nat → Array Bool → Act → World → Prop
  | 0, L, a, w => Region.ready .any ops L = [] ∧ Q .normal a w
  | n + 1, L, a, w => (Region.ready .any ops L = [] → Q .normal a w) ∧
    ∀ i ∈ Region.ready .any ops L, wpOp P ops Q i (fun a' w' => S (L.setIfInBounds i true) w' ∧ wpAnyS P ops Q S n (L.setIfInBounds i true) a' w') a w

theorem wpAnyS_any : ∀ (n : Nat) (L : Array Bool) (a : Act) (w : World), wpAnyS P ops Q S n L a w → wpAny P .any ops Q n L a w
  | 0, _, _, _, h => h
  | n + 1, _, _, _, h => ⟨h.1, fun i hi => wpOp_mono (fun a' w' h' => wpAnyS_any n _ a' w' h'.2) (h.2 i hi)⟩

theorem wpAnyS_mono {S' : Array Bool → World → Prop} (hS : ∀ L w, S' L w → S L w) : ∀ (n : Nat) (L : Array Bool) (a : Act) (w : World), wpAnyS P ops Q S' n L a w → wpAnyS P ops Q S n L a w
  | 0, _, _, _, h => h
  | n + 1, _, _, _, h => ⟨h.1, fun i hi => wpOp_mono (fun a' w' h' => ⟨hS _ _ h'.1, wpAnyS_mono hS n _ a' w' h'.2⟩) (h.2 i hi)⟩

/-- What has been carried out was carried out in an order that the edges allow. -/
def Closed (ops : Array Oper) (L : Array Bool) : Prop := ∀ j oj, ops[j]? = some oj → L.getD j false = true → ∀ e ∈ oj.after, Region.binds .any e = true → L.getD e.on false = true

theorem getD_set_self' {L : Array Bool} {i j : Nat} (h : (L.setIfInBounds i true).getD j false = true) : j = i ∨ L.getD j false = true := by
  by_cases hij : i = j
  · exact .inl hij.symm
  · rw [getD_set_ne false hij] at h; exact .inr h

theorem Closed.set {L : Array Bool} {i : Nat} (hC : Closed ops L) (hi : i ∈ Region.ready .any ops L) : Closed ops (L.setIfInBounds i true) := by
  intro j oj hj hl e he hb
  rcases getD_set_self' hl with rfl | hl
  · obtain ⟨_, o, ho, hall⟩ := mem_ready.1 hi
    rw [hj] at ho; cases ho
    exact getD_set_true (hall e he hb)
  · exact getD_set_true (hC j oj hj hl e he hb)

theorem wpAnyS_first {i : Nat} {oi : Oper} {v : Value} {T : World → Prop} (hi : ops[i]? = some oi) (hsel : ∀ (j : Nat) (o : Oper) cs b, ops[j]? = some o → o.op ≠ .select cs b)
    (hQ : ∀ c a w, Q (.panic c) (a.put oi.dst v) w → Q (.panic c) a w) (hSi : ∀ L w, S (L.setIfInBounds i true) w ↔ S L w)
    (hST : ∀ L w, Closed ops L → L.getD i true = false → S L w → T w) :
    ∀ (n : Nat) (L : Array Bool) (a : Act) (w : World), Closed ops L →
      (∀ j oj, ops[j]? = some oj → j ≠ i → L.getD j true = false → (∀ e ∈ oj.after, Region.binds .any e = true → e.on ≠ i) → oi.apart ops oj = true) →
      i ∈ Region.ready .any ops L → YieldsIf P ops T oi v a → S L w →
      wpAnyS P ops Q S n (L.setIfInBounds i true) (a.put oi.dst v) w → wpAnyS P ops Q S (n + 1) L a w := by
  intro n
  induction n with
  | zero =>
    intro L a w hC _ hr hy hS H
    have hT := hST L w hC (mem_ready.1 hr).1 hS
    refine ⟨fun h => (by rw [h] at hr; cases hr), fun j hj => ?_⟩
    by_cases hji : j = i
    · subst hji; exact hy.wpOp hi hT ⟨(hSi L w).2 hS, H⟩
    · have := ready_mono hj hji
      rw [H.1] at this
      cases this
  | succ n ih =>
    intro L a w hC hfree hr hy hS H
    have hT := hST L w hC (mem_ready.1 hr).1 hS
    refine ⟨fun h => (by rw [h] at hr; cases hr), fun j hj => ?_⟩
    by_cases hji : j = i
    · subst hji; exact hy.wpOp hi hT ⟨(hSi L w).2 hS, H⟩
    · have h1 := H.2 j (ready_mono hj hji)
      obtain ⟨hjun, oj, hoj, hall⟩ := mem_ready.1 hj
      have hnot : ∀ e ∈ oj.after, Region.binds .any e = true → e.on ≠ i := fun e he hb heq => by
        have h1 := hall e he hb
        have h0 := (mem_ready.1 hr).1
        rw [heq] at h1
        rcases Nat.lt_or_ge i L.size with h' | h'
        · simp [h'] at h0 h1; rw [h0] at h1; cases h1
        · simp [Array.getElem?_eq_none h'] at h1
      have h2 := wpOp_putIf hoj (hfree j oj hoj hji hjun hnot) (fun cs b => hsel i oi cs b hi) (fun cs b => hsel j oj cs b hoj) hQ hy h1
      have hfree' : ∀ k ok, ops[k]? = some ok → k ≠ i → (L.setIfInBounds j true).getD k true = false →
          (∀ e ∈ ok.after, Region.binds .any e = true → e.on ≠ i) → oi.apart ops ok = true := fun k ok hk hki hun hno => by
        refine hfree k ok hk hki ?_ hno
        by_cases hjk : j = k
        · subst hjk; exact hjun
        · rw [getD_set_ne true hjk] at hun; exact hun
      refine wpOp_mono (fun a' w' h3 => ?_) h2
      obtain ⟨hy', hS', htree⟩ := h3
      rw [Array.setIfInBounds_comm _ _ (Ne.symm hji)] at hS' htree
      have hS'' := (hSi _ _).1 hS'
      exact ⟨hS'', ih (L.setIfInBounds j true) a' w' (hC.set hj) hfree' (ready_mono hr (Ne.symm hji)) hy' hS'' htree⟩
end

/-! ### The plan -/
/-- Operations that may turn memory, or call. -/
def brk (o : Oper) : Bool :=
  match o.op with
  | .move _ | .assign _ | .pick .. | .load .. | .nilCheck _ | .binOp .. | .unOp .. | .convert .. | .makeInterface .. | .makeFunc .. | .slice .. | .fieldAddr .. | .field .. | .indexAddr .. | .index .. | .extract .. | .build .. | .typeAssert .. => false
  | .call ⟨.builtin .len, _, _⟩ | .call ⟨.builtin .max, _, _⟩ | .call ⟨.builtin .min, _, _⟩ | .call ⟨.builtin .cap, _, _⟩ => false
  | _ => true

def brkAt (ops : Array Oper) (i : Nat) : Bool := (ops[i]?).any brk

/-- A step of the plan: an operation that is taken first; one that may turn memory, and is the only one that may come next; one such (c) and a new block (i) that come up together, and what is taken first behind c. -/
inductive PStep where
  | take (i : Nat)
  | go (i : Nat)
  | duo (c i : Nat) (ms : List Nat)

def midGo (ops : Array Oper) : Nat → Array Bool → List Nat
  | 0, _ => []
  | n + 1, L => match (Region.ready .any ops L).find? fun i => !(brkAt ops i) && Region.free .any ops L i with
    | some i => i :: midGo ops n (L.setIfInBounds i true)
    | none => []

def midOk (ops : Array Oper) (oi : Oper) : List Nat → Array Bool → Option (Array Bool)
  | [], L => some L
  | j :: ms, L => match ops[j]? with
    | some oj => cond ((Region.ready .any ops L).contains j && (Region.free .any ops L j && (!(brkAt ops j) && oi.apart ops oj))) (midOk ops oi ms (L.setIfInBounds j true)) none
    | none => none

def isAlloc (o : Oper) : Bool :=
  match o.op, o.guard with
  | .alloc _, none => true
  | _, _ => false

def sameL (a b : Array Bool) : Bool := a.toList == b.toList

def duoOk (ops : Array Oper) (L : Array Bool) (c i : Nat) : Option (List Nat × Array Bool) :=
  match ops[c]?, ops[i]? with
  | some oc, some oi =>
    cond (isAlloc oi && (brkAt ops c && oi.apart ops oc))
      (let ms := midGo ops ops.size (L.setIfInBounds c true)
       match midOk ops oi ms (L.setIfInBounds c true), midOk ops oi ms ((L.setIfInBounds i true).setIfInBounds c true) with
       | some LU, some LX =>
         cond ((Region.ready .any ops LU == [i]) && ((Region.ready .any ops (L.setIfInBounds i true) == [c]) && sameL (LU.setIfInBounds i true) LX)) (some (ms, LX)) none
       | _, _ => none) none
  | _, _ => none

/-- In which order the operations of a region are gone through. -/
def planGo (ops : Array Oper) : Nat → Array Bool → Option (List PStep)
  | 0, L => match Region.ready .any ops L with
    | [] => some []
    | _ => none
  | n + 1, L => match Region.ready .any ops L with
    | [] => some []
    | r :: rs => match (r :: rs).find? fun i => !(brkAt ops i) with
      | some i => cond (Region.free .any ops L i) ((planGo ops n (L.setIfInBounds i true)).map fun p => .take i :: p) none
      | none => match rs with
        | [] => (planGo ops n (L.setIfInBounds r true)).map fun p => .go r :: p
        | [s] => match duoOk ops L r s with
          | some x => (planGo ops n x.2).map fun p => .duo r s x.1 :: p
          | none => match duoOk ops L s r with
            | some x => (planGo ops n x.2).map fun p => .duo s r x.1 :: p
            | none => none
        | _ => none

def weight : List PStep → Nat
  | [] => 0
  | .duo _ _ ms :: p => weight p + ms.length + 2
  | _ :: p => weight p + 1

def plan (ops : Array Oper) : Option (List PStep) := cond (Region.noSelect ops) (match planGo ops ops.size (Array.replicate ops.size false) with
  | some p => cond (Nat.ble (weight p) ops.size) (some p) none
  | none => none) none

theorem planGo_spec {ops : Array Oper} {n : Nat} {L : Array Bool} {p : List PStep} (h : planGo ops n L = some p) :
    (p = [] ∧ Region.ready .any ops L = []) ∨
    (∃ m i p', n = m + 1 ∧ p = .take i :: p' ∧ i ∈ Region.ready .any ops L ∧ brkAt ops i = false ∧ Region.free .any ops L i = true ∧ planGo ops m (L.setIfInBounds i true) = some p') ∨
    (∃ m i p', n = m + 1 ∧ p = .go i :: p' ∧ Region.ready .any ops L = [i] ∧ planGo ops m (L.setIfInBounds i true) = some p') ∨
    (∃ m c i ms L' p', n = m + 1 ∧ p = .duo c i ms :: p' ∧ (∀ j, j ∈ Region.ready .any ops L ↔ j = c ∨ j = i) ∧ duoOk ops L c i = some (ms, L') ∧ planGo ops m L' = some p') := by
  cases n with
  | zero =>
    simp only [planGo] at h
    split at h
    · rename_i hr; simp only [Option.some.injEq] at h; exact .inl ⟨h.symm, hr⟩
    · cases h
  | succ n =>
    simp only [planGo] at h
    split at h
    · rename_i hr; simp only [Option.some.injEq] at h; exact .inl ⟨h.symm, hr⟩
    · rename_i r rs hr
      split at h
      · rename_i i hf
        cases hfr : Region.free .any ops L i with
        | false => rw [hfr] at h; cases h
        | true =>
          rw [hfr] at h
          simp only [cond_true, Option.map_eq_some_iff] at h
          obtain ⟨p', hp, rfl⟩ := h
          have hm := List.mem_of_find?_eq_some hf
          have hb := List.find?_some hf
          simp only [Bool.not_eq_true'] at hb
          exact .inr (.inl ⟨n, i, p', rfl, rfl, hr ▸ hm, hb, hfr, hp⟩)
      · split at h
        · simp only [Option.map_eq_some_iff] at h
          obtain ⟨p', hp, rfl⟩ := h
          exact .inr (.inr (.inl ⟨n, r, p', rfl, rfl, hr, hp⟩))
        · rename_i s _
          split at h
          · rename_i x hx
            simp only [Option.map_eq_some_iff] at h
            obtain ⟨p', hp, rfl⟩ := h
            exact .inr (.inr (.inr ⟨n, r, s, x.1, x.2, p', rfl, rfl, by rw [hr]; simp, hx, hp⟩))
          · split at h
            · rename_i x hx
              simp only [Option.map_eq_some_iff] at h
              obtain ⟨p', hp, rfl⟩ := h
              exact .inr (.inr (.inr ⟨n, s, r, x.1, x.2, p', rfl, rfl, by rw [hr]; simp [or_comm], hx, hp⟩))
            · cases h
        · cases h

theorem duoOk_spec {ops : Array Oper} {L : Array Bool} {c i : Nat} {ms : List Nat} {L' : Array Bool} (h : duoOk ops L c i = some (ms, L')) :
    ∃ oc oi LU, ops[c]? = some oc ∧ ops[i]? = some oi ∧ isAlloc oi = true ∧ brkAt ops c = true ∧ oi.apart ops oc = true ∧
      midOk ops oi ms (L.setIfInBounds c true) = some LU ∧ midOk ops oi ms ((L.setIfInBounds i true).setIfInBounds c true) = some L' ∧
      Region.ready .any ops LU = [i] ∧ Region.ready .any ops (L.setIfInBounds i true) = [c] ∧ LU.setIfInBounds i true = L' := by
  unfold duoOk at h
  split at h
  · rename_i oc oi hoc hoi
    cases hb : (isAlloc oi && (brkAt ops c && oi.apart ops oc)) with
    | false => rw [hb] at h; cases h
    | true =>
      rw [hb] at h
      simp only [cond_true] at h
      simp only [Bool.and_eq_true] at hb
      split at h
      · rename_i LU LX h1 h2
        cases hb2 : ((Region.ready .any ops LU == [i]) && ((Region.ready .any ops (L.setIfInBounds i true) == [c]) && sameL (LU.setIfInBounds i true) LX)) with
        | false => rw [hb2] at h; cases h
        | true =>
          rw [hb2] at h
          simp only [cond_true, Option.some.injEq, Prod.mk.injEq] at h
          obtain ⟨rfl, rfl⟩ := h
          simp only [Bool.and_eq_true, beq_iff_eq, sameL] at hb2
          exact ⟨oc, oi, LU, hoc, hoi, hb.1, hb.2.1, hb.2.2, h1, h2, hb2.1, hb2.2.1, Array.ext' hb2.2.2⟩
      · cases h
    
  · cases h
end Ev
end Go.Proofs.YthckkbhjocjmkaaGreatDoor
