/- The steps on memory of the abstract run: a new block, a block that turns, a block that is taken over under a new number. -/
import Derived.Test.YthckkbhjocjmkaaGreatDoorEv1
namespace Go.Proofs.YthckkbhjocjmkaaGreatDoor
namespace Ev

def Emb.ins (R : Emb) (i : Nat) (e : Nat × Nat) : Emb := fun j => if j = i then some e else R j
theorem Emb.ins_self (R : Emb) (i : Nat) (e : Nat × Nat) : R.ins i e i = some e := by simp [Emb.ins]
theorem Emb.ins_ne (R : Emb) {i j : Nat} (e : Nat × Nat) (h : j ≠ i) : R.ins i e j = R j := by simp [Emb.ins, h]
theorem Emb.le_ins {R : Emb} {i : Nat} {e : Nat × Nat} (h : R i = none) : Emb.le R (R.ins i e) := fun j f hj => by
  by_cases hji : j = i
  · subst hji; rw [h] at hj; cases hj
  · rw [Emb.ins_ne R e hji]; exact hj

theorem new_ins {R : Emb} {n : Nat} (e : Nat × Nat) : ∀ i f, R.ins n e i = some f → R i = some f ∨ n ≤ i := fun i f hf => by
  by_cases hin : i = n
  · exact .inr (Nat.le_of_eq hin.symm)
  · rw [Emb.ins_ne _ _ hin] at hf; exact .inl hf
theorem Rel.none_next {R : Emb} {h : AHeap} {w : World} (hr : Rel R h w) : R h.next = none := by
  cases hn : R h.next with
  | none => rfl
  | some e => exact absurd (hr.fresh _ _ hn) (Nat.lt_irrefl _)
theorem Rel.none_get {R : Emb} {h : AHeap} {w : World} (hr : Rel R h w) : h.get h.next = none := by
  cases hg : h.get h.next with
  | none => rfl
  | some ob =>
    obtain ⟨e, o, he, _⟩ := hr.dom _ _ hg
    rw [hr.none_next] at he; cases he
theorem Rel.lt {R : Emb} {h : AHeap} {w : World} (hr : Rel R h w) {i : Nat} {ob : AObj} (hg : h.get i = some ob) : i < h.next := by
  obtain ⟨e, o, he, _⟩ := hr.dom _ _ hg
  exact hr.fresh _ _ he

/-- A new block. -/
theorem Rel.alloc {R : Emb} {h : AHeap} {w : World} (hr : Rel R h w) {ob : AObj} {o : Obj} {x : Nat} (ho : ObjRel R x ob o) :
    Rel (R.ins h.next (w.heap.size, x)) (h.add ob) { w with heap := w.heap.push o } ∧
    Ext R h w (R.ins h.next (w.heap.size, x)) (h.add ob) { w with heap := w.heap.push o } := by
  have hle : Emb.le R (R.ins h.next (w.heap.size, x)) := Emb.le_ins hr.none_next
  have old : ∀ i oi e, h.get i = some oi → R i = some e → e.1 < w.heap.size := fun i oi e hi he => by
    obtain ⟨e', o', he', hw, _⟩ := hr.dom _ _ hi
    rw [he] at he'; cases he'
    exact (Array.getElem?_eq_some_iff.1 hw).1
  refine ⟨⟨?_, ?_, ?_⟩, ⟨hle, Nat.le_succ _, by simp, ?_, ?_, rfl, rfl, rfl, new_ins _⟩⟩
  · intro i oi hi
    rw [AHeap.get_add] at hi
    by_cases hin : i = h.next
    · subst hin
      rw [if_pos rfl] at hi; cases hi
      exact ⟨_, o, Emb.ins_self _ _ _, by simp, ho.mono hle⟩
    · rw [if_neg hin] at hi
      obtain ⟨e, o', he, hw, hob⟩ := hr.dom _ _ hi
      refine ⟨e, o', hle _ _ he, ?_, hob.mono hle⟩
      have := old i oi e hi he
      simp only [Array.getElem?_push]
      rw [if_neg (by omega)]; exact hw
  · intro i j e f oi oj hi hj he hf hef
    rw [AHeap.get_add] at hi hj
    by_cases hin : i = h.next
    · by_cases hjn : j = h.next
      · rw [hin, hjn]
      · rw [if_neg hjn] at hj
        rw [hin, Emb.ins_self] at he; cases he
        rw [Emb.ins_ne _ _ hjn] at hf
        have := old j oj f hj hf
        simp only at hef; omega
    · rw [if_neg hin] at hi
      rw [Emb.ins_ne _ _ hin] at he
      by_cases hjn : j = h.next
      · rw [hjn, Emb.ins_self] at hf; cases hf
        have := old i oi e hi he
        simp only at hef; omega
      · rw [if_neg hjn] at hj
        rw [Emb.ins_ne _ _ hjn] at hf
        exact hr.inj i j e f oi oj hi hj he hf hef
  · intro i e he
    by_cases hin : i = h.next
    · subst hin; exact Nat.lt_succ_self _
    · rw [Emb.ins_ne _ _ hin] at he
      exact Nat.lt_succ_of_lt (hr.fresh _ _ he)
  · rintro b ⟨j, oj, e, hj, he, rfl⟩
    rw [AHeap.get_add] at hj
    by_cases hjn : j = h.next
    · rw [hjn, Emb.ins_self] at he; cases he; exact .inl (Nat.le_refl _)
    · rw [if_neg hjn] at hj
      rw [Emb.ins_ne _ _ hjn] at he
      exact .inr ⟨j, oj, e, hj, he, rfl⟩
  · intro b hb _
    simp only [Array.getElem?_push]
    rw [if_neg (by omega)]

/-- The worlds part at one block alone. -/
structure Turned (w w' : World) (b : Nat) (o' : Obj) : Prop where
  size : w'.heap.size = w.heap.size
  at_ : w'.heap[b]? = some o'
  same : ∀ k, k ≠ b → w'.heap[k]? = w.heap[k]?
  os : w'.os = w.os
  output : w'.output = w.output
  tape : w'.tape = w.tape

/-- A known block turns. -/
theorem Rel.turn {R : Emb} {h : AHeap} {w w' : World} (hr : Rel R h w) {i : Nat} {ob ob' : AObj} {o' : Obj} {e : Nat × Nat}
    (hi : h.get i = some ob) (he : R i = some e) (ht : Turned w w' e.1 o') (ho : ObjRel R e.2 ob' o') :
    Rel R (h.put i (some ob')) w' ∧ Ext R h w R (h.put i (some ob')) w' := by
  refine ⟨⟨?_, ?_, hr.fresh⟩, ⟨fun _ _ h => h, Nat.le_refl _, by rw [ht.size]; exact Nat.le_refl _, ?_, ?_, ht.os, ht.output, ht.tape, fun _ _ h => .inl h⟩⟩
  · intro j oj hj
    rw [AHeap.get_put] at hj
    by_cases hji : j = i
    · subst hji
      rw [if_pos rfl] at hj; cases hj
      exact ⟨e, o', he, ht.at_, ho⟩
    · rw [if_neg hji] at hj
      obtain ⟨f, o, hf, hw, hob⟩ := hr.dom _ _ hj
      refine ⟨f, o, hf, ?_, hob⟩
      rw [ht.same _ (fun hb => hji (hr.inj _ _ _ _ _ _ hj hi hf he hb))]; exact hw
  · intro j k f g oj ok hj hk hf hg hfg
    rw [AHeap.get_put] at hj hk
    have aux : ∀ {m om}, (if m = i then some ob' else h.get m) = some om → ∃ om', h.get m = some om' := fun {m om} hm => by
      by_cases hmi : m = i
      · subst hmi; exact ⟨_, hi⟩
      · rw [if_neg hmi] at hm; exact ⟨_, hm⟩
    obtain ⟨oj', hj'⟩ := aux hj
    obtain ⟨ok', hk'⟩ := aux hk
    exact hr.inj _ _ _ _ _ _ hj' hk' hf hg hfg
  · rintro b ⟨j, oj, f, hj, hf, rfl⟩
    rw [AHeap.get_put] at hj
    by_cases hji : j = i
    · subst hji; exact .inr ⟨j, ob, f, hi, hf, rfl⟩
    · rw [if_neg hji] at hj; exact .inr ⟨j, oj, f, hj, hf, rfl⟩
  · intro b hb hn
    exact ht.same _ (fun hbe => hn ⟨i, ob, e, hi, he, hbe.symm⟩)

/-- A known block turns, and is known under a new number from now on. -/
theorem Rel.move {R : Emb} {h : AHeap} {w w' : World} (hr : Rel R h w) {i : Nat} {ob ob' : AObj} {o' : Obj} {e : Nat × Nat} {x : Nat}
    (hi : h.get i = some ob) (he : R i = some e) (ht : Turned w w' e.1 o') (ho : ObjRel R x ob' o') :
    Rel (R.ins h.next (e.1, x)) ((h.put i none).add ob') w' ∧ Ext R h w (R.ins h.next (e.1, x)) ((h.put i none).add ob') w' := by
  have hle : Emb.le R (R.ins h.next (e.1, x)) := Emb.le_ins hr.none_next
  have hne : i ≠ h.next := fun hin => by rw [hin, hr.none_get] at hi; cases hi
  have gets : ∀ j, ((h.put i none).add ob').get j = if j = h.next then some ob' else if j = i then none else h.get j := fun j => by
    rw [AHeap.get_add]
    show (if j = h.next then _ else _) = _
    rw [AHeap.get_put]
  refine ⟨⟨?_, ?_, ?_⟩, ⟨hle, Nat.le_succ _, by rw [ht.size]; exact Nat.le_refl _, ?_, ?_, ht.os, ht.output, ht.tape, new_ins _⟩⟩
  · intro j oj hj
    rw [gets] at hj
    by_cases hjn : j = h.next
    · subst hjn
      rw [if_pos rfl] at hj; cases hj
      exact ⟨_, o', Emb.ins_self _ _ _, ht.at_, ho.mono hle⟩
    · rw [if_neg hjn] at hj
      by_cases hji : j = i
      · rw [if_pos hji] at hj; cases hj
      · rw [if_neg hji] at hj
        obtain ⟨f, o, hf, hw, hob⟩ := hr.dom _ _ hj
        refine ⟨f, o, hle _ _ hf, ?_, hob.mono hle⟩
        rw [ht.same _ (fun hb => hji (hr.inj _ _ _ _ _ _ hj hi hf he hb))]; exact hw
  · intro j k f g oj ok hj hk hf hg hfg
    rw [gets] at hj hk
    by_cases hjn : j = h.next
    · by_cases hkn : k = h.next
      · rw [hjn, hkn]
      · rw [if_neg hkn] at hk
        by_cases hki : k = i
        · rw [if_pos hki] at hk; cases hk
        · rw [if_neg hki] at hk
          rw [hjn, Emb.ins_self] at hf; cases hf
          rw [Emb.ins_ne _ _ hkn] at hg
          exact absurd (hr.inj _ _ _ _ _ _ hk hi hg he hfg.symm) hki
    · rw [if_neg hjn] at hj
      by_cases hji : j = i
      · rw [if_pos hji] at hj; cases hj
      · rw [if_neg hji] at hj
        rw [Emb.ins_ne _ _ hjn] at hf
        by_cases hkn : k = h.next
        · rw [hkn, Emb.ins_self] at hg; cases hg
          exact absurd (hr.inj _ _ _ _ _ _ hj hi hf he hfg) hji
        · rw [if_neg hkn] at hk
          by_cases hki : k = i
          · rw [if_pos hki] at hk; cases hk
          · rw [if_neg hki] at hk
            rw [Emb.ins_ne _ _ hkn] at hg
            exact hr.inj _ _ _ _ _ _ hj hk hf hg hfg
  · intro j f hf
    by_cases hjn : j = h.next
    · subst hjn; exact Nat.lt_succ_self _
    · rw [Emb.ins_ne _ _ hjn] at hf
      exact Nat.lt_succ_of_lt (hr.fresh _ _ hf)
  · rintro b ⟨j, oj, f, hj, hf, rfl⟩
    rw [gets] at hj
    by_cases hjn : j = h.next
    · rw [hjn, Emb.ins_self] at hf; cases hf
      exact .inr ⟨i, ob, e, hi, he, rfl⟩
    · rw [if_neg hjn] at hj
      by_cases hji : j = i
      · rw [if_pos hji] at hj; cases hj
      · rw [if_neg hji] at hj
        rw [Emb.ins_ne _ _ hjn] at hf
        exact .inr ⟨j, oj, f, hj, hf, rfl⟩
  · intro b hb hn
    exact ht.same _ (fun hbe => hn ⟨i, ob, e, hi, he, hbe.symm⟩)

/-- What is known of a block is forgotten. -/
theorem Rel.drop {R : Emb} {h : AHeap} {w : World} (hr : Rel R h w) (i : Nat) : Rel R (h.put i none) w ∧ Ext R h w R (h.put i none) w := by
  have aux : ∀ {j oj}, (h.put i none).get j = some oj → h.get j = some oj := fun {j oj} hj => by
    rw [AHeap.get_put] at hj
    by_cases hji : j = i
    · rw [if_pos hji] at hj; cases hj
    · rw [if_neg hji] at hj; exact hj
  refine ⟨⟨fun j oj hj => hr.dom _ _ (aux hj), fun j k f g oj ok hj hk => hr.inj j k f g oj ok (aux hj) (aux hk), hr.fresh⟩,
    ⟨fun _ _ h => h, Nat.le_refl _, Nat.le_refl _, ?_, fun _ _ _ => rfl, rfl, rfl, rfl, fun _ _ h => .inl h⟩⟩
  rintro b ⟨j, oj, f, hj, hf, rfl⟩
  exact .inr ⟨j, oj, f, aux hj, hf, rfl⟩

/-- What the model keeps beside memory may turn. -/
theorem Rel.drawn {R : Emb} {h : AHeap} {w : World} (hr : Rel R h w) (n : Nat) : Rel R h { w with drawn := n } ∧ Ext R h w R h { w with drawn := n } :=
  ⟨⟨hr.dom, hr.inj, hr.fresh⟩, ⟨fun _ _ h => h, Nat.le_refl _, Nat.le_refl _, fun _ h => .inr h, fun _ _ _ => rfl, rfl, rfl, rfl, fun _ _ h => .inl h⟩⟩

/-! ### Cells -/
theorem cell_row {R : Emb} {x : Nat} {c : List Value} {el : TypeId} {s : Nat} {o : Obj} {w : World} {b : Nat} (ho : ObjRel R x (.row c el s) o) (hw : w.heap[b]? = some o)
    {off : Nat} {v : Value} (hv : c[off]? = some v) : ∃ v', w.cell? ⟨b, off, none⟩ = some v' ∧ sub R v = some v' := by
  obtain ⟨c', rest, hc, _, rfl⟩ := ho
  obtain ⟨v', hv', hs⟩ := subL_get hc off v hv
  refine ⟨v', ?_, hs⟩
  have hlt := (List.getElem?_eq_some_iff.1 hv').1
  simp only [World.cell?, hw]
  simp [List.getElem?_append_left hlt, hv']
theorem frozen_row {R : Emb} {x : Nat} {c : List Value} {el : TypeId} {s : Nat} {o : Obj} {w : World} {b : Nat} (ho : ObjRel R x (.row c el s) o) (hw : w.heap[b]? = some o)
    (off : Nat) : w.frozen? ⟨b, off, none⟩ = false := by
  obtain ⟨c', rest, hc, _, rfl⟩ := ho
  simp [World.frozen?, hw]

def oneB : Value → Bool
  | .agg _ | .tuple _ => false
  | _ => true
/-- A run of stores into one row. -/
theorem run_storeCells {P : Program} {b : Nat} {el : TypeId} : ∀ (vs : List Value) (cs : List Value) (off k : Nat) (w : World),
    w.heap[b]? = some (.cells ⟨cs⟩ el (0, 0)) → off + k + vs.length ≤ cs.length → (∀ v ∈ vs, oneB v = true) →
    ∃ w', (storeCells ⟨b, off, none⟩ vs k).run P w = .ok () w' ∧ Turned w w' b (.cells ⟨cs.take (off + k) ++ vs ++ cs.drop (off + k + vs.length)⟩ el (0, 0))
  | [], cs, off, k, w, hw, _, _ => by
    refine ⟨w, by simp [storeCells], ⟨rfl, ?_, fun _ _ => rfl, rfl, rfl, rfl⟩⟩
    simp [hw]
  | v :: vs, cs, off, k, w, hw, hlen, hone => by
    simp only [List.length_cons] at hlen
    have h1 : off + k < cs.length := by omega
    have hadd : (⟨b, off, none⟩ : Addr).add k = ⟨b, off + k, none⟩ := by
      by_cases hk : k = 0
      · subst hk; rfl
      · simp [Addr.add, hk]
    have hcell : w.cell? ⟨b, off + k, none⟩ = some cs[off + k] := by simp [World.cell?, hw, h1]
    have hfr : w.frozen? ⟨b, off + k, none⟩ = false := by simp [World.frozen?, hw]
    have hset : (w.setCell ⟨b, off + k, none⟩ v).heap[b]? = some (.cells ⟨cs.set (off + k) v⟩ el (0, 0)) := by
      simp [World.setCell, Array.getElem?_modify, hw]
    obtain ⟨w', hrun, ht⟩ := run_storeCells (P := P) vs (cs.set (off + k) v) off (k + 1) (w.setCell ⟨b, off + k, none⟩ v) hset (by simp; omega)
      (fun u hu => hone u (List.mem_cons_of_mem _ hu))
    refine ⟨w', ?_, ⟨?_, ?_, ?_, ht.os, ht.output, ht.tape⟩⟩
    · have hv := hone v (List.mem_cons_self ..)
      cases v <;> simp [oneB] at hv <;> simp [storeCells, store, Bind.bind, Sem.bind, Sem.run, hadd, hcell, hfr] <;> exact hrun
    · rw [ht.size]; simp [World.setCell]
    · rw [ht.at_]
      congr 3
      rw [show off + (k + 1) = off + k + 1 from by omega]
      have e1 : (cs.set (off + k) v).take (off + k + 1) = cs.take (off + k) ++ [v] := by
        rw [List.take_succ_eq_append_getElem (by simpa using h1), List.take_set_of_le (Nat.le_refl _)]
        simp
      have e2 : (cs.set (off + k) v).drop (off + k + 1 + vs.length) = cs.drop (off + k + 1 + vs.length) := by
        rw [List.drop_set_of_lt (by omega)]
      rw [e1, e2]
      simp [List.length_cons]
      congr 1
      omega
    · intro j hj
      rw [ht.same j hj]
      simp only [World.setCell, Array.getElem?_modify]
      rw [if_neg (fun h => hj h.symm)]
end Ev
end Go.Proofs.YthckkbhjocjmkaaGreatDoor
