/- Calls whose outcome is known: a table of calls on heaps in their own numbers, each proved by itself, and how a call on any heap is answered out of it. -/
import Derived.Test.YthckkbhjocjmkaaGreatDoorEvK
namespace Go.Proofs.YthckkbhjocjmkaaGreatDoor
namespace Ev

/-- One outcome: the value, the known blocks as they are then (none: not known any more), the new ones. -/
structure MOut where
  v : Value
  olds : List (Option AObj)
  news : List AObj
structure Memo where
  f : FuncId
  args : List Value
  objs : List AObj
  outs : List MOut

def heap0 : AHeap := ⟨0, .nil⟩
def heapOf (objs : List AObj) : AHeap := addAll heap0 objs
/-- The blocks numbered ids are put anew. -/
def putAll : AHeap → List Nat → List (Option AObj) → AHeap
  | h, i :: ids, o :: os => putAll (h.put i o) ids os
  | h, _, _ => h
theorem putAll_next : ∀ (ids : List Nat) (os : List (Option AObj)) (h : AHeap), (putAll h ids os).next = h.next
  | [], _, h => by cases ‹List (Option AObj)› <;> rfl
  | _ :: _, [], _ => rfl
  | i :: ids, o :: os, h => by simp only [putAll, putAll_next ids os]; rfl
theorem putAll_get : ∀ (ids : List Nat) (os : List (Option AObj)) (h : AHeap), nodupB ids = true → os.length = ids.length → ∀ i,
    (∀ (k : Nat) (o : Option AObj), ids[k]? = some i → os[k]? = some o → (putAll h ids os).get i = o) ∧ (i ∉ ids → (putAll h ids os).get i = h.get i)
  | [], [], h, _, _, i => ⟨fun k o hk => by simp at hk, fun _ => rfl⟩
  | [], _ :: _, _, _, hl, _ => by simp at hl
  | _ :: _, [], _, _, hl, _ => by simp at hl
  | j :: ids, p :: os, h, hn, hl, i => by
    simp only [nodupB, Bool.and_eq_true, Bool.not_eq_true'] at hn
    have hj : j ∉ ids := fun hm => by rw [hasN_iff.2 hm] at hn; cases hn.1
    have ih := putAll_get ids os (h.put j p) hn.2 (by simpa using hl) i
    simp only [putAll]
    refine ⟨fun k o hk ho => ?_, fun hm => ?_⟩
    · cases k with
      | zero =>
        simp only [List.getElem?_cons_zero, Option.some.injEq] at hk ho
        subst hk; subst ho
        rw [ih.2 hj, AHeap.get_put, if_pos rfl]
      | succ k =>
        simp only [List.getElem?_cons_succ] at hk ho
        exact ih.1 k o hk ho
    · rw [List.mem_cons, not_or] at hm
      rw [ih.2 hm.2, AHeap.get_put, if_neg hm.1]

def MOut.heap (objs : List AObj) (o : MOut) : AHeap := addAll (putAll (heapOf objs) (List.range objs.length) o.olds) o.news

def MemoOk (E : Env) (e : Memo) : Prop := ∀ R w args', Rel R (heapOf e.objs) w → subL R e.args = some args' →
  OpRes E.P false (Lands R (heapOf e.objs) w (e.outs.map fun o => (o.v, o.heap e.objs))) ((callFunc e.f ⟨args'⟩).run E.P w)

theorem heapOf_next (objs : List AObj) : (heapOf objs).next = objs.length := by
  rw [heapOf, addAll_next]; exact Nat.zero_add _
theorem heapOf_get (objs : List AObj) (j : Nat) : (heapOf objs).get j = objs[j]? := by
  rw [heapOf, addAll_get]
  by_cases h : heap0.next ≤ j ∧ j < heap0.next + objs.length
  · rw [if_pos h]; rfl
  · rw [if_neg h]
    have hn : heap0.next = 0 := rfl
    rw [hn] at h
    rw [List.getElem?_eq_none (by omega)]
    rfl

theorem nodup_range (n : Nat) : nodupB (List.range n) = true := by
  rw [List.range_eq_range']
  have key : ∀ (n k : Nat), nodupB (List.range' k n) = true := by
    intro n
    induction n with
    | zero => intro k; rfl
    | succ n ih =>
      intro k
      rw [List.range'_succ]
      simp only [nodupB, ih, Bool.and_true, Bool.not_eq_true']
      cases hh : hasN (List.range' (k + 1) n) k with
      | false => rfl
      | true =>
        have := hasN_iff.1 hh
        rw [List.mem_range'_1] at this
        omega
  exact key n 0

theorem MOut.heap_next (objs : List AObj) (o : MOut) : (o.heap objs).next = objs.length + o.news.length := by
  rw [MOut.heap, addAll_next, putAll_next, heapOf_next]
theorem MOut.heap_get {objs : List AObj} {o : MOut} (hl : o.olds.length = objs.length) (j : Nat) :
    (∀ ob, o.olds[j]? = some ob → (o.heap objs).get j = ob) ∧ (∀ k, j = objs.length + k → (o.heap objs).get j = o.news[k]?) := by
  have hp := putAll_get (List.range objs.length) o.olds (heapOf objs) (nodup_range _) (by simpa using hl) j
  have hn : (putAll (heapOf objs) (List.range objs.length) o.olds).next = objs.length := by rw [putAll_next, heapOf_next]
  refine ⟨fun ob hob => ?_, fun k hk => ?_⟩
  · have hj : j < objs.length := by rw [← hl]; exact (List.getElem?_eq_some_iff.1 hob).1
    rw [MOut.heap, addAll_get, hn, if_neg (by omega)]
    exact hp.1 j ob (by rw [List.getElem?_range hj]) hob
  · subst hk
    rw [MOut.heap, addAll_get, hn]
    by_cases hlt : k < o.news.length
    · rw [if_pos (by omega), Nat.add_sub_cancel_left]
    · rw [if_neg (by omega), hp.2 (by rw [List.mem_range]; omega), heapOf_get, List.getElem?_eq_none (by omega), List.getElem?_eq_none (by omega)]

/-! ### There and back -/
def rnTo (ids : List Nat) (i : Nat) : Option Nat := findIx i ids 0
def rnBack (next : Nat) (ids : List Nat) (j : Nat) : Option Nat := cond (Nat.blt j ids.length) ids[j]? (some (next + (j - ids.length)))
def backOlds (rn : Nat → Option Nat) : List (Option AObj) → Option (List (Option AObj))
  | [] => some []
  | none :: l => (backOlds rn l).map fun l' => none :: l'
  | some o :: l => (renO rn o).bind fun o' => (backOlds rn l).map fun l' => some o' :: l'
def backNews (rn : Nat → Option Nat) : List AObj → Option (List AObj)
  | [] => some []
  | o :: l => (renO rn o).bind fun o' => (backNews rn l).map fun l' => o' :: l'
theorem backOlds_get {rn : Nat → Option Nat} : ∀ {l : List (Option AObj)} {l' : List (Option AObj)}, backOlds rn l = some l' → l'.length = l.length ∧ ∀ (k : Nat) (o' : AObj), l'[k]? = some (some o') → ∃ o, l[k]? = some (some o) ∧ renO rn o = some o'
  | [], l', h => by
    simp only [backOlds, Option.some.injEq] at h
    subst h
    exact ⟨rfl, fun k o hk => by simp at hk⟩
  | none :: l, l', h => by
    simp only [backOlds, Option.map_eq_some_iff] at h
    obtain ⟨m, hm, rfl⟩ := h
    obtain ⟨h1, h2⟩ := backOlds_get hm
    refine ⟨by simp [h1], fun k o hk => ?_⟩
    cases k with
    | zero => simp at hk
    | succ k => simp only [List.getElem?_cons_succ] at hk ⊢; exact h2 k o hk
  | some x :: l, l', h => by
    simp only [backOlds, Option.map_eq_some_iff, Option.bind_eq_some_iff] at h
    obtain ⟨x', hx, m, hm, rfl⟩ := h
    obtain ⟨h1, h2⟩ := backOlds_get hm
    refine ⟨by simp [h1], fun k o hk => ?_⟩
    cases k with
    | zero => simp only [List.getElem?_cons_zero, Option.some.injEq] at hk; subst hk; exact ⟨x, rfl, hx⟩
    | succ k => simp only [List.getElem?_cons_succ] at hk ⊢; exact h2 k o hk
theorem backNews_get {rn : Nat → Option Nat} : ∀ {l l' : List AObj}, backNews rn l = some l' → l'.length = l.length ∧ ∀ (k : Nat) (o' : AObj), l'[k]? = some o' → ∃ o, l[k]? = some o ∧ renO rn o = some o'
  | [], l', h => by
    simp only [backNews, Option.some.injEq] at h
    subst h
    exact ⟨rfl, fun k o hk => by simp at hk⟩
  | x :: l, l', h => by
    simp only [backNews, Option.map_eq_some_iff, Option.bind_eq_some_iff] at h
    obtain ⟨x', hx, m, hm, rfl⟩ := h
    obtain ⟨h1, h2⟩ := backNews_get hm
    refine ⟨by simp [h1], fun k o hk => ?_⟩
    cases k with
    | zero => simp only [List.getElem?_cons_zero, Option.some.injEq] at hk; subst hk; exact ⟨x, rfl, hx⟩
    | succ k => simp only [List.getElem?_cons_succ] at hk ⊢; exact h2 k o hk

def embTo (R : Emb) (ids : List Nat) : Emb := fun j => (ids[j]?).bind R

theorem canon_rel {R : Emb} {h : AHeap} {w : World} {ids : List Nat} {objs : List AObj} (hr : Rel R h w) (hnd : nodupB ids = true) (ho : renObjs h (rnTo ids) ids = some objs) :
    Rel (embTo R ids) (heapOf objs) w ∧ (∀ i j e, rnTo ids i = some j → R i = some e → embTo R ids j = some e) ∧ (∀ (k i : Nat), ids[k]? = some i → ∃ ob, h.get i = some ob) := by
  obtain ⟨hlen, hget⟩ := renObjs_get ho
  have hrn : ∀ i j e, rnTo ids i = some j → R i = some e → embTo R ids j = some e := by
    intro i j e hj he
    obtain ⟨m, rfl, hm⟩ := findIx_spec hj
    rw [Nat.zero_add]
    simp only [embTo, hm, Option.bind_some, he]
  have back : ∀ j ob, (heapOf objs).get j = some ob → ∃ i ob0, ids[j]? = some i ∧ h.get i = some ob0 ∧ renO (rnTo ids) ob0 = some ob := by
    intro j ob hj
    rw [heapOf_get] at hj
    exact hget j ob hj
  refine ⟨⟨?_, ?_, ?_⟩, hrn, ?_⟩
  · intro j ob hj
    obtain ⟨i, ob0, hi, hg, hro⟩ := back j ob hj
    obtain ⟨e, o, he, hw, hob⟩ := hr.dom i ob0 hg
    exact ⟨e, o, by simp only [embTo, hi, Option.bind_some, he], hw, renO_rel hrn hro hob⟩
  · intro j k e f oj ok hj hk he hf hef
    obtain ⟨i, ob0, hi, hg, _⟩ := back j oj hj
    obtain ⟨i2, ob2, hi2, hg2, _⟩ := back k ok hk
    simp only [embTo, hi, Option.bind_some] at he
    simp only [embTo, hi2, Option.bind_some] at hf
    have := hr.inj i i2 e f ob0 ob2 hg hg2 he hf hef
    subst this
    exact nodupB_get hnd hi hi2
  · intro j e he
    rw [heapOf_next, hlen]
    unfold embTo at he
    cases hj : ids[j]? with
    | none => rw [hj] at he; cases he
    | some i => exact (List.getElem?_eq_some_iff.1 hj).1
  · intro k i hk
    have hlt := (List.getElem?_eq_some_iff.1 hk).1
    have hk' : k < objs.length := by omega
    obtain ⟨n, ob, h1, h2, _⟩ := hget k objs[k] (List.getElem?_eq_getElem hk')
    rw [hk] at h1
    cases h1
    exact ⟨ob, h2⟩

theorem unmemo {R R1 : Emb} {h : AHeap} {w w' : World} {ids : List Nat} {objs : List AObj} {o : MOut} {v v' : Value} {olds' : List (Option AObj)} {news' : List AObj} (hr : Rel R h w) (hnd : nodupB ids = true)
    (ho : renObjs h (rnTo ids) ids = some objs) (hol : o.olds.length = objs.length) (hext : Ext (embTo R ids) (heapOf objs) w R1 (o.heap objs) w') (hrel : Rel R1 (o.heap objs) w') (hv : sub R1 o.v = some v')
    (hvb : renV (rnBack h.next ids) o.v = some v) (hob : backOlds (rnBack h.next ids) o.olds = some olds') (hnb : backNews (rnBack h.next ids) o.news = some news') :
    ∃ R2, Ext R h w R2 (addAll (putAll h ids olds') news') w' ∧ Rel R2 (addAll (putAll h ids olds') news') w' ∧ sub R2 v = some v' := by
  obtain ⟨hcr, hrn, hin⟩ := canon_rel hr hnd ho
  obtain ⟨hlen, hget⟩ := renObjs_get ho
  obtain ⟨hol1, hol2⟩ := backOlds_get hob
  obtain ⟨hnl1, hnl2⟩ := backNews_get hnb
  have hCn : (heapOf objs).next = ids.length := by rw [heapOf_next, hlen]
  let R2 : Emb := fun i => if i < h.next then R i else R1 (ids.length + (i - h.next))
  have hR2o : ∀ i, i < h.next → R2 i = R i := fun i hi => if_pos hi
  have hR2n : ∀ k, R2 (h.next + k) = R1 (ids.length + k) := fun k => by
    show (if h.next + k < h.next then _ else _) = _
    rw [if_neg (by omega), Nat.add_sub_cancel_left]
  have hle2 : Emb.le R R2 := fun i e he => by rw [hR2o i (hr.fresh _ _ he)]; exact he
  -- a small number of the outcome stands for what it stood for
  have hold : ∀ k i e, ids[k]? = some i → R1 k = some e → R i = some e := by
    intro k i e hk he
    have hlt := (List.getElem?_eq_some_iff.1 hk).1
    rcases hext.new k e he with h1 | h1
    · simpa only [embTo, hk, Option.bind_some] using h1
    · rw [hCn] at h1; omega
  have hrnb : ∀ j i e, rnBack h.next ids j = some i → R1 j = some e → R2 i = some e := by
    intro j i e hj he
    unfold rnBack at hj
    cases hb : Nat.blt j ids.length with
    | true =>
      rw [hb] at hj
      have := hold j i e hj he
      rw [hR2o i (hr.fresh _ _ this)]
      exact this
    | false =>
      rw [hb] at hj
      simp only [cond_false, Option.some.injEq] at hj
      subst hj
      have hge : ids.length ≤ j := Nat.le_of_not_lt fun hlt => by
        have : Nat.blt j ids.length = true := Nat.ble_eq_true_of_le hlt
        rw [this] at hb; cases hb
      rw [hR2n, show ids.length + (j - ids.length) = j by omega]
      exact he
  have hidlt : ∀ k i, ids[k]? = some i → i < h.next := fun k i hk => by
    obtain ⟨ob, hob⟩ := hin k i hk
    exact hr.lt hob
  have hnone : ∀ i, h.next ≤ i → h.get i = none := fun i hi => by
    cases hg : h.get i with
    | none => rfl
    | some ob => exact absurd (hr.lt hg) (Nat.not_lt_of_le hi)
  -- what stands in the heap behind
  have gets : ∀ i ob, (addAll (putAll h ids olds') news').get i = some ob →
      (∃ k ob0, ids[k]? = some i ∧ (o.heap objs).get k = some ob0 ∧ renO (rnBack h.next ids) ob0 = some ob) ∨
      (i ∉ ids ∧ h.get i = some ob) ∨
      (∃ k ob0, i = h.next + k ∧ (o.heap objs).get (ids.length + k) = some ob0 ∧ renO (rnBack h.next ids) ob0 = some ob) := by
    intro i ob hi
    rw [addAll_get, putAll_next] at hi
    have hp := putAll_get ids olds' h hnd (by omega) i
    by_cases hlt : h.next ≤ i ∧ i < h.next + news'.length
    · rw [if_pos hlt] at hi
      obtain ⟨ob0, h1, h2⟩ := hnl2 _ _ hi
      refine .inr (.inr ⟨i - h.next, ob0, by omega, ?_, h2⟩)
      rw [(MOut.heap_get hol (ids.length + (i - h.next))).2 (i - h.next) (by rw [hlen])]
      exact h1
    · rw [if_neg hlt] at hi
      by_cases hm : i ∈ ids
      · obtain ⟨k, hk⟩ := List.getElem?_of_mem hm
        have hk2 := (List.getElem?_eq_some_iff.1 hk).1
        have hk' : k < olds'.length := by omega
        have := hp.1 k olds'[k] hk (List.getElem?_eq_getElem hk')
        rw [this] at hi
        obtain ⟨ob0, h1, h2⟩ := hol2 k ob (by rw [List.getElem?_eq_getElem hk', hi])
        exact .inl ⟨k, ob0, hk, (MOut.heap_get hol k).1 _ h1, h2⟩
      · rw [hp.2 hm] at hi
        exact .inr (.inl ⟨hm, hi⟩)
  have ownC : ∀ b, Owns (embTo R ids) (heapOf objs) b → ∃ (k i : Nat) (ob : AObj) (e : Nat × Nat), ids[k]? = some i ∧ h.get i = some ob ∧ R i = some e ∧ e.1 = b := by
    rintro b ⟨j, oj, e, hj, he, hb⟩
    rw [heapOf_get] at hj
    obtain ⟨i, ob, hi, hg, _⟩ := hget j oj hj
    simp only [embTo, hi, Option.bind_some] at he
    exact ⟨j, i, ob, e, hi, hg, he, hb⟩
  have hblk : ∀ i ob e, h.get i = some ob → R i = some e → e.1 < w.heap.size := fun i ob e hi he => by
    obtain ⟨e', o', he', hw, _⟩ := hr.dom _ _ hi
    rw [he] at he'; cases he'
    exact (Array.getElem?_eq_some_iff.1 hw).1
  have otherNot : ∀ i ob e, i ∉ ids → h.get i = some ob → R i = some e → ¬ Owns (embTo R ids) (heapOf objs) e.1 := by
    intro i ob e hm hg he hown
    obtain ⟨k, q, obq, f, hk, hgq, hf, hfe⟩ := ownC _ hown
    have := hr.inj q i f e obq ob hgq hg hf he hfe
    subst this
    exact hm (List.mem_of_getElem? hk)
  refine ⟨R2, ⟨hle2, ?_, hext.size, ?_, ?_, hext.os, hext.output, hext.tape, ?_⟩, ⟨?_, ?_, ?_⟩, ?_⟩
  · rw [addAll_next, putAll_next]; exact Nat.le_add_right _ _
  · rintro b ⟨i, oi, e, hi, he, rfl⟩
    rcases gets i oi hi with ⟨k, ob0, hk, hc, _⟩ | ⟨hm, hg⟩ | ⟨k, ob0, rfl, hc, _⟩
    · rw [hR2o i (hidlt k i hk)] at he
      obtain ⟨ob, hob⟩ := hin k i hk
      exact .inr ⟨i, ob, e, hob, he, rfl⟩
    · rw [hR2o i (hr.lt hg)] at he
      exact .inr ⟨i, oi, e, hg, he, rfl⟩
    · rw [hR2n] at he
      rcases hext.own e.1 ⟨_, ob0, e, hc, he, rfl⟩ with h1 | h1
      · exact .inl h1
      · obtain ⟨k2, q, obq, f, hk2, hgq, hf, hfe⟩ := ownC _ h1
        exact .inr ⟨q, obq, f, hgq, hf, hfe⟩
  · intro b hb hno
    refine hext.same b hb fun hown => hno ?_
    obtain ⟨k2, q, obq, f, hk2, hgq, hf, hfe⟩ := ownC _ hown
    exact ⟨q, obq, f, hgq, hf, hfe⟩
  · intro i e he
    by_cases hi : i < h.next
    · rw [hR2o i hi] at he; exact .inl he
    · exact .inr (Nat.le_of_not_lt hi)
  · intro i oi hi
    rcases gets i oi hi with ⟨k, ob0, hk, hc, hro⟩ | ⟨hm, hg⟩ | ⟨k, ob0, rfl, hc, hro⟩
    · obtain ⟨e, ob, he, hw, hobr⟩ := hrel.dom k ob0 hc
      exact ⟨e, ob, by rw [hR2o i (hidlt k i hk)]; exact hold k i e hk he, hw, renO_rel hrnb hro hobr⟩
    · obtain ⟨e, ob, he, hw, hobr⟩ := hr.dom i oi hg
      refine ⟨e, ob, hle2 _ _ he, ?_, hobr.mono hle2⟩
      rw [hext.same e.1 (hblk i oi e hg he) (otherNot i oi e hm hg he)]
      exact hw
    · obtain ⟨e, ob, he, hw, hobr⟩ := hrel.dom _ ob0 hc
      exact ⟨e, ob, by rw [hR2n]; exact he, hw, renO_rel hrnb hro hobr⟩
  · have newOther : ∀ i ob e k ob0 f, i ∉ ids → h.get i = some ob → R i = some e → (o.heap objs).get (ids.length + k) = some ob0 → R1 (ids.length + k) = some f → e.1 ≠ f.1 := by
      intro i ob e k ob0 f hm hg he hc hf hef
      rcases hext.own f.1 ⟨_, ob0, f, hc, hf, rfl⟩ with h1 | h1
      · have := hblk i ob e hg he
        omega
      · exact otherNot i ob e hm hg he (hef ▸ h1)
    have recover : ∀ k i e, ids[k]? = some i → (∃ ob0, (o.heap objs).get k = some ob0) → R i = some e → R1 k = some e := by
      rintro k i e hk ⟨ob0, hc⟩ he
      obtain ⟨f, ob, hf, _, _⟩ := hrel.dom k ob0 hc
      have := hold k i f hk hf
      rw [he] at this
      cases this
      exact hf
    intro i j e f oi oj hi hj he hf hef
    rcases gets i oi hi with ⟨k, ob0, hk, hc, hro⟩ | ⟨hm, hg⟩ | ⟨k, ob0, rfl, hc, hro⟩
    · rw [hR2o i (hidlt k i hk)] at he
      rcases gets j oj hj with ⟨k2, ob2, hk2, hc2, hro2⟩ | ⟨hm2, hg2⟩ | ⟨k2, ob2, rfl, hc2, hro2⟩
      · rw [hR2o j (hidlt k2 j hk2)] at hf
        have := hrel.inj k k2 e f ob0 ob2 hc hc2 (recover k i e hk ⟨ob0, hc⟩ he) (recover k2 j f hk2 ⟨ob2, hc2⟩ hf) hef
        subst this
        rw [hk] at hk2
        cases hk2
        rfl
      · rw [hR2o j (hr.lt hg2)] at hf
        obtain ⟨ob, hob⟩ := hin k i hk
        exact hr.inj i j e f ob oj hob hg2 he hf hef
      · rw [hR2n] at hf
        have := hrel.inj k _ e f ob0 ob2 hc hc2 (recover k i e hk ⟨ob0, hc⟩ he) hf hef
        have hlt := (List.getElem?_eq_some_iff.1 hk).1
        omega
    · rw [hR2o i (hr.lt hg)] at he
      rcases gets j oj hj with ⟨k2, ob2, hk2, hc2, hro2⟩ | ⟨hm2, hg2⟩ | ⟨k2, ob2, rfl, hc2, hro2⟩
      · rw [hR2o j (hidlt k2 j hk2)] at hf
        obtain ⟨ob, hob⟩ := hin k2 j hk2
        exact hr.inj i j e f oi ob hg hob he hf hef
      · rw [hR2o j (hr.lt hg2)] at hf
        exact hr.inj i j e f oi oj hg hg2 he hf hef
      · rw [hR2n] at hf
        exact absurd hef (newOther i oi e k2 ob2 f hm hg he hc2 hf)
    · rw [hR2n] at he
      rcases gets j oj hj with ⟨k2, ob2, hk2, hc2, hro2⟩ | ⟨hm2, hg2⟩ | ⟨k2, ob2, rfl, hc2, hro2⟩
      · rw [hR2o j (hidlt k2 j hk2)] at hf
        have := hrel.inj _ k2 e f ob0 ob2 hc hc2 he (recover k2 j f hk2 ⟨ob2, hc2⟩ hf) hef
        have hlt := (List.getElem?_eq_some_iff.1 hk2).1
        omega
      · rw [hR2o j (hr.lt hg2)] at hf
        exact absurd hef.symm (newOther j oj f k ob0 e hm2 hg2 hf hc he)
      · rw [hR2n] at hf
        have := hrel.inj _ _ e f ob0 ob2 hc hc2 he hf hef
        omega
  · intro i e he
    rw [addAll_next, putAll_next]
    by_cases hi : i < h.next
    · omega
    · obtain ⟨k, rfl⟩ : ∃ k, i = h.next + k := ⟨i - h.next, by omega⟩
      rw [hR2n] at he
      have := hrel.fresh _ _ he
      rw [MOut.heap_next] at this
      omega
  · exact renV_sub hrnb o.v v v' hvb hv

/-! ### A call that is answered out of the table -/
def ansBack (h : AHeap) (ids : List Nat) (o : MOut) : Option VOut :=
  (renV (rnBack h.next ids) o.v).bind fun v => (backOlds (rnBack h.next ids) o.olds).bind fun os => (backNews (rnBack h.next ids) o.news).map fun ns => (v, addAll (putAll h ids os) ns)
def ansAll (h : AHeap) (ids : List Nat) : List MOut → Option (List VOut)
  | [] => some []
  | o :: l => (ansBack h ids o).bind fun x => (ansAll h ids l).map fun m => x :: m
theorem ansAll_mem {h : AHeap} {ids : List Nat} : ∀ {l : List MOut} {m : List VOut}, ansAll h ids l = some m → ∀ o ∈ l, ∃ x, ansBack h ids o = some x ∧ x ∈ m
  | [], m, _, o, ho => by cases ho
  | y :: l, m, hm, o, ho => by
    simp only [ansAll, Option.map_eq_some_iff, Option.bind_eq_some_iff] at hm
    obtain ⟨z, hz, m', hm', rfl⟩ := hm
    rcases List.mem_cons.1 ho with rfl | ho
    · exact ⟨z, hz, List.mem_cons_self⟩
    · obtain ⟨u, hu, hum⟩ := ansAll_mem hm' o ho
      exact ⟨u, hu, List.mem_cons_of_mem _ hum⟩

abbrev Find := FuncId → List Value → List AObj → Option Memo
def memoAns2 (find : Find) (f : FuncId) (h : AHeap) (ids : List Nat) (as : List Value) (os : List AObj) : Option (List VOut) :=
  match find f as os with
  | some e => cond (Nat.beq e.f f && (veqL e.args as && (eqOs e.objs os && e.outs.all fun o => Nat.beq o.olds.length e.objs.length))) (ansAll h ids e.outs) none
  | none => none
def memoAns1 (find : Find) (f : FuncId) (args : List Value) (h : AHeap) (ids : List Nat) : Option (List VOut) :=
  cond (nodupB ids) (match renL (rnTo ids) args, renObjs h (rnTo ids) ids with
    | some as, some os => memoAns2 find f h ids as os
    | _, _ => none) none
def memoAns (find : Find) (fuel : Nat) (f : FuncId) (args : List Value) (h : AHeap) : Option (List VOut) := memoAns1 find f args h (foot h 0 fuel (idsL args []) []).reverse
def orElse (a b : Option (List VOut)) : Option (List VOut) :=
  match a with
  | some x => some x
  | none => b
def memoed (sel : FuncId → Bool) (find : Find) (fuel : Nat) (g : CallF) : CallF := fun f args h => cond (sel f) (orElse (memoAns find fuel f args h) (g f args h)) (g f args h)

theorem memoAns1_ok {E : Env} {find : Find} (hfind : ∀ f as os e, find f as os = some e → MemoOk E e) {f : FuncId} {args : List Value} {h : AHeap} {ids : List Nat} {outs : List VOut} (hs : memoAns1 find f args h ids = some outs)
    {R : Emb} {w : World} {args' : List Value} (hr : Rel R h w) (ha : subL R args = some args') : OpRes E.P false (Lands R h w outs) ((callFunc f ⟨args'⟩).run E.P w) := by
  unfold memoAns1 at hs
  cases hnd : nodupB ids with
  | false => rw [hnd] at hs; cases hs
  | true =>
    rw [hnd] at hs
    simp only [cond_true] at hs
    split at hs
    · rename_i as os has hos
      unfold memoAns2 at hs
      split at hs
      · rename_i e he
        cases hc : (Nat.beq e.f f && (veqL e.args as && (eqOs e.objs os && e.outs.all fun o => Nat.beq o.olds.length e.objs.length))) with
        | false => rw [hc] at hs; cases hs
        | true =>
          rw [hc] at hs
          simp only [cond_true] at hs
          simp only [Bool.and_eq_true] at hc
          obtain ⟨h1, h2, h3, h4⟩ := hc
          have h1 := Nat.eq_of_beq_eq_true h1
          have h2 := veqL_eq _ _ h2
          have h3 := eqOs_eq h3
          subst h1; subst h2; subst h3
          obtain ⟨hcr, hrn, _⟩ := canon_rel hr hnd hos
          have hargs := renL_sub hrn _ _ _ has ha
          refine (hfind _ _ _ e he _ w args' hcr hargs).mono (fun h => by cases h) ?_
          rintro v' w' ⟨out, hout, R1, hext, hrel, hsub⟩
          obtain ⟨o, ho, rfl⟩ := List.mem_map.1 hout
          obtain ⟨x, hx, hxm⟩ := ansAll_mem hs o ho
          simp only [ansBack, Option.map_eq_some_iff, Option.bind_eq_some_iff] at hx
          obtain ⟨v, hv, olds', hold, news', hnew, rfl⟩ := hx
          have hol := Nat.eq_of_beq_eq_true (List.all_eq_true.1 h4 o ho)
          obtain ⟨R2, k1, k2, k3⟩ := unmemo hr hnd hos hol hext hrel hsub hv hold hnew
          exact ⟨_, hxm, R2, k1, k2, k3⟩
      · cases hs
    · cases hs

theorem memoed_ok {E : Env} {sel : FuncId → Bool} {find : Find} {fuel : Nat} (hfind : ∀ f as os e, find f as os = some e → MemoOk E e) {g : CallF} (hg : CallFOk E g) : CallFOk E (memoed sel find fuel g) := by
  intro f args h outs hs R w args' hr ha
  unfold memoed at hs
  cases hb : sel f with
  | false => rw [hb] at hs; exact hg f args h outs hs R w args' hr ha
  | true =>
    rw [hb] at hs
    simp only [cond_true, orElse] at hs
    split at hs
    · rename_i x hx
      simp only [Option.some.injEq] at hs
      subst hs
      exact memoAns1_ok hfind hx hr ha
    · exact hg f args h outs hs R w args' hr ha

/-! ### How an entry is proved -/
def idsOlds : List (Option AObj) → List Nat → List Nat
  | [], k => k
  | none :: l, k => idsOlds l k
  | some o :: l, k => idsO o (idsOlds l k)
def oldsOf (h : AHeap) (m : Nat) : List (Option AObj) := (List.range m).map h.get
def normM2 (m : Nat) (ns : List Nat) (x : VOut) : Option MOut :=
  cond (nodupB ns && ns.all fun n => Nat.ble m n)
    ((renV (rnOf m ns) x.1).bind fun v => (backOlds (rnOf m ns) (oldsOf x.2 m)).bind fun os => (renObjs x.2 (rnOf m ns) ns).map fun nw => ⟨v, os, nw⟩) none
def normM (fuel m : Nat) (x : VOut) : Option MOut := normM2 m (foot x.2 m fuel (idsOlds (oldsOf x.2 m) (idsV x.1 [])) []).reverse x
def eqOlds : List (Option AObj) → List (Option AObj) → Bool
  | [], [] => true
  | none :: l, none :: m => eqOlds l m
  | some a :: l, some b :: m => eqO a b && eqOlds l m
  | _, _ => false
theorem eqOlds_eq : ∀ {l m : List (Option AObj)}, eqOlds l m = true → l = m
  | [], [], _ => rfl
  | [], _ :: _, h => by cases h
  | none :: _, [], h => by cases h
  | some _ :: _, [], h => by cases h
  | none :: l, none :: m, h => by rw [eqOlds_eq (l := l) (m := m) h]
  | none :: _, some _ :: _, h => by cases h
  | some _ :: _, none :: _, h => by cases h
  | some a :: l, some b :: m, h => by
    simp only [eqOlds, Bool.and_eq_true] at h
    rw [eqO_eq h.1, eqOlds_eq h.2]
def eqM (x y : MOut) : Bool := veq x.v y.v && (eqOlds x.olds y.olds && eqOs x.news y.news)
theorem eqM_eq {x y : MOut} (h : eqM x y = true) : x = y := by
  obtain ⟨v, o, n⟩ := x
  obtain ⟨v', o', n'⟩ := y
  simp only [eqM, Bool.and_eq_true] at h
  rw [veq_eq _ _ h.1, eqOlds_eq h.2.1, eqOs_eq h.2.2]

theorem renorm {R R' : Emb} {objs : List AObj} {w w' : World} {ns : List Nat} {x : VOut} {y : MOut} {v' : Value} (hr : Rel R (heapOf objs) w) (hext : Ext R (heapOf objs) w R' x.2 w') (hrel : Rel R' x.2 w') (hv : sub R' x.1 = some v')
    (hn : normM2 objs.length ns x = some y) : ∃ R2, Ext R (heapOf objs) w R2 (y.heap objs) w' ∧ Rel R2 (y.heap objs) w' ∧ sub R2 y.v = some v' := by
  unfold normM2 at hn
  cases hc : (nodupB ns && ns.all fun n => Nat.ble objs.length n) with
  | false => rw [hc] at hn; cases hn
  | true =>
    rw [hc] at hn
    simp only [cond_true, Option.map_eq_some_iff, Option.bind_eq_some_iff] at hn
    obtain ⟨u, hu, os, hos, nw, hnw, rfl⟩ := hn
    simp only [Bool.and_eq_true, List.all_eq_true, Nat.ble_eq] at hc
    obtain ⟨hnd, hge⟩ := hc
    have hnx := heapOf_next objs
    obtain ⟨hol, hog⟩ := backOlds_get hos
    obtain ⟨hnl, hng⟩ := renObjs_get hnw
    have hol' : os.length = objs.length := by rw [hol]; simp [oldsOf]
    let R2 : Emb := fun i => if i < objs.length then R i else (ns[i - objs.length]?).bind R'
    have hR2o : ∀ i, i < objs.length → R2 i = R i := fun i hi => if_pos hi
    have hle2 : Emb.le R R2 := fun i e he => by rw [hR2o i (by have := hr.fresh _ _ he; omega)]; exact he
    have hR2n : ∀ k, R2 (objs.length + k) = (ns[k]?).bind R' := fun k => by
      show (if objs.length + k < objs.length then _ else _) = _
      rw [if_neg (by omega), Nat.add_sub_cancel_left]
    have hold : ∀ i e, i < objs.length → R' i = some e → R i = some e := fun i e hi he => by
      rcases hext.new i e he with h1 | h1
      · exact h1
      · omega
    have hrn : ∀ i j e, rnOf objs.length ns i = some j → R' i = some e → R2 j = some e := by
      intro i j e hj he
      unfold rnOf at hj
      cases hb : Nat.blt i objs.length with
      | true =>
        rw [hb] at hj
        simp only [cond_true, Option.some.injEq] at hj
        subst hj
        have hlt : i < objs.length := Nat.le_of_ble_eq_true hb
        rw [hR2o i hlt]
        exact hold i e hlt he
      | false =>
        rw [hb] at hj
        obtain ⟨m, rfl, hm⟩ := findIx_spec hj
        rw [hR2n, hm]
        exact he
    have gets : ∀ i o, (MOut.heap objs ⟨u, os, nw⟩).get i = some o → (i < objs.length ∧ ∃ ob, x.2.get i = some ob ∧ renO (rnOf objs.length ns) ob = some o) ∨
        (∃ k m ob, i = objs.length + k ∧ ns[k]? = some m ∧ x.2.get m = some ob ∧ renO (rnOf objs.length ns) ob = some o) := by
      intro i o hi
      have hh := MOut.heap_get (objs := objs) (o := ⟨u, os, nw⟩) hol' i
      by_cases hlt : i < objs.length
      · have hlt' : i < os.length := by omega
        have := hh.1 os[i] (List.getElem?_eq_getElem hlt')
        rw [this] at hi
        obtain ⟨ob, h1, h2⟩ := hog i o (by rw [List.getElem?_eq_getElem hlt', hi])
        refine .inl ⟨hlt, ob, ?_, h2⟩
        have h1' : (oldsOf x.2 objs.length)[i]? = some (x.2.get i) := by simp [oldsOf, List.getElem?_range hlt]
        rw [h1'] at h1
        exact Option.some.inj h1
      · have := hh.2 (i - objs.length) (by omega)
        rw [this] at hi
        obtain ⟨m, ob, hm, hob, hro⟩ := hng _ _ hi
        exact .inr ⟨i - objs.length, m, ob, by omega, hm, hob, hro⟩
    refine ⟨R2, ⟨hle2, ?_, hext.size, ?_, hext.same, hext.os, hext.output, hext.tape, ?_⟩, ⟨?_, ?_, ?_⟩, renV_sub hrn _ _ _ hu hv⟩
    · rw [MOut.heap_next, hnx]; exact Nat.le_add_right _ _
    · rintro b ⟨i, oi, e, hi, he, rfl⟩
      rcases gets i oi hi with ⟨hlt, ob, hob, _⟩ | ⟨k, m, ob, rfl, hm, hob, _⟩
      · rw [hR2o i hlt] at he
        exact hext.own _ ⟨i, ob, e, hob, hext.le _ _ he, rfl⟩
      · rw [hR2n, hm] at he
        exact hext.own _ ⟨m, ob, e, hob, he, rfl⟩
    · intro i e he
      by_cases hi : i < objs.length
      · rw [hR2o i hi] at he; exact .inl he
      · exact .inr (by rw [hnx]; omega)
    · intro i oi hi
      rcases gets i oi hi with ⟨hlt, ob, hob, hro⟩ | ⟨k, m, ob, rfl, hm, hob, hro⟩
      · obtain ⟨e, o, he, hw, ho⟩ := hrel.dom i ob hob
        exact ⟨e, o, by rw [hR2o i hlt]; exact hold i e hlt he, hw, renO_rel hrn hro ho⟩
      · obtain ⟨e, o, he, hw, ho⟩ := hrel.dom m ob hob
        exact ⟨e, o, by rw [hR2n, hm]; exact he, hw, renO_rel hrn hro ho⟩
    · intro i j e f oi oj hi hj he hf hef
      rcases gets i oi hi with ⟨hlt, ob, hob, hro⟩ | ⟨k, m, ob, rfl, hm, hob, hro⟩
      · rw [hR2o i hlt] at he
        have he := hext.le _ _ he
        rcases gets j oj hj with ⟨hlt2, ob2, hob2, hro2⟩ | ⟨k2, m2, ob2, rfl, hm2, hob2, hro2⟩
        · rw [hR2o j hlt2] at hf
          exact hrel.inj i j e f ob ob2 hob hob2 he (hext.le _ _ hf) hef
        · rw [hR2n, hm2] at hf
          have := hrel.inj i m2 e f ob ob2 hob hob2 he hf hef
          have := hge m2 (List.mem_of_getElem? hm2)
          omega
      · rw [hR2n, hm] at he
        rcases gets j oj hj with ⟨hlt2, ob2, hob2, hro2⟩ | ⟨k2, m2, ob2, rfl, hm2, hob2, hro2⟩
        · rw [hR2o j hlt2] at hf
          have := hrel.inj m j e f ob ob2 hob hob2 he (hext.le _ _ hf) hef
          have := hge m (List.mem_of_getElem? hm)
          omega
        · rw [hR2n, hm2] at hf
          have := hrel.inj m m2 e f ob ob2 hob hob2 he hf hef
          subst this
          rw [nodupB_get hnd hm hm2]
    · intro i e he
      rw [MOut.heap_next]
      by_cases hi : i < objs.length
      · omega
      · obtain ⟨k, rfl⟩ : ∃ k, i = objs.length + k := ⟨i - objs.length, by omega⟩
        rw [hR2n] at he
        cases hk : ns[k]? with
        | none => rw [hk] at he; cases he
        | some m =>
          have := (List.getElem?_eq_some_iff.1 hk).1
          show objs.length + k < objs.length + nw.length
          omega

/-- The Bool that the kernel decides. -/
def memoB (g : CallF) (fuel : Nat) (e : Memo) : Bool :=
  match g e.f e.args (heapOf e.objs) with
  | some outs => outs.all fun x => match normM fuel e.objs.length x with
    | some y => e.outs.any (eqM y)
    | none => false
  | none => false
theorem memoB_ok {E : Env} {g : CallF} (hg : CallFOk E g) {fuel : Nat} {e : Memo} (h : memoB g fuel e = true) : MemoOk E e := by
  intro R w args' hr ha
  unfold memoB at h
  split at h
  · rename_i outs hs
    refine (hg e.f e.args _ outs hs R w args' hr ha).mono (fun h => by cases h) ?_
    rintro v' w' ⟨x, hx, R', hext, hrel, hsub⟩
    have h1 := List.all_eq_true.1 h x hx
    split at h1
    · rename_i y hy
      obtain ⟨z, hz, he⟩ := List.any_eq_true.1 h1
      have := eqM_eq he
      subst this
      obtain ⟨R2, k1, k2, k3⟩ := renorm hr hext hrel hsub hy
      exact ⟨_, List.mem_map.2 ⟨y, hz, rfl⟩, R2, k1, k2, k3⟩
    · cases h1
  · cases h
end Ev
end Go.Proofs.YthckkbhjocjmkaaGreatDoor
