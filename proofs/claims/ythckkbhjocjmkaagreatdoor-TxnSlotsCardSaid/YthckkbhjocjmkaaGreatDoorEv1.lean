import Derived.RangeFuncLeaves
namespace Go.Proofs.YthckkbhjocjmkaaGreatDoor
namespace Ev

abbrev Emb := Nat → Option (Nat × Nat)
def Emb.le (R R' : Emb) : Prop := ∀ i e, R i = some e → R' i = some e

/-- A capacity from this mark on is open: what lies beyond the mark is known, and the block's own spare room comes to it. -/
def mark : Nat := 4611686018427387904
def capOf (x c : Nat) : Nat := if c < mark then c else c - mark + x

def subFn (R : Emb) : Fn → Option Fn
  | .yield l => (R l).map fun e => .yield e.1
  | .func f => some (.func f)
  | _ => none

mutual
def sub (R : Emb) : Value → Option Value
  | .pointer (some ⟨b, off, none⟩) => (R b).map fun e => .pointer (some ⟨e.1, off, none⟩)
  | .pointer (some ⟨_, _, some _⟩) => none
  | .slice (some ⟨b, off, none⟩) n c => (R b).map fun e => .slice (some ⟨e.1, off, none⟩) n (capOf e.2 c)
  | .slice (some ⟨_, _, some _⟩) _ _ => none
  | .map (some r) => (R r).map fun e => .map (some e.1)
  | .chan (some _) => none
  | .func fn a b => (subFn R fn).bind fun fn' => (subA R a).bind fun a' => (subA R b).map fun b' => .func fn' a' b'
  | .iface t v => (sub R v).map (.iface t)
  | .agg a => (subA R a).map .agg
  | .tuple a => (subA R a).map .tuple
  | .bool b => some (.bool b)
  | .int k n => some (.int k n)
  | .float k n => some (.float k n)
  | .complex k n m => some (.complex k n m)
  | .string s => some (.string s)
  | .pointer none => some (.pointer none)
  | .slice none n c => some (.slice none n c)
  | .map none => some (.map none)
  | .chan none => some (.chan none)
  | .nilFunc => some .nilFunc
  | .nilIface => some .nilIface
def subA (R : Emb) : Array Value → Option (Array Value)
  | ⟨l⟩ => (subL R l).map fun l' => ⟨l'⟩
def subL (R : Emb) : List Value → Option (List Value)
  | [] => some []
  | v :: l => (sub R v).bind fun v' => (subL R l).map fun l' => v' :: l'
end

mutual
theorem sub_mono {R R' : Emb} (h : Emb.le R R') : ∀ (v v' : Value), sub R v = some v' → sub R' v = some v'
  | .pointer (some ⟨b, off, none⟩), v', hv => by
    simp only [sub, Option.map_eq_some_iff] at hv ⊢
    obtain ⟨e, he, rfl⟩ := hv
    exact ⟨e, h _ _ he, rfl⟩
  | .pointer (some ⟨_, _, some _⟩), v', hv => by simp [sub] at hv
  | .slice (some ⟨b, off, none⟩) n c, v', hv => by
    simp only [sub, Option.map_eq_some_iff] at hv ⊢
    obtain ⟨e, he, rfl⟩ := hv
    exact ⟨e, h _ _ he, rfl⟩
  | .slice (some ⟨_, _, some _⟩) _ _, v', hv => by simp [sub] at hv
  | .map (some r), v', hv => by
    simp only [sub, Option.map_eq_some_iff] at hv ⊢
    obtain ⟨e, he, rfl⟩ := hv
    exact ⟨e, h _ _ he, rfl⟩
  | .chan (some _), v', hv => by simp [sub] at hv
  | .func fn a b, v', hv => by
    simp only [sub, Option.map_eq_some_iff, Option.bind_eq_some_iff] at hv ⊢
    obtain ⟨fn', hf, a', ha, b', hb, rfl⟩ := hv
    refine ⟨fn', ?_, a', subA_mono h a a' ha, b', subA_mono h b b' hb, rfl⟩
    cases fn <;> simp only [subFn, Option.map_eq_some_iff, reduceCtorEq] at hf ⊢
    · exact hf
    · obtain ⟨e, he, rfl⟩ := hf; exact ⟨e, h _ _ he, rfl⟩
  | .iface t v, v', hv => by
    simp only [sub, Option.map_eq_some_iff] at hv ⊢
    obtain ⟨e, he, rfl⟩ := hv
    exact ⟨e, sub_mono h _ _ he, rfl⟩
  | .agg a, v', hv => by
    simp only [sub, Option.map_eq_some_iff] at hv ⊢
    obtain ⟨e, he, rfl⟩ := hv
    exact ⟨e, subA_mono h _ _ he, rfl⟩
  | .tuple a, v', hv => by
    simp only [sub, Option.map_eq_some_iff] at hv ⊢
    obtain ⟨e, he, rfl⟩ := hv
    exact ⟨e, subA_mono h _ _ he, rfl⟩
  | .bool _, _, hv => hv
  | .int _ _, _, hv => hv
  | .float _ _, _, hv => hv
  | .complex _ _ _, _, hv => hv
  | .string _, _, hv => hv
  | .pointer none, _, hv => hv
  | .slice none _ _, _, hv => hv
  | .map none, _, hv => hv
  | .chan none, _, hv => hv
  | .nilFunc, _, hv => hv
  | .nilIface, _, hv => hv
theorem subA_mono {R R' : Emb} (h : Emb.le R R') : ∀ (v v' : Array Value), subA R v = some v' → subA R' v = some v'
  | ⟨l⟩, v', hv => by
    simp only [subA, Option.map_eq_some_iff] at hv ⊢
    obtain ⟨e, he, rfl⟩ := hv
    exact ⟨e, subL_mono h _ _ he, rfl⟩
theorem subL_mono {R R' : Emb} (h : Emb.le R R') : ∀ (v v' : List Value), subL R v = some v' → subL R' v = some v'
  | [], _, hv => hv
  | x :: l, v', hv => by
    simp only [subL, Option.map_eq_some_iff, Option.bind_eq_some_iff] at hv ⊢
    obtain ⟨x', hx, l', hl, rfl⟩ := hv
    exact ⟨x', sub_mono h _ _ hx, l', subL_mono h _ _ hl, rfl⟩
end

/-! ### Values without addresses -/
mutual
def clo : Value → Bool
  | .pointer (some _) => false
  | .slice (some _) _ _ => false
  | .map (some _) => false
  | .chan (some _) => false
  | .func fn a b => (match fn with | .func _ => true | _ => false) && (cloA a && cloA b)
  | .iface _ v => clo v
  | .agg a => cloA a
  | .tuple a => cloA a
  | _ => true
def cloA : Array Value → Bool
  | ⟨l⟩ => cloL l
def cloL : List Value → Bool
  | [] => true
  | v :: l => clo v && cloL l
end

mutual
theorem sub_clo (R : Emb) : ∀ (v : Value), clo v = true → sub R v = some v
  | .pointer (some _), h => by simp [clo] at h
  | .slice (some _) _ _, h => by simp [clo] at h
  | .map (some _), h => by simp [clo] at h
  | .chan (some _), h => by simp [clo] at h
  | .func fn a b, h => by
    simp only [clo, Bool.and_eq_true] at h
    obtain ⟨hf, ha, hb⟩ := h
    simp only [sub, subA_clo R a ha, subA_clo R b hb]
    cases fn <;> simp at hf
    rfl
  | .iface t v, h => by simp only [clo] at h; simp only [sub, sub_clo R v h]; rfl
  | .agg a, h => by simp only [clo] at h; simp only [sub, subA_clo R a h]; rfl
  | .tuple a, h => by simp only [clo] at h; simp only [sub, subA_clo R a h]; rfl
  | .bool _, _ => rfl
  | .int _ _, _ => rfl
  | .float _ _, _ => rfl
  | .complex _ _ _, _ => rfl
  | .string _, _ => rfl
  | .pointer none, _ => rfl
  | .slice none _ _, _ => rfl
  | .map none, _ => rfl
  | .chan none, _ => rfl
  | .nilFunc, _ => rfl
  | .nilIface, _ => rfl
theorem subA_clo (R : Emb) : ∀ (v : Array Value), cloA v = true → subA R v = some v
  | ⟨l⟩, h => by simp only [cloA] at h; simp only [subA, subL_clo R l h]; rfl
theorem subL_clo (R : Emb) : ∀ (v : List Value), cloL v = true → subL R v = some v
  | [], _ => rfl
  | x :: l, h => by
    simp only [cloL, Bool.and_eq_true] at h
    simp only [subL, sub_clo R x h.1, subL_clo R l h.2]; rfl
end

/-! ### Lists of values -/
theorem subL_nil (R : Emb) : subL R [] = some [] := rfl
theorem subL_cons {R : Emb} {v v' : Value} {l l' : List Value} (h : sub R v = some v') (hl : subL R l = some l') : subL R (v :: l) = some (v' :: l') := by
  simp [subL, h, hl]
theorem subL_cons_inv {R : Emb} {v : Value} {l l' : List Value} (h : subL R (v :: l) = some l') : ∃ v' l'', l' = v' :: l'' ∧ sub R v = some v' ∧ subL R l = some l'' := by
  simp only [subL, Option.map_eq_some_iff, Option.bind_eq_some_iff] at h
  obtain ⟨v', hv, l'', hl, rfl⟩ := h
  exact ⟨v', l'', rfl, hv, hl⟩
theorem subL_length {R : Emb} : ∀ {l l' : List Value}, subL R l = some l' → l'.length = l.length
  | [], l', h => by simp [subL] at h; simp [h]
  | v :: l, l', h => by
    obtain ⟨v', l'', rfl, _, hl⟩ := subL_cons_inv h
    simp [subL_length hl]
theorem subL_get {R : Emb} : ∀ {l l' : List Value} (_ : subL R l = some l') (i : Nat) (v : Value), l[i]? = some v → ∃ v', l'[i]? = some v' ∧ sub R v = some v'
  | [], _, _, i, v, hv => by simp at hv
  | x :: l, l', h, i, v, hv => by
    obtain ⟨x', l'', rfl, hx, hl⟩ := subL_cons_inv h
    cases i with
    | zero => simp only [List.getElem?_cons_zero, Option.some.injEq] at hv; exact ⟨x', rfl, hv ▸ hx⟩
    | succ i => simp only [List.getElem?_cons_succ] at hv ⊢; exact subL_get hl i v hv
theorem subL_append {R : Emb} : ∀ {a a' b b' : List Value}, subL R a = some a' → subL R b = some b' → subL R (a ++ b) = some (a' ++ b')
  | [], a', b, b', ha, hb => by simp [subL] at ha; subst ha; simpa using hb
  | x :: a, a', b, b', ha, hb => by
    obtain ⟨x', l'', rfl, hx, hl⟩ := subL_cons_inv ha
    simp only [List.cons_append]
    exact subL_cons hx (subL_append hl hb)
theorem subL_set {R : Emb} : ∀ {l l' : List Value} (_ : subL R l = some l') (i : Nat) {v v' : Value} (_ : sub R v = some v'), subL R (l.set i v) = some (l'.set i v')
  | [], l', h, i, v, v', _ => by simp [subL] at h; subst h; simp [subL]
  | x :: l, l', h, i, v, v', hv => by
    obtain ⟨x', l'', rfl, hx, hl⟩ := subL_cons_inv h
    cases i with
    | zero => simp only [List.set_cons_zero]; exact subL_cons hv hl
    | succ i => simp only [List.set_cons_succ]; exact subL_cons hx (subL_set hl i hv)
theorem subL_take {R : Emb} : ∀ {l l' : List Value} (_ : subL R l = some l') (n : Nat), subL R (l.take n) = some (l'.take n)
  | [], l', h, n => by simp [subL] at h; subst h; simp [subL]
  | x :: l, l', h, n => by
    obtain ⟨x', l'', rfl, hx, hl⟩ := subL_cons_inv h
    cases n with
    | zero => simp [subL]
    | succ n => simp only [List.take_succ_cons]; exact subL_cons hx (subL_take hl n)
theorem subL_drop {R : Emb} : ∀ {l l' : List Value} (_ : subL R l = some l') (n : Nat), subL R (l.drop n) = some (l'.drop n)
  | [], l', h, n => by simp [subL] at h; subst h; simp [subL]
  | x :: l, l', h, n => by
    obtain ⟨x', l'', rfl, hx, hl⟩ := subL_cons_inv h
    cases n with
    | zero => simpa using h
    | succ n => simp only [List.drop_succ_cons]; exact subL_drop hl n

/-! ### The tree -/
inductive T (α : Type) where
  | nil
  | node (l : T α) (v : Option α) (r : T α)

def T.get {α : Type} : T α → Nat → Option α
  | .nil, _ => none
  | .node l v r, n => cond (Nat.beq n 0) v (cond (Nat.beq (n % 2) 1) (l.get (n / 2)) (r.get (n / 2 - 1)))

def T.set {α : Type} : Nat → T α → Nat → Option α → T α
  | 0, t, _, _ => t
  | k + 1, .nil, n, x => cond (Nat.beq n 0) (.node .nil x .nil) (cond (Nat.beq (n % 2) 1) (.node (T.set k .nil (n / 2) x) none .nil) (.node .nil none (T.set k .nil (n / 2 - 1) x)))
  | k + 1, .node l v r, n, x => cond (Nat.beq n 0) (.node l x r) (cond (Nat.beq (n % 2) 1) (.node (T.set k l (n / 2) x) v r) (.node l v (T.set k r (n / 2 - 1) x)))

theorem T.get_set {α : Type} : ∀ (k : Nat) (t : T α) (n m : Nat) (x : Option α), n < k → (T.set k t n x).get m = if m = n then x else t.get m := by
  have nb : ∀ a b : Nat, Nat.beq a b = decide (a = b) := fun a b => by
    by_cases h : a = b
    · subst h; simp
    · rw [decide_eq_false h]; exact Bool.eq_false_iff.2 fun e => h (Nat.eq_of_beq_eq_true e)
  intro k
  induction k with
  | zero => intro t n m x h; omega
  | succ k ih =>
    intro t n m x hn
    by_cases h0 : n = 0
    · subst h0
      by_cases hm : m = 0
      · subst hm; cases t <;> simp [T.set, T.get, nb]
      · cases t <;> simp [T.set, T.get, nb, hm]
    · by_cases h1 : n % 2 = 1
      · have hk : n / 2 < k := by omega
        by_cases hm : m = 0
        · subst hm
          have : ¬ 0 = n := by omega
          cases t <;> simp [T.set, T.get, nb, h0, h1, this]
        · by_cases hm1 : m % 2 = 1
          · have e : (m / 2 = n / 2) = (m = n) := by apply propext; omega
            cases t <;> simp [T.set, T.get, nb, h0, h1, hm, hm1, ih _ _ _ _ hk, e]
          · have e : ¬ m = n := by omega
            cases t <;> simp [T.set, T.get, nb, h0, h1, hm, hm1, e]
      · have hk : n / 2 - 1 < k := by omega
        by_cases hm : m = 0
        · subst hm
          have : ¬ 0 = n := by omega
          cases t <;> simp [T.set, T.get, nb, h0, h1, this]
        · by_cases hm1 : m % 2 = 1
          · have e : ¬ m = n := by omega
            cases t <;> simp [T.set, T.get, nb, h0, h1, hm, hm1, e]
          · have e : (m / 2 - 1 = n / 2 - 1) = (m = n) := by apply propext; omega
            cases t <;> simp [T.set, T.get, nb, h0, h1, hm, hm1, ih _ _ _ _ hk, e]

def T.put {α : Type} (t : T α) (n : Nat) (x : Option α) : T α := T.set (n + 1) t n x
theorem T.get_put {α : Type} (t : T α) (n m : Nat) (x : Option α) : (t.put n x).get m = if m = n then x else t.get m := T.get_set _ _ _ _ _ (Nat.lt_succ_self n)

/-! ### What lies in memory -/
inductive AObj where
  /-- A row of cells; behind those that are told 'stride' times the block's spare room. -/
  | row (c : List Value) (elem : TypeId) (stride : Nat)
  | map (es : List MapEntry) (clock : Nat)
  | mapIter (map : Option Nat) (since : Nat) (seen : List Nat) (stepped : Nat)
  | stringIter (s : ByteArray) (pos : Nat)
  | loop (state : LoopState) (tmps : List Value) (params : List Tmp) (assign body : Code)
  | deferred (calls : Bool)

def subE (R : Emb) (e : MapEntry) : Option MapEntry := (sub R e.key).bind fun k => (sub R e.val).map fun v => { key := k, val := v, born := e.born }
def subEs (R : Emb) : List MapEntry → Option (List MapEntry)
  | [] => some []
  | e :: l => (subE R e).bind fun e' => (subEs R l).map fun l' => e' :: l'
def subNat? (R : Emb) : Option Nat → Option (Option Nat)
  | none => some none
  | some r => (R r).map fun e => some e.1

def ObjRel (R : Emb) (x : Nat) : AObj → Obj → Prop
  | .row c e s, o => ∃ c' rest, subL R c = some c' ∧ rest.length = x * s ∧ o = .cells ⟨c' ++ rest⟩ e (0, 0)
  | .map es k, o => ∃ es', subEs R es = some es' ∧ o = .map ⟨es'⟩ k
  | .mapIter m a s b, o => ∃ m', subNat? R m = some m' ∧ o = .mapIter m' a ⟨s⟩ b
  | .stringIter s p, o => o = .stringIter s p
  | .loop st ts ps a b, o => ∃ fn ts' d, subL R ts = some ts' ∧ o = .loop { state := st, pending := none, fn := fn, tmps := ⟨ts'⟩, params := ⟨ps⟩, assign := a, body := b, defers := d }
  | .deferred c, o => o = .deferred (if c then some [] else none)

theorem subE_mono {R R' : Emb} (h : Emb.le R R') {e e' : MapEntry} (he : subE R e = some e') : subE R' e = some e' := by
  simp only [subE, Option.map_eq_some_iff, Option.bind_eq_some_iff] at he ⊢
  obtain ⟨k, hk, v, hv, rfl⟩ := he
  exact ⟨k, sub_mono h _ _ hk, v, sub_mono h _ _ hv, rfl⟩
theorem subEs_mono {R R' : Emb} (h : Emb.le R R') : ∀ {l l' : List MapEntry}, subEs R l = some l' → subEs R' l = some l'
  | [], _, hl => hl
  | e :: l, l', hl => by
    simp only [subEs, Option.map_eq_some_iff, Option.bind_eq_some_iff] at hl ⊢
    obtain ⟨k, hk, v, hv, rfl⟩ := hl
    exact ⟨k, subE_mono h hk, v, subEs_mono h hv, rfl⟩
theorem subNat?_mono {R R' : Emb} (h : Emb.le R R') {m m' : Option Nat} (hm : subNat? R m = some m') : subNat? R' m = some m' := by
  cases m with
  | none => exact hm
  | some r =>
    simp only [subNat?, Option.map_eq_some_iff] at hm ⊢
    obtain ⟨e, he, rfl⟩ := hm
    exact ⟨e, h _ _ he, rfl⟩
theorem ObjRel.mono {R R' : Emb} (h : Emb.le R R') {x : Nat} {a : AObj} {o : Obj} (ho : ObjRel R x a o) : ObjRel R' x a o := by
  cases a <;> simp only [ObjRel] at ho ⊢
  · obtain ⟨c', rest, hc, hr, rfl⟩ := ho; exact ⟨c', rest, subL_mono h _ _ hc, hr, rfl⟩
  · obtain ⟨es', hc, rfl⟩ := ho; exact ⟨es', subEs_mono h hc, rfl⟩
  · obtain ⟨m', hc, rfl⟩ := ho; exact ⟨m', subNat?_mono h hc, rfl⟩
  · exact ho
  · obtain ⟨fn, ts', d, hc, rfl⟩ := ho; exact ⟨fn, ts', d, subL_mono h _ _ hc, rfl⟩
  · exact ho

structure AHeap where
  next : Nat
  tree : T AObj

def AHeap.get (h : AHeap) (i : Nat) : Option AObj := h.tree.get i
def AHeap.put (h : AHeap) (i : Nat) (o : Option AObj) : AHeap := { h with tree := h.tree.put i o }
def AHeap.add (h : AHeap) (o : AObj) : AHeap := { next := h.next + 1, tree := h.tree.put h.next (some o) }
theorem AHeap.get_put (h : AHeap) (i j : Nat) (o : Option AObj) : (h.put i o).get j = if j = i then o else h.get j := T.get_put _ _ _ _
theorem AHeap.get_add (h : AHeap) (j : Nat) (o : AObj) : (h.add o).get j = if j = h.next then some o else h.get j := T.get_put _ _ _ _

structure Rel (R : Emb) (h : AHeap) (w : World) : Prop where
  dom : ∀ i ob, h.get i = some ob → ∃ e o, R i = some e ∧ w.heap[e.1]? = some o ∧ ObjRel R e.2 ob o
  inj : ∀ i j e f oi oj, h.get i = some oi → h.get j = some oj → R i = some e → R j = some f → e.1 = f.1 → i = j
  fresh : ∀ i e, R i = some e → i < h.next

/-- The heap has block b. -/
def Owns (R : Emb) (h : AHeap) (b : Nat) : Prop := ∃ j oj e, h.get j = some oj ∧ R j = some e ∧ e.1 = b

structure Ext (R : Emb) (h : AHeap) (w : World) (R' : Emb) (h' : AHeap) (w' : World) : Prop where
  le : Emb.le R R'
  next : h.next ≤ h'.next
  size : w.heap.size ≤ w'.heap.size
  own : ∀ b, Owns R' h' b → w.heap.size ≤ b ∨ Owns R h b
  same : ∀ b, b < w.heap.size → ¬ Owns R h b → w'.heap[b]? = w.heap[b]?
  os : w'.os = w.os
  output : w'.output = w.output
  tape : w'.tape = w.tape
  new : ∀ i e, R' i = some e → R i = some e ∨ h.next ≤ i

theorem Ext.refl (R : Emb) (h : AHeap) (w : World) : Ext R h w R h w :=
  ⟨fun _ _ h => h, Nat.le_refl _, Nat.le_refl _, fun _ h => .inr h, fun _ _ _ => rfl, rfl, rfl, rfl, fun _ _ h => .inl h⟩
theorem Ext.trans {R R1 R2 : Emb} {h h1 h2 : AHeap} {w w1 w2 : World} (a : Ext R h w R1 h1 w1) (b : Ext R1 h1 w1 R2 h2 w2) : Ext R h w R2 h2 w2 where
  le := fun i e he => b.le i e (a.le i e he)
  next := Nat.le_trans a.next b.next
  size := Nat.le_trans a.size b.size
  own := fun x hx => by
    rcases b.own x hx with h1 | h1
    · exact .inl (Nat.le_trans a.size h1)
    · exact a.own x h1
  same := fun x hx hn => by
    rw [b.same x (Nat.lt_of_lt_of_le hx a.size), a.same x hx hn]
    intro ho
    rcases a.own x ho with h1 | h1
    · omega
    · exact hn h1
  os := b.os.trans a.os
  output := b.output.trans a.output
  tape := b.tape.trans a.tape
  new := fun i e he => by
    rcases b.new i e he with h1 | h1
    · exact a.new i e h1
    · exact .inr (Nat.le_trans a.next h1)
end Ev
end Go.Proofs.YthckkbhjocjmkaaGreatDoor
