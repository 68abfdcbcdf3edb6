/- A call in a frame: it is run on the blocks that it can reach alone; of what it comes to, the new blocks that its value reaches are kept under new numbers, and outcomes that are the same are one. -/
import Derived.Test.YthckkbhjocjmkaaGreatDoorEvJ
namespace Go.Proofs.YthckkbhjocjmkaaGreatDoor
namespace Ev

/-! ### New numbers in values -/
def renFn (rn : Nat → Option Nat) : Fn → Option Fn
  | .yield l => (rn l).map .yield
  | .func f => some (.func f)
  | _ => none
mutual
def renV (rn : Nat → Option Nat) : Value → Option Value
  | .pointer (some ⟨b, off, none⟩) => (rn b).map fun e => .pointer (some ⟨e, off, none⟩)
  | .pointer (some ⟨_, _, some _⟩) => none
  | .slice (some ⟨b, off, none⟩) n c => (rn b).map fun e => .slice (some ⟨e, off, none⟩) n c
  | .slice (some ⟨_, _, some _⟩) _ _ => none
  | .map (some r) => (rn r).map fun e => .map (some e)
  | .chan (some _) => none
  | .func fn a b => (renFn rn fn).bind fun fn' => (renA rn a).bind fun a' => (renA rn b).map fun b' => .func fn' a' b'
  | .iface t v => (renV rn v).map (.iface t)
  | .agg a => (renA rn a).map .agg
  | .tuple a => (renA rn a).map .tuple
  | .bool b => some (.bool b)
  | .int k n => some (.int k n)
  | .float k n => some (.float k n)
  | .complex k n m => some (.complex k n m)
  | .string s => some (.string s)
  | .pointer none => some (.pointer none)
  | .slice none n c => some (.slice none n c)
  | .map none => some (.map none)
  | .chan none => some (.chan none)
  | .nilFunc => some .nilFunc
  | .nilIface => some .nilIface
def renA (rn : Nat → Option Nat) : Array Value → Option (Array Value)
  | ⟨l⟩ => (renL rn l).map fun l' => ⟨l'⟩
def renL (rn : Nat → Option Nat) : List Value → Option (List Value)
  | [] => some []
  | v :: l => (renV rn v).bind fun v' => (renL rn l).map fun l' => v' :: l'
end

section
variable {rn : Nat → Option Nat} {R R' : Emb}
mutual
theorem renV_sub (h : ∀ i j e, rn i = some j → R i = some e → R' j = some e) : ∀ (v u v' : Value), renV rn v = some u → sub R v = some v' → sub R' u = some v'
  | .pointer (some ⟨b, off, none⟩), u, v', hu, hv => by
    simp only [renV, sub, Option.map_eq_some_iff] at hu hv
    obtain ⟨j, hj, rfl⟩ := hu
    obtain ⟨e, he, rfl⟩ := hv
    simp [sub, h _ _ _ hj he]
  | .pointer (some ⟨_, _, some _⟩), u, v', hu, hv => by simp [sub] at hv
  | .slice (some ⟨b, off, none⟩) n c, u, v', hu, hv => by
    simp only [renV, sub, Option.map_eq_some_iff] at hu hv
    obtain ⟨j, hj, rfl⟩ := hu
    obtain ⟨e, he, rfl⟩ := hv
    simp [sub, h _ _ _ hj he]
  | .slice (some ⟨_, _, some _⟩) _ _, u, v', hu, hv => by simp [sub] at hv
  | .map (some r), u, v', hu, hv => by
    simp only [renV, sub, Option.map_eq_some_iff] at hu hv
    obtain ⟨j, hj, rfl⟩ := hu
    obtain ⟨e, he, rfl⟩ := hv
    simp [sub, h _ _ _ hj he]
  | .chan (some _), u, v', hu, hv => by simp [sub] at hv
  | .func fn a b, u, v', hu, hv => by
    simp only [renV, sub, Option.map_eq_some_iff, Option.bind_eq_some_iff] at hu hv
    obtain ⟨fn1, hf1, a1, ha1, b1, hb1, rfl⟩ := hu
    obtain ⟨fn2, hf2, a2, ha2, b2, hb2, rfl⟩ := hv
    have hf : subFn R' fn1 = some fn2 := by
      cases fn <;> simp only [renFn, subFn, Option.map_eq_some_iff, Option.some.injEq, reduceCtorEq] at hf1 hf2
      · subst hf1; subst hf2; rfl
      · obtain ⟨j, hj, rfl⟩ := hf1
        obtain ⟨e, he, rfl⟩ := hf2
        simp [subFn, h _ _ _ hj he]
    simp [sub, hf, renA_sub h a a1 a2 ha1 ha2, renA_sub h b b1 b2 hb1 hb2]
  | .iface t v, u, v', hu, hv => by
    simp only [renV, sub, Option.map_eq_some_iff] at hu hv
    obtain ⟨j, hj, rfl⟩ := hu
    obtain ⟨e, he, rfl⟩ := hv
    simp [sub, renV_sub h v j e hj he]
  | .agg a, u, v', hu, hv => by
    simp only [renV, sub, Option.map_eq_some_iff] at hu hv
    obtain ⟨j, hj, rfl⟩ := hu
    obtain ⟨e, he, rfl⟩ := hv
    simp [sub, renA_sub h a j e hj he]
  | .tuple a, u, v', hu, hv => by
    simp only [renV, sub, Option.map_eq_some_iff] at hu hv
    obtain ⟨j, hj, rfl⟩ := hu
    obtain ⟨e, he, rfl⟩ := hv
    simp [sub, renA_sub h a j e hj he]
  | .bool _, u, v', hu, hv => by simp only [renV, Option.some.injEq] at hu; subst hu; exact hv
  | .int _ _, u, v', hu, hv => by simp only [renV, Option.some.injEq] at hu; subst hu; exact hv
  | .float _ _, u, v', hu, hv => by simp only [renV, Option.some.injEq] at hu; subst hu; exact hv
  | .complex _ _ _, u, v', hu, hv => by simp only [renV, Option.some.injEq] at hu; subst hu; exact hv
  | .string _, u, v', hu, hv => by simp only [renV, Option.some.injEq] at hu; subst hu; exact hv
  | .pointer none, u, v', hu, hv => by simp only [renV, Option.some.injEq] at hu; subst hu; exact hv
  | .slice none _ _, u, v', hu, hv => by simp only [renV, Option.some.injEq] at hu; subst hu; exact hv
  | .map none, u, v', hu, hv => by simp only [renV, Option.some.injEq] at hu; subst hu; exact hv
  | .chan none, u, v', hu, hv => by simp only [renV, Option.some.injEq] at hu; subst hu; exact hv
  | .nilFunc, u, v', hu, hv => by simp only [renV, Option.some.injEq] at hu; subst hu; exact hv
  | .nilIface, u, v', hu, hv => by simp only [renV, Option.some.injEq] at hu; subst hu; exact hv
theorem renA_sub (h : ∀ i j e, rn i = some j → R i = some e → R' j = some e) : ∀ (v u v' : Array Value), renA rn v = some u → subA R v = some v' → subA R' u = some v'
  | ⟨l⟩, u, v', hu, hv => by
    simp only [renA, subA, Option.map_eq_some_iff] at hu hv
    obtain ⟨j, hj, rfl⟩ := hu
    obtain ⟨e, he, rfl⟩ := hv
    simp [subA, renL_sub h l j e hj he]
theorem renL_sub (h : ∀ i j e, rn i = some j → R i = some e → R' j = some e) : ∀ (v u v' : List Value), renL rn v = some u → subL R v = some v' → subL R' u = some v'
  | [], u, v', hu, hv => by simp only [renL, Option.some.injEq] at hu; subst hu; exact hv
  | x :: l, u, v', hu, hv => by
    simp only [renL, subL, Option.map_eq_some_iff, Option.bind_eq_some_iff] at hu hv
    obtain ⟨x1, hx1, l1, hl1, rfl⟩ := hu
    obtain ⟨x2, hx2, l2, hl2, rfl⟩ := hv
    exact subL_cons (renV_sub h x x1 x2 hx1 hx2) (renL_sub h l l1 l2 hl1 hl2)
end

def renEs (rn : Nat → Option Nat) : List MapEntry → Option (List MapEntry)
  | [] => some []
  | e :: l => (renV rn e.key).bind fun k => (renV rn e.val).bind fun v => (renEs rn l).map fun l' => { key := k, val := v, born := e.born } :: l'
theorem renEs_sub (h : ∀ i j e, rn i = some j → R i = some e → R' j = some e) : ∀ (v u v' : List MapEntry), renEs rn v = some u → subEs R v = some v' → subEs R' u = some v'
  | [], u, v', hu, hv => by simp only [renEs, Option.some.injEq] at hu; subst hu; exact hv
  | x :: l, u, v', hu, hv => by
    simp only [renEs, subEs, subE, Option.map_eq_some_iff, Option.bind_eq_some_iff] at hu hv
    obtain ⟨k1, hk1, v1, hv1, l1, hl1, rfl⟩ := hu
    obtain ⟨x2, ⟨k2, hk2, v2, hv2, rfl⟩, l2, hl2, rfl⟩ := hv
    simp only [subEs, subE, renV_sub h _ _ _ hk1 hk2, renV_sub h _ _ _ hv1 hv2, renEs_sub h l l1 l2 hl1 hl2, Option.bind_some, Option.map_some]

def renO (rn : Nat → Option Nat) : AObj → Option AObj
  | .row c e s => (renL rn c).map fun c' => .row c' e s
  | .map es k => (renEs rn es).map fun es' => .map es' k
  | _ => none
theorem renO_rel (h : ∀ i j e, rn i = some j → R i = some e → R' j = some e) {x : Nat} {ob ob' : AObj} {o : Obj} (hr : renO rn ob = some ob') (ho : ObjRel R x ob o) : ObjRel R' x ob' o := by
  cases ob <;> simp only [renO, Option.map_eq_some_iff, reduceCtorEq] at hr
  · obtain ⟨c1, hc1, rfl⟩ := hr
    obtain ⟨c', rest, hc, hl, rfl⟩ := ho
    exact ⟨c', rest, renL_sub h _ _ _ hc1 hc, hl, rfl⟩
  · obtain ⟨c1, hc1, rfl⟩ := hr
    obtain ⟨es', hc, rfl⟩ := ho
    exact ⟨es', renEs_sub h _ _ _ hc1 hc, rfl⟩
end

/-- The same block, known on either side of a call. -/
theorem ObjRel.across {R R' R2 : Emb} {x : Nat} {ob : AObj} {o o' : Obj} (h1 : ObjRel R x ob o) (h2 : ObjRel R' x ob o') (hle : Emb.le R R') (hle2 : Emb.le R R2) : ObjRel R2 x ob o' := by
  cases ob with
  | row c e s =>
    obtain ⟨c1, r1, hc1, _, _⟩ := h1
    obtain ⟨c2, r2, hc2, hl2, rfl⟩ := h2
    have := subL_mono hle _ _ hc1
    rw [hc2] at this
    cases this
    exact ⟨c1, r2, subL_mono hle2 _ _ hc1, hl2, rfl⟩
  | map es k =>
    obtain ⟨c1, hc1, _⟩ := h1
    obtain ⟨c2, hc2, rfl⟩ := h2
    have := subEs_mono hle hc1
    rw [hc2] at this
    cases this
    exact ⟨c1, subEs_mono hle2 hc1, rfl⟩
  | mapIter m a s b =>
    obtain ⟨c1, hc1, _⟩ := h1
    obtain ⟨c2, hc2, rfl⟩ := h2
    have := subNat?_mono hle hc1
    rw [hc2] at this
    cases this
    exact ⟨c1, subNat?_mono hle2 hc1, rfl⟩
  | stringIter s p => exact h2
  | loop st ts ps a b =>
    obtain ⟨fn1, c1, d1, hc1, _⟩ := h1
    obtain ⟨fn2, c2, d2, hc2, rfl⟩ := h2
    have := subL_mono hle _ _ hc1
    rw [hc2] at this
    cases this
    exact ⟨fn2, c1, d2, subL_mono hle2 _ _ hc1, rfl⟩
  | deferred c => exact h2

/-! ### Blocks that are the same -/
def eqEs : List MapEntry → List MapEntry → Bool
  | [], [] => true
  | x :: l, y :: m => Nat.beq x.born y.born && (veq x.key y.key && (veq x.val y.val && eqEs l m))
  | _, _ => false
theorem eqEs_eq : ∀ {l m : List MapEntry}, eqEs l m = true → l = m
  | [], [], _ => rfl
  | [], _ :: _, h => by cases h
  | _ :: _, [], h => by cases h
  | ⟨k, v, b⟩ :: l, ⟨k', v', b'⟩ :: m, h => by
    simp only [eqEs, Bool.and_eq_true] at h
    obtain ⟨h1, h2, h3, h4⟩ := h
    rw [Nat.eq_of_beq_eq_true h1, veq_eq _ _ h2, veq_eq _ _ h3, eqEs_eq h4]
def eqO : AObj → AObj → Bool
  | .row c e s, .row c' e' s' => Nat.beq e e' && (Nat.beq s s' && veqL c c')
  | .map es k, .map es' k' => Nat.beq k k' && eqEs es es'
  | _, _ => false
theorem eqO_eq {a b : AObj} (h : eqO a b = true) : a = b := by
  cases a <;> cases b <;> simp only [eqO, Bool.and_eq_true, Bool.false_eq_true] at h
  · obtain ⟨h1, h2, h3⟩ := h
    rw [Nat.eq_of_beq_eq_true h1, Nat.eq_of_beq_eq_true h2, veqL_eq _ _ h3]
  · obtain ⟨h1, h2⟩ := h
    rw [Nat.eq_of_beq_eq_true h1, eqEs_eq h2]
def eqOs : List AObj → List AObj → Bool
  | [], [] => true
  | x :: l, y :: m => eqO x y && eqOs l m
  | _, _ => false
theorem eqOs_eq : ∀ {l m : List AObj}, eqOs l m = true → l = m
  | [], [], _ => rfl
  | [], _ :: _, h => by cases h
  | _ :: _, [], h => by cases h
  | x :: l, y :: m, h => by
    simp only [eqOs, Bool.and_eq_true] at h
    rw [eqO_eq h.1, eqOs_eq h.2]
def eqO? : Option AObj → Option AObj → Bool
  | some a, some b => eqO a b
  | _, _ => false

/-! ### What a value reaches -/
def addId (i : Nat) (l : List Nat) : List Nat := i :: l
mutual
def idsV : Value → List Nat → List Nat
  | .pointer (some ⟨b, _, _⟩), k => b :: k
  | .slice (some ⟨b, _, _⟩) _ _, k => b :: k
  | .map (some r), k => r :: k
  | .func fn a b, k => (match fn with
    | .yield l => fun k => l :: k
    | _ => fun k => k) (idsA a (idsA b k))
  | .iface _ v, k => idsV v k
  | .agg a, k => idsA a k
  | .tuple a, k => idsA a k
  | _, k => k
def idsA : Array Value → List Nat → List Nat
  | ⟨l⟩, k => idsL l k
def idsL : List Value → List Nat → List Nat
  | [], k => k
  | v :: l, k => idsV v (idsL l k)
end
def idsEs : List MapEntry → List Nat → List Nat
  | [], k => k
  | e :: l, k => idsV e.key (idsV e.val (idsEs l k))
def idsO : AObj → List Nat → List Nat
  | .row c _ _, k => idsL c k
  | .map es _, k => idsEs es k
  | .loop _ ts _ _ _, k => idsL ts k
  | .mapIter (some m) _ _ _, k => m :: k
  | _, k => k

def hasN (l : List Nat) (i : Nat) : Bool := l.any (Nat.beq i)
/-- The numbers from lo on that are reached. -/
def foot (h : AHeap) (lo : Nat) : Nat → List Nat → List Nat → List Nat
  | 0, _, seen => seen
  | _ + 1, [], seen => seen
  | n + 1, i :: todo, seen => cond (Nat.blt i lo || hasN seen i) (foot h lo n todo seen) (match h.get i with
    | some o => foot h lo n (idsO o todo) (i :: seen)
    | none => foot h lo n todo seen)

def restrictGo (h : AHeap) : List Nat → T AObj → T AObj
  | [], t => t
  | i :: l, t => restrictGo h l (t.put i (h.get i))
def AHeap.restrict (h : AHeap) (ids : List Nat) : AHeap := ⟨h.next, restrictGo h ids .nil⟩
theorem restrictGo_get {h : AHeap} : ∀ {l : List Nat} {t : T AObj}, (∀ i o, t.get i = some o → h.get i = some o) → ∀ i o, (restrictGo h l t).get i = some o → h.get i = some o
  | [], _, ht, i, o, hi => ht i o hi
  | j :: l, t, ht, i, o, hi => by
    refine restrictGo_get (l := l) (t := t.put j (h.get j)) ?_ i o hi
    intro i o hi
    rw [T.get_put] at hi
    by_cases hij : i = j
    · subst hij; rw [if_pos rfl] at hi; exact hi
    · rw [if_neg hij] at hi; exact ht i o hi
theorem restrict_get {h : AHeap} {ids : List Nat} {i : Nat} {o : AObj} (hi : (h.restrict ids).get i = some o) : h.get i = some o :=
  restrictGo_get (t := .nil) (fun i o hh => by simp [T.get] at hh) i o hi
theorem restrictGo_mem {h : AHeap} : ∀ {l : List Nat} {t : T AObj} {i : Nat} {o : AObj}, (restrictGo h l t).get i = some o → i ∈ l ∨ t.get i = some o
  | [], _, i, o, hi => .inr hi
  | j :: l, t, i, o, hi => by
    rcases restrictGo_mem (l := l) hi with h1 | h1
    · exact .inl (List.mem_cons_of_mem _ h1)
    · rw [T.get_put] at h1
      by_cases hij : i = j
      · exact .inl (hij ▸ List.mem_cons_self)
      · rw [if_neg hij] at h1; exact .inr h1
theorem restrict_mem {h : AHeap} {ids : List Nat} {i : Nat} {o : AObj} (hi : (h.restrict ids).get i = some o) : i ∈ ids := by
  rcases restrictGo_mem hi with h1 | h1
  · exact h1
  · simp [T.get] at h1

/-! ### The outcome in its own numbers -/
def findIx (i : Nat) : List Nat → Nat → Option Nat
  | [], _ => none
  | x :: l, k => cond (Nat.beq x i) (some k) (findIx i l (k + 1))
theorem findIx_spec {i : Nat} : ∀ {l : List Nat} {k j : Nat}, findIx i l k = some j → ∃ m, j = k + m ∧ l[m]? = some i
  | [], _, _, h => by cases h
  | x :: l, k, j, h => by
    simp only [findIx] at h
    cases hx : Nat.beq x i with
    | true =>
      rw [hx] at h
      simp only [cond_true, Option.some.injEq] at h
      exact ⟨0, by omega, by rw [Nat.eq_of_beq_eq_true hx]; rfl⟩
    | false =>
      rw [hx] at h
      obtain ⟨m, rfl, hm⟩ := findIx_spec (l := l) h
      exact ⟨m + 1, by omega, hm⟩

def rnOf (lo : Nat) (ns : List Nat) (i : Nat) : Option Nat := cond (Nat.blt i lo) (some i) (findIx i ns lo)

def nodupB : List Nat → Bool
  | [] => true
  | x :: l => !(hasN l x) && nodupB l
theorem hasN_iff {l : List Nat} {i : Nat} : hasN l i = true ↔ i ∈ l := by
  simp only [hasN, List.any_eq_true, Nat.beq_eq]
  exact ⟨fun ⟨x, hx, he⟩ => he ▸ hx, fun h => ⟨i, h, rfl⟩⟩
theorem nodupB_get : ∀ {l : List Nat} (_ : nodupB l = true) {a b x : Nat}, l[a]? = some x → l[b]? = some x → a = b
  | [], _, a, b, x, ha, _ => by simp at ha
  | y :: l, h, a, b, x, ha, hb => by
    simp only [nodupB, Bool.and_eq_true, Bool.not_eq_true'] at h
    have hy : y ∉ l := fun hm => by rw [hasN_iff.2 hm] at h; cases h.1
    cases a with
    | zero =>
      cases b with
      | zero => rfl
      | succ b =>
        simp only [List.getElem?_cons_zero, Option.some.injEq] at ha
        subst ha
        exact absurd (List.mem_of_getElem? (by simpa using hb)) hy
    | succ a =>
      cases b with
      | zero =>
        simp only [List.getElem?_cons_zero, Option.some.injEq] at hb
        subst hb
        exact absurd (List.mem_of_getElem? (by simpa using ha)) hy
      | succ b =>
        simp only [List.getElem?_cons_succ] at ha hb
        rw [nodupB_get h.2 ha hb]

def renObjs (h : AHeap) (rn : Nat → Option Nat) : List Nat → Option (List AObj)
  | [] => some []
  | n :: l => match h.get n with
    | some o => (renO rn o).bind fun o' => (renObjs h rn l).map fun l' => o' :: l'
    | none => none
theorem renObjs_get {h : AHeap} {rn : Nat → Option Nat} : ∀ {ns : List Nat} {os : List AObj}, renObjs h rn ns = some os → os.length = ns.length ∧ ∀ (k : Nat) (o : AObj), os[k]? = some o → ∃ n ob, ns[k]? = some n ∧ h.get n = some ob ∧ renO rn ob = some o
  | [], os, hh => by
    simp only [renObjs, Option.some.injEq] at hh
    subst hh
    exact ⟨rfl, fun k o hk => by simp at hk⟩
  | n :: l, os, hh => by
    simp only [renObjs] at hh
    split at hh
    · rename_i ob hg
      simp only [Option.map_eq_some_iff, Option.bind_eq_some_iff] at hh
      obtain ⟨o', ho', l', hl', rfl⟩ := hh
      obtain ⟨h1, h2⟩ := renObjs_get hl'
      refine ⟨by simp [h1], fun k o hk => ?_⟩
      cases k with
      | zero => simp only [List.getElem?_cons_zero, Option.some.injEq] at hk; subst hk; exact ⟨n, ob, rfl, hg, ho'⟩
      | succ k => simp only [List.getElem?_cons_succ] at hk ⊢; exact h2 k o hk
    · cases hh

abbrev NOut := Value × List AObj
def normNs (F : AHeap) (ids ns : List Nat) (x : VOut) : Option NOut :=
  cond (nodupB ns && (ns.all (fun n => Nat.ble F.next n) && ids.all fun i => eqO? (x.2.get i) (F.get i)))
    ((renV (rnOf F.next ns) x.1).bind fun v => (renObjs x.2 (rnOf F.next ns) ns).map fun os => (v, os)) none
def norm (fuel : Nat) (F : AHeap) (ids : List Nat) (x : VOut) : Option NOut := normNs F ids (foot x.2 F.next fuel (idsV x.1 []) []) x

def addAll : AHeap → List AObj → AHeap
  | h, [] => h
  | h, o :: os => addAll (h.add o) os
theorem addAll_next : ∀ (os : List AObj) (h : AHeap), (addAll h os).next = h.next + os.length
  | [], h => rfl
  | o :: os, h => by
    simp only [addAll, addAll_next os, List.length_cons]
    show h.next + 1 + os.length = _
    omega
theorem addAll_get : ∀ (os : List AObj) (h : AHeap) (i : Nat), (addAll h os).get i = if h.next ≤ i ∧ i < h.next + os.length then os[i - h.next]? else h.get i
  | [], h, i => by
    rw [if_neg (by simp only [List.length_nil]; omega)]; rfl
  | o :: os, h, i => by
    simp only [addAll, addAll_get os]
    have hn : (h.add o).next = h.next + 1 := rfl
    rw [hn, AHeap.get_add]
    by_cases h1 : i = h.next
    · subst h1
      rw [if_neg (by omega), if_pos rfl, if_pos (by simp only [List.length_cons]; omega), Nat.sub_self]
      rfl
    · rw [if_neg h1]
      by_cases h2 : h.next + 1 ≤ i ∧ i < h.next + 1 + os.length
      · rw [if_pos h2, if_pos (by simp only [List.length_cons]; omega)]
        obtain ⟨k, rfl⟩ : ∃ k, i = h.next + 1 + k := ⟨i - (h.next + 1), by omega⟩
        have e1 : h.next + 1 + k - (h.next + 1) = k := by omega
        have e2 : h.next + 1 + k - h.next = k + 1 := by omega
        rw [e1, e2]
        rfl
      · rw [if_neg h2, if_neg (by simp only [List.length_cons]; omega)]

def eqN (x y : NOut) : Bool := veq x.1 y.1 && eqOs x.2 y.2
theorem eqN_eq {x y : NOut} (h : eqN x y = true) : x = y := by
  simp only [eqN, Bool.and_eq_true] at h
  exact Prod.ext (veq_eq _ _ h.1) (eqOs_eq h.2)
def dedupe : List NOut → List NOut
  | [] => []
  | x :: l => let r := dedupe l; cond (r.any (eqN x)) r (x :: r)
theorem mem_dedupe : ∀ {l : List NOut} {x : NOut}, x ∈ l → x ∈ dedupe l
  | [], x, h => by cases h
  | y :: l, x, h => by
    simp only [dedupe]
    cases hb : (dedupe l).any (eqN y) with
    | true =>
      simp only [cond_true]
      rcases List.mem_cons.1 h with rfl | h
      · obtain ⟨z, hz, he⟩ := List.any_eq_true.1 hb
        rw [eqN_eq he]; exact hz
      · exact mem_dedupe h
    | false =>
      simp only [cond_false]
      rcases List.mem_cons.1 h with rfl | h
      · exact List.mem_cons_self
      · exact List.mem_cons_of_mem _ (mem_dedupe h)

def normAll (f : VOut → Option NOut) : List VOut → Option (List NOut)
  | [] => some []
  | x :: l => (f x).bind fun y => (normAll f l).map fun m => y :: m
theorem normAll_mem {f : VOut → Option NOut} : ∀ {l : List VOut} {m : List NOut}, normAll f l = some m → ∀ x ∈ l, ∃ y, f x = some y ∧ y ∈ m
  | [], m, _, x, hx => by cases hx
  | y :: l, m, h, x, hx => by
    simp only [normAll, Option.map_eq_some_iff, Option.bind_eq_some_iff] at h
    obtain ⟨z, hz, m', hm', rfl⟩ := h
    rcases List.mem_cons.1 hx with rfl | hx
    · exact ⟨z, hz, List.mem_cons_self⟩
    · obtain ⟨u, hu, hm⟩ := normAll_mem hm' x hx
      exact ⟨u, hu, List.mem_cons_of_mem _ hm⟩

def frameOuts (h : AHeap) (ns : List NOut) : List VOut := ns.map fun x => (x.1, addAll h x.2)

def frameRun (fuel : Nat) (g : CallF) : CallF := fun f args h =>
  let ids := foot h 0 fuel (idsL args []) []
  match g f args (h.restrict ids) with
  | some outs => (normAll (norm fuel (h.restrict ids) ids) outs).map fun ns => frameOuts h (dedupe ns)
  | none => none

/-- One outcome, back on the whole heap. -/
theorem unframe {R R' : Emb} {h : AHeap} {w w' : World} {ids ns : List Nat} {x : VOut} {y : NOut} {v' : Value} (hr : Rel R h w) (hext : Ext R (h.restrict ids) w R' x.2 w') (hrel : Rel R' x.2 w') (hv : sub R' x.1 = some v')
    (hn : normNs (h.restrict ids) ids ns x = some y) : ∃ R2, Ext R h w R2 (addAll h y.2) w' ∧ Rel R2 (addAll h y.2) w' ∧ sub R2 y.1 = some v' := by
  unfold normNs at hn
  cases hc : (nodupB ns && (ns.all (fun n => Nat.ble (h.restrict ids).next n) && ids.all fun i => eqO? (x.2.get i) ((h.restrict ids).get i))) with
  | false => rw [hc] at hn; cases hn
  | true =>
    rw [hc] at hn
    simp only [cond_true, Option.map_eq_some_iff, Option.bind_eq_some_iff] at hn
    obtain ⟨u, hu, os, hos, rfl⟩ := hn
    simp only [Bool.and_eq_true, List.all_eq_true, Nat.ble_eq] at hc
    obtain ⟨hnd, hge, hsame⟩ := hc
    have hnx : (h.restrict ids).next = h.next := rfl
    simp only [hnx] at hge hu hos
    obtain ⟨hlen, hget⟩ := renObjs_get hos
    -- what stood before stands still
    have keep : ∀ i o, (h.restrict ids).get i = some o → x.2.get i = some o := fun i o hi => by
      have h1 := hsame i (restrict_mem hi)
      unfold eqO? at h1
      split at h1
      · rename_i a b ha hb
        rw [hi] at hb
        cases hb
        rw [ha, eqO_eq h1]
      · cases h1
    let R2 : Emb := fun i => if i < h.next then R i else (ns[i - h.next]?).bind R'
    have hR2o : ∀ i, i < h.next → R2 i = R i := fun i hi => if_pos hi
    have hle2 : Emb.le R R2 := fun i e he => by rw [hR2o i (hr.fresh _ _ he)]; exact he
    have hR2n : ∀ k, R2 (h.next + k) = (ns[k]?).bind R' := fun k => by
      show (if h.next + k < h.next then _ else _) = _
      rw [if_neg (by omega), Nat.add_sub_cancel_left]
    have hrn : ∀ i j e, rnOf h.next ns i = some j → R' i = some e → R2 j = some e := by
      intro i j e hj he
      unfold rnOf at hj
      cases hb : Nat.blt i h.next with
      | true =>
        rw [hb] at hj
        simp only [cond_true, Option.some.injEq] at hj
        subst hj
        have hlt : i < h.next := Nat.le_of_ble_eq_true hb
        rw [hR2o i hlt]
        rcases hext.new i e he with h1 | h1
        · exact h1
        · exact absurd h1 (Nat.not_le_of_lt hlt)
      | false =>
        rw [hb] at hj
        obtain ⟨m, rfl, hm⟩ := findIx_spec hj
        rw [hR2n, hm]
        exact he
    have hnone : ∀ i, h.next ≤ i → h.get i = none := fun i hi => by
      cases hg : h.get i with
      | none => rfl
      | some ob => exact absurd (hr.lt hg) (Nat.not_lt_of_le hi)
    have gets : ∀ i o, (addAll h os).get i = some o → (i < h.next ∧ h.get i = some o) ∨ (∃ k m ob, i = h.next + k ∧ ns[k]? = some m ∧ x.2.get m = some ob ∧ renO (rnOf h.next ns) ob = some o) := by
      intro i o hi
      rw [addAll_get] at hi
      by_cases hin : h.next ≤ i ∧ i < h.next + os.length
      · rw [if_pos hin] at hi
        obtain ⟨m, ob, hm, hob, hro⟩ := hget _ _ hi
        exact .inr ⟨i - h.next, m, ob, by omega, hm, hob, hro⟩
      · rw [if_neg hin] at hi
        exact .inl ⟨hr.lt hi, hi⟩
    have owned : ∀ b, Owns R (h.restrict ids) b → Owns R h b := fun b ⟨j, oj, e, hj, he, hb⟩ => ⟨j, oj, e, restrict_get hj, he, hb⟩
    have hblk : ∀ i ob e, h.get i = some ob → R i = some e → e.1 < w.heap.size := fun i ob e hi he => by
      obtain ⟨e', o', he', hw, _⟩ := hr.dom _ _ hi
      rw [he] at he'; cases he'
      exact (Array.getElem?_eq_some_iff.1 hw).1
    -- an old number and a new one stand for different blocks
    have apart : ∀ i ob e m obm f, h.get i = some ob → R i = some e → m ∈ ns → x.2.get m = some obm → R' m = some f → e.1 ≠ f.1 := by
      intro i ob e m obm f hi he hm hgm hf hef
      rcases hext.own f.1 ⟨m, obm, f, hgm, hf, rfl⟩ with h1 | ⟨q, oq, g, hq, hg, hgf⟩
      · have := hblk i ob e hi he
        omega
      · have hq2 := keep q oq hq
        have := hrel.inj q m g f oq obm hq2 hgm (hext.le _ _ hg) hf hgf
        subst this
        exact absurd (hr.lt (restrict_get hq)) (Nat.not_lt_of_le (hge q hm))
    refine ⟨R2, ⟨hle2, ?_, hext.size, ?_, ?_, hext.os, hext.output, hext.tape, ?_⟩, ⟨?_, ?_, ?_⟩, ?_⟩
    · rw [addAll_next]; exact Nat.le_add_right _ _
    · rintro b ⟨i, oi, e, hi, he, rfl⟩
      rcases gets i oi hi with ⟨hlt, hi'⟩ | ⟨k, m, ob, rfl, hm, hob, _⟩
      · rw [hR2o i hlt] at he
        exact .inr ⟨i, oi, e, hi', he, rfl⟩
      · rw [hR2n, hm] at he
        rcases hext.own e.1 ⟨m, ob, e, hob, he, rfl⟩ with h1 | h1
        · exact .inl h1
        · exact .inr (owned _ h1)
    · intro b hb hno
      exact hext.same b hb fun ho => hno (owned b ho)
    · intro i e he
      by_cases hi : i < h.next
      · rw [hR2o i hi] at he; exact .inl he
      · exact .inr (Nat.le_of_not_lt hi)
    · intro i oi hi
      rcases gets i oi hi with ⟨hlt, hi'⟩ | ⟨k, m, ob, rfl, hm, hob, hro⟩
      · obtain ⟨e, o, he, hw, ho⟩ := hr.dom i oi hi'
        by_cases hown : Owns R (h.restrict ids) e.1
        · obtain ⟨q, oq, g, hq, hg, hge'⟩ := hown
          have hq' := restrict_get hq
          have hqi := hr.inj q i g e oq oi hq' hi' hg he hge'
          subst hqi
          rw [hi'] at hq'
          cases hq'
          obtain ⟨e2, o2, he2, hw2, ho2⟩ := hrel.dom q oi (keep q oi hq)
          have := hext.le _ _ he
          rw [he2] at this
          cases this
          exact ⟨e, o2, by rw [hR2o q hlt]; exact he, hw2, ho.across ho2 hext.le hle2⟩
        · exact ⟨e, o, by rw [hR2o i hlt]; exact he, by rw [hext.same e.1 (hblk i oi e hi' he) hown]; exact hw, ho.mono hle2⟩
      · obtain ⟨e, o, he, hw, ho⟩ := hrel.dom m ob hob
        exact ⟨e, o, by rw [hR2n, hm]; exact he, hw, renO_rel hrn hro ho⟩
    · intro i j e f oi oj hi hj he hf hef
      rcases gets i oi hi with ⟨hlt, hi'⟩ | ⟨k, m, ob, rfl, hm, hob, hro⟩
      · rw [hR2o i hlt] at he
        rcases gets j oj hj with ⟨hlt2, hj'⟩ | ⟨k2, m2, ob2, rfl, hm2, hob2, hro2⟩
        · rw [hR2o j hlt2] at hf
          exact hr.inj i j e f oi oj hi' hj' he hf hef
        · rw [hR2n, hm2] at hf
          exact absurd hef (apart i oi e m2 ob2 f hi' he (List.mem_of_getElem? hm2) hob2 hf)
      · rw [hR2n, hm] at he
        rcases gets j oj hj with ⟨hlt2, hj'⟩ | ⟨k2, m2, ob2, rfl, hm2, hob2, hro2⟩
        · rw [hR2o j hlt2] at hf
          exact absurd hef.symm (apart j oj f m ob e hj' hf (List.mem_of_getElem? hm) hob he)
        · rw [hR2n, hm2] at hf
          have := hrel.inj m m2 e f ob ob2 hob hob2 he hf hef
          subst this
          rw [nodupB_get hnd hm hm2]
    · intro i e he
      rw [addAll_next]
      by_cases hi : i < h.next
      · omega
      · obtain ⟨k, rfl⟩ : ∃ k, i = h.next + k := ⟨i - h.next, by omega⟩
        rw [hR2n] at he
        cases hk : ns[k]? with
        | none => rw [hk] at he; cases he
        | some m =>
          have := (List.getElem?_eq_some_iff.1 hk).1
          show h.next + k < h.next + os.length
          omega
    · exact renV_sub hrn x.1 u v' hu hv

theorem Rel.restrict {R : Emb} {h : AHeap} {w : World} (hr : Rel R h w) (ids : List Nat) : Rel R (h.restrict ids) w :=
  ⟨fun i ob hi => hr.dom i ob (restrict_get hi), fun i j e f oi oj hi hj => hr.inj i j e f oi oj (restrict_get hi) (restrict_get hj), hr.fresh⟩

theorem frameRun_ok {E : Env} {fuel : Nat} {g : CallF} (hg : CallFOk E g) : CallFOk E (frameRun fuel g) := by
  intro f args h outs hs R w args' hr ha
  simp only [frameRun] at hs
  split at hs
  · rename_i fouts hf
    simp only [Option.map_eq_some_iff] at hs
    obtain ⟨ns, hns, rfl⟩ := hs
    refine (hg f args _ fouts hf R w args' (hr.restrict _) ha).mono (fun h => by cases h) ?_
    rintro v' w' ⟨x, hx, R', hext, hrel, hsub⟩
    obtain ⟨y, hy, hym⟩ := normAll_mem hns x hx
    obtain ⟨R2, h1, h2, h3⟩ := unframe hr hext hrel hsub hy
    exact ⟨_, List.mem_map.2 ⟨y, mem_dedupe hym, rfl⟩, R2, h1, h2, h3⟩
  · cases hs

/-- The functions that are run in a frame. -/
def framed (sel : FuncId → Bool) (fuel : Nat) (g : CallF) : CallF := fun f args h => cond (sel f) (frameRun fuel g f args h) (g f args h)
theorem framed_ok {E : Env} {sel : FuncId → Bool} {fuel : Nat} {g : CallF} (hg : CallFOk E g) : CallFOk E (framed sel fuel g) := by
  intro f args h outs hs R w args' hr ha
  unfold framed at hs
  cases hb : sel f with
  | true => rw [hb] at hs; exact frameRun_ok hg f args h outs hs R w args' hr ha
  | false => rw [hb] at hs; exact hg f args h outs hs R w args' hr ha
end Ev
end Go.Proofs.YthckkbhjocjmkaaGreatDoor
