/- The pure operations of the abstract run: building, length, asking for nil, asserting; and all pure operations together. -/
import Derived.Test.YthckkbhjocjmkaaGreatDoorEv4
namespace Go.Proofs.YthckkbhjocjmkaaGreatDoor
namespace Ev

/-! ### Building -/
theorem sub_cells {R : Emb} {v v' : Value} (h : sub R v = some v') : subA R v.cells = some v'.cells := by
  have one : ∀ u u', sub R u = some u' → subA R #[u] = some #[u'] := fun u u' hu => by simp [subA, subL, hu]
  cases v with
  | agg a =>
    simp only [sub, Option.map_eq_some_iff] at h
    obtain ⟨a', ha, rfl⟩ := h
    exact ha
  | pointer a =>
    have h0 := h
    obtain _ | ⟨b, off, _ | s⟩ := a
    · simp only [sub, Option.some.injEq] at h; subst h; exact one _ _ h0
    · simp only [sub, Option.map_eq_some_iff] at h; obtain ⟨e, he, rfl⟩ := h; exact one _ _ h0
    · simp [sub] at h
  | slice a n c =>
    have h0 := h
    obtain _ | ⟨b, off, _ | s⟩ := a
    · simp only [sub, Option.some.injEq] at h; subst h; exact one _ _ h0
    · simp only [sub, Option.map_eq_some_iff] at h; obtain ⟨e, he, rfl⟩ := h; exact one _ _ h0
    · simp [sub] at h
  | map r =>
    have h0 := h
    cases r with
    | none => simp only [sub, Option.some.injEq] at h; subst h; exact one _ _ h0
    | some r => simp only [sub, Option.map_eq_some_iff] at h; obtain ⟨e, he, rfl⟩ := h; exact one _ _ h0
  | chan r =>
    have h0 := h
    cases r with
    | none => simp only [sub, Option.some.injEq] at h; subst h; exact one _ _ h0
    | some r => simp [sub] at h
  | func fn a b =>
    have h0 := h
    simp only [sub, Option.map_eq_some_iff, Option.bind_eq_some_iff] at h
    obtain ⟨fn', hf, a', ha, b', hb, rfl⟩ := h
    exact one _ _ h0
  | iface t u =>
    have h0 := h
    simp only [sub, Option.map_eq_some_iff] at h; obtain ⟨e, he, rfl⟩ := h; exact one _ _ h0
  | tuple a =>
    have h0 := h
    simp only [sub, Option.map_eq_some_iff] at h; obtain ⟨e, he, rfl⟩ := h; exact one _ _ h0
  | _ => have h0 := h; simp only [sub, Option.some.injEq] at h; subst h; exact one _ _ h0

theorem subA_size {R : Emb} {a a' : Array Value} (h : subA R a = some a') : a'.size = a.size := by
  obtain ⟨l⟩ := a
  simp only [subA, Option.map_eq_some_iff] at h
  obtain ⟨l', hl, rfl⟩ := h
  simp [subL_length hl]
theorem subA_set {R : Emb} {a a' : Array Value} (h : subA R a = some a') (i : Nat) {v v' : Value} (hv : sub R v = some v') : subA R (a.setIfInBounds i v) = some (a'.setIfInBounds i v') := by
  obtain ⟨l⟩ := a
  simp only [subA, Option.map_eq_some_iff] at h
  obtain ⟨l', hl, rfl⟩ := h
  simp [subA, subL_set hl i hv]

def PartsRel (R : Emb) : List (Nat × Value) → List (Nat × Value) → Prop
  | [], [] => True
  | p :: l, q :: l' => p.1 = q.1 ∧ sub R p.2 = some q.2 ∧ PartsRel R l l'
  | _, _ => False

theorem lay_sub {R : Emb} {off : Nat} : ∀ {l l' : List Value} (_ : subL R l = some l') (k : Nat) {cs cs' : Array Value}, subA R cs = some cs' →
    subA R ((l.zipIdx k).foldl (fun cs p => cs.setIfInBounds (off + p.2) p.1) cs) = some ((l'.zipIdx k).foldl (fun cs p => cs.setIfInBounds (off + p.2) p.1) cs')
  | [], l', h, k, cs, cs', hc => by simp [subL] at h; subst h; exact hc
  | x :: l, l', h, k, cs, cs', hc => by
    obtain ⟨x', l'', rfl, hx, hl⟩ := subL_cons_inv h
    simp only [List.zipIdx_cons, List.foldl_cons]
    exact lay_sub hl (k + 1) (subA_set hc _ hx)

theorem fill_sub {R : Emb} {place : Nat → Option (Nat × Nat)} : ∀ {ps ps' : List (Nat × Value)} {cs cs' out : Array Value}, PartsRel R ps ps' → subA R cs = some cs' →
    Instr.fill place cs ps = some out → ∃ out', Instr.fill place cs' ps' = some out' ∧ subA R out = some out'
  | [], [], cs, cs', out, _, hc, h => by simp only [Instr.fill, Option.some.injEq] at h ⊢; subst h; exact ⟨cs', rfl, hc⟩
  | [], _ :: _, _, _, _, hp, _, _ => by simp [PartsRel] at hp
  | _ :: _, [], _, _, _, hp, _, _ => by simp [PartsRel] at hp
  | (i, v) :: ps, (j, v') :: ps', cs, cs', out, hp, hc, h => by
    obtain ⟨h1, hv, hp⟩ := hp
    simp only at h1 hv
    subst h1
    simp only [Instr.fill] at h ⊢
    cases hpl : place i with
    | none => rw [hpl] at h; cases h
    | some os =>
      obtain ⟨off, size⟩ := os
      rw [hpl] at h
      simp only at h ⊢
      have hs := sub_cells hv
      have e1 := subA_size hs
      have e2 := subA_size hc
      rw [e1, e2]
      by_cases hb : (decide (v.cells.size ≠ size) || decide (off + v.cells.size > cs.size)) = true
      · rw [if_pos hb] at h; cases h
      · rw [if_neg hb] at h ⊢
        refine fill_sub hp ?_ h
        clear h hb e1
        generalize v.cells = va at hs
        generalize v'.cells = va' at hs
        obtain ⟨l⟩ := va
        simp only [subA, Option.map_eq_some_iff] at hs
        obtain ⟨l', hl', rfl⟩ := hs
        have := lay_sub (off := off) hl' 0 hc
        simpa [← Array.foldl_toList] using this

theorem partsRel_map {R : Emb} {ρ ρ' : Operand → Value} : ∀ {l : List (Nat × Operand)}, (∀ p ∈ l, sub R (ρ p.2) = some (ρ' p.2)) →
    PartsRel R (l.map fun p => (p.1, ρ p.2)) (l.map fun p => (p.1, ρ' p.2))
  | [], _ => trivial
  | p :: _, h => ⟨rfl, h p (List.mem_cons_self ..), partsRel_map fun q hq => h q (List.mem_cons_of_mem _ hq)⟩

section
variable {P : Program} {ρ : Operand → Value} {v : Value} {dst : Option Tmp} {ty : TypeId} {pos : String} {after : Array Edge} {guard : Option (Nat × Bool)}

theorem build_sub {R : Emb} {t : TypeId} {ps ps' : Array (Nat × Value)} (hp : PartsRel R ps.toList ps'.toList) (hz : ((P.info? t).bind (·.zero)).any clo = true)
    (h : qv P (Instr.build t ps) = some v) : ∃ v', qv P (Instr.build t ps') = some v' ∧ sub R v = some v' := by
  simp only [Instr.build, qv_bind, qv_zeroValue] at h ⊢
  cases hz' : (P.info? t).bind (·.zero) with
  | none => rw [hz'] at h; cases h
  | some z =>
    rw [hz'] at hz h
    simp only [Option.any_some, Option.bind_some] at hz h ⊢
    have hc : subA R z.cells = some z.cells := sub_cells (sub_clo R z hz)
    simp only [qv_underlying] at h ⊢
    cases hu : P.underlying t with
    | none => rw [hu] at h; cases h
    | some d =>
      rw [hu] at h
      simp only [Option.bind_some] at h ⊢
      cases d with
      | struct fields =>
        simp only [qv_bind] at h ⊢
        generalize qv P (Array.mapM _ fields : Sem _) = pl at h ⊢
        cases pl with
        | none => cases h
        | some places =>
          simp only [Option.bind_some] at h ⊢
          cases hfl : Instr.fill (places[·]?) z.cells ps.toList with
          | none => rw [hfl] at h; simp [qv_stuck] at h
          | some out =>
            rw [hfl] at h
            simp only [qv_pure, Option.some.injEq] at h
            subst h
            obtain ⟨out', h', ho⟩ := fill_sub hp hc hfl
            rw [h']
            exact ⟨.agg out', by simp only [qv_pure], by simp [sub, ho]⟩
      | array n el =>
        simp only [qv_bind, qv_sizeOf] at h ⊢
        cases hs : (P.info? el).map (·.size) with
        | none => rw [hs] at h; cases h
        | some s =>
          rw [hs] at h
          simp only [Option.bind_some] at h ⊢
          cases hfl : Instr.fill (fun i => some (i * s, s)) z.cells ps.toList with
          | none => rw [hfl] at h; simp [qv_stuck] at h
          | some out =>
            rw [hfl] at h
            simp only [qv_pure, Option.some.injEq] at h
            subst h
            obtain ⟨out', h', ho⟩ := fill_sub hp hc hfl
            rw [h']
            exact ⟨.agg out', by simp only [qv_pure], by simp [sub, ho]⟩
      | _ => simp [qv_stuck] at h

theorem pure_build {t : TypeId} {parts : Array (Nat × Operand)} (hz : ((P.info? t).bind (·.zero)).any clo = true) (h : pv P ρ ⟨dst, .build t parts, ty, pos, after, guard⟩ = some v) :
    Pure1 P ⟨dst, .build t parts, ty, pos, after, guard⟩ ρ v := by
  intro R ρ' hf
  have h := pv_some h
  simp only [execOp, qv_bind] at h
  cases hb : qv P (Instr.build t (parts.map fun (i, x) => (i, ρ x))) with
  | none => rw [hb] at h; cases h
  | some u =>
    rw [hb] at h
    simp only [Option.bind_some, qv_pure, Option.some.injEq, Next.value.injEq] at h
    subst h
    have hp : PartsRel R (parts.map fun (i, x) => (i, ρ x)).toList (parts.map fun (i, x) => (i, ρ' x)).toList := by
      simp only [Array.toList_map]
      exact partsRel_map fun p hp => hf p.2 (by simp only [Op.operands]; exact List.mem_map.2 ⟨p, hp, rfl⟩)
    obtain ⟨v', h', hs⟩ := build_sub hp hz hb
    exact ⟨v', pv_of (by simp only [execOp, qv_bind, h', Option.bind_some, qv_pure]), hs⟩

/-! ### The length of a slice -/
theorem pure_len {x : Operand} {ats : Array TypeId} {t e : TypeId} {a : Option Addr} {n c : Nat} (ht : ats[0]? = some t) (hu : P.underlying t = some (.slice e)) (hx : ρ x = .slice a n c) :
    Pure1 P ⟨dst, .call ⟨.builtin .len, #[x], ats⟩, ty, pos, after, guard⟩ ρ (goInt n) := by
  intro R ρ' hf
  have hx' := hf x (by simp [Op.operands, Call.operands])
  rw [hx] at hx'
  have : ∃ a' c', ρ' x = .slice a' n c' := by
    obtain _ | ⟨b, off, _ | s⟩ := a
    · simp only [sub, Option.some.injEq] at hx'; exact ⟨_, _, hx'.symm⟩
    · simp only [sub, Option.map_eq_some_iff] at hx'; obtain ⟨e, he, hx'⟩ := hx'; exact ⟨_, _, hx'.symm⟩
    · simp [sub] at hx'
  obtain ⟨a', c', hxv⟩ := this
  refine ⟨goInt n, pv_of ?_, rfl⟩
  simp only [execOp, qv_bind, resolve, qv_pure, Option.bind_some, invoke, builtin, Builtin.len_, ht, List.map_toArray, List.map_cons, List.map_nil, hxv, List.getElem?_toArray, List.getElem?_cons_zero,
    qv_underlying, hu]

/-! ### Asking for nil -/
def nilEq : TypeDesc → Value → Value → Option Bool
  | .pointer _, .pointer none, .pointer b => some b.isNone
  | .pointer _, .pointer (some _), .pointer none => some false
  | .slice _, .slice none _ _, .slice b _ _ => some b.isNone
  | .slice _, .slice (some _) _ _, .slice none _ _ => some false
  | .map _ _, .map none, .map b => some b.isNone
  | .map _ _, .map (some _), .map none => some false
  | .interface _, .nilIface, .iface _ _ => some false
  | .interface _, .iface _ _, .nilIface => some false
  | _, _, _ => none

theorem nilEq_sub {R : Emb} {d : TypeDesc} {x y x' y' : Value} {r : Bool} (hx : sub R x = some x') (hy : sub R y = some y') (h : nilEq d x y = some r) : nilEq d x' y' = some r := by
  have ptr : ∀ {a : Option Addr} {z}, sub R (.pointer a) = some z → ∃ a', z = .pointer a' ∧ a'.isNone = a.isNone := fun {a z} hz => by
    obtain _ | ⟨b, off, _ | s⟩ := a
    · simp only [sub, Option.some.injEq] at hz; exact ⟨_, hz.symm, rfl⟩
    · simp only [sub, Option.map_eq_some_iff] at hz; obtain ⟨e, he, hz⟩ := hz; exact ⟨_, hz.symm, rfl⟩
    · simp [sub] at hz
  have sl : ∀ {a : Option Addr} {n c z}, sub R (.slice a n c) = some z → ∃ a' c', z = .slice a' n c' ∧ a'.isNone = a.isNone := fun {a n c z} hz => by
    obtain _ | ⟨b, off, _ | s⟩ := a
    · simp only [sub, Option.some.injEq] at hz; exact ⟨_, _, hz.symm, rfl⟩
    · simp only [sub, Option.map_eq_some_iff] at hz; obtain ⟨e, he, hz⟩ := hz; exact ⟨_, _, hz.symm, rfl⟩
    · simp [sub] at hz
  have mp : ∀ {a : Option Nat} {z}, sub R (.map a) = some z → ∃ a', z = .map a' ∧ a'.isNone = a.isNone := fun {a z} hz => by
    cases a with
    | none => simp only [sub, Option.some.injEq] at hz; exact ⟨_, hz.symm, rfl⟩
    | some r => simp only [sub, Option.map_eq_some_iff] at hz; obtain ⟨e, he, hz⟩ := hz; exact ⟨_, hz.symm, rfl⟩
  have ifc : ∀ {t u z}, sub R (.iface t u) = some z → ∃ u', z = .iface t u' := fun {t u z} hz => by
    simp only [sub, Option.map_eq_some_iff] at hz; obtain ⟨e, he, hz⟩ := hz; exact ⟨_, hz.symm⟩
  unfold nilEq at h
  split at h
  · obtain ⟨a, rfl, ha⟩ := ptr hx; obtain ⟨b, rfl, hb⟩ := ptr hy
    cases a <;> simp at ha
    simp [nilEq, hb, Option.some.inj h]
  · obtain ⟨a, rfl, ha⟩ := ptr hx; obtain ⟨b, rfl, hb⟩ := ptr hy
    cases a <;> simp at ha
    cases b <;> simp at hb
    exact h
  · obtain ⟨a, c, rfl, ha⟩ := sl hx; obtain ⟨b, c', rfl, hb⟩ := sl hy
    cases a <;> simp at ha
    simp [nilEq, hb, Option.some.inj h]
  · obtain ⟨a, c, rfl, ha⟩ := sl hx; obtain ⟨b, c', rfl, hb⟩ := sl hy
    cases a <;> simp at ha
    cases b <;> simp at hb
    exact h
  · obtain ⟨a, rfl, ha⟩ := mp hx; obtain ⟨b, rfl, hb⟩ := mp hy
    cases a <;> simp at ha
    simp [nilEq, hb, Option.some.inj h]
  · obtain ⟨a, rfl, ha⟩ := mp hx; obtain ⟨b, rfl, hb⟩ := mp hy
    cases a <;> simp at ha
    cases b <;> simp at hb
    exact h
  · obtain ⟨u, rfl⟩ := ifc hy
    simp only [sub, Option.some.injEq] at hx; subst hx; exact h
  · obtain ⟨u, rfl⟩ := ifc hx
    simp only [sub, Option.some.injEq] at hy; subst hy; exact h
  · cases h

theorem qv_equalIn_nil {t : TypeId} {d : TypeDesc} {x y : Value} {r : Bool} {n : Nat} (hu : P.underlying t = some d) (h : nilEq d x y = some r) : qv P (Op.equalIn (n + 1) t x y) = some r := by
  unfold nilEq at h
  split at h <;> simp only [Option.some.injEq, reduceCtorEq] at h <;> subst h <;>
    simp only [Op.equalIn, qv_bind, qv_underlying, hu, Option.bind_some, qv_pure]

theorem qv_binOp_nil {op : BinOp} (hop : op = .eql ∨ op = .neq) {t : TypeId} {xo yo : Operand} {d : TypeDesc} {x y : Value} {r : Bool} (hu : P.underlying t = some d) (h : nilEq d x y = some r) :
    qv P (do eqGuard op t xo yo x y; binOp op t x y) = some (.bool (if op = .eql then r else !r)) := by
  have h0 : qv P (Op.equal t x y) = some r := qv_equalIn_nil (n := 9999) hu h
  have hg : qv P (eqGuard op t xo yo x y) = some () := by
    unfold nilEq at h
    rcases hop with rfl | rfl <;> (split at h <;> first | rfl | cases h)
  rw [qv_bind, hg, Option.bind_some]
  unfold nilEq at h
  rcases hop with rfl | rfl
  · split at h <;> first | (cases h; done) | (simp only [binOp, qv_bind, h0, Option.bind_some, qv_pure, if_true])
  · split at h <;> first | (cases h; done) | (simp only [binOp, qv_bind, h0, Option.bind_some, qv_pure]; rfl)

theorem pure_nilEq {op : BinOp} (hop : op = .eql ∨ op = .neq) {t yt : TypeId} {x y : Operand} {d : TypeDesc} {r : Bool} (hu : P.underlying t = some d) (h : nilEq d (ρ x) (ρ y) = some r) :
    Pure1 P ⟨dst, .binOp op t x y yt, ty, pos, after, guard⟩ ρ (.bool (if op = .eql then r else !r)) := by
  intro R ρ' hf
  have hx := hf x (by simp [Op.operands])
  have hy := hf y (by simp [Op.operands])
  refine ⟨_, pv_of ?_, rfl⟩
  simp only [execOp]
  rw [qv_bind, qv_binOp_nil hop hu (nilEq_sub hx hy h), Option.bind_some, qv_pure]

/-! ### Asserting a concrete type -/
def plainDesc : TypeDesc → Bool
  | .interface _ => false
  | _ => true
theorem pure_assert {x : Operand} {xt t : TypeId} {ok : Bool} {d : TypeDesc} {u : Value} (hu : P.underlying t = some d) (hd : plainDesc d = true) (hx : ρ x = .iface t u) :
    Pure1 P ⟨dst, .typeAssert x xt t ok, ty, pos, after, guard⟩ ρ (if ok then .tuple #[u, .bool true] else u) := by
  intro R ρ' hf
  have hx' := hf x (by simp [Op.operands])
  rw [hx] at hx'
  simp only [sub, Option.map_eq_some_iff] at hx'
  obtain ⟨u', hu', hx'⟩ := hx'
  refine ⟨if ok then .tuple #[u', .bool true] else u', pv_of ?_, ?_⟩
  · simp only [execOp, Instr.typeAssert, qv_bind, qv_underlying, hu, ← hx', Option.bind_some]
    cases d <;> first | (simp [plainDesc] at hd; done) | (simp only [if_true, qv_pure, Option.bind_some])
  · cases ok
    · exact hu'
    · simp [sub, subA, subL, hu']
end
end Ev
end Go.Proofs.YthckkbhjocjmkaaGreatDoor
