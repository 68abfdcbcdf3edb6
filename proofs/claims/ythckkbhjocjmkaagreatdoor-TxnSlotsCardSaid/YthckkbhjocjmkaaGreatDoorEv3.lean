/- The pure operations of the abstract run: those that neither read nor write memory. The model's own text computes them, on the abstract operands; here it is shown that it computes on the real ones what belongs to that. -/
import Derived.Test.YthckkbhjocjmkaaGreatDoorEv2
import Derived.Laws.Cells
import Derived.Orders
namespace Go.Proofs.YthckkbhjocjmkaaGreatDoor
namespace Ev

/-- What a term yields that asks nothing of the world. -/
def qv {α : Type} (P : Program) : Sem α → Option α
  | .pure a => some a
  | .program k => qv P (k P)
  | .mark _ k => qv P k
  | _ => none

theorem qv_run {α : Type} {P : Program} : ∀ {s : Sem α} {a : α}, qv P s = some a → ∀ w, s.run P w = .ok a w
  | .pure a, b, h, w => by simp only [qv, Option.some.injEq] at h; subst h; rfl
  | .program k, b, h, w => by simp only [qv] at h; simp only [Sem.run]; exact qv_run h w
  | .mark _ k, b, h, w => by simp only [qv] at h; simp only [Sem.run]; exact qv_run h w
  | .load .., _, h, _ => by simp [qv] at h
  | .store .., _, h, _ => by simp [qv] at h
  | .new .., _, h, _ => by simp [qv] at h
  | .shape .., _, h, _ => by simp [qv] at h
  | .freeze .., _, h, _ => by simp [qv] at h
  | .frozen .., _, h, _ => by simp [qv] at h
  | .getObj .., _, h, _ => by simp [qv] at h
  | .setObj .., _, h, _ => by simp [qv] at h
  | .choose .., _, h, _ => by simp [qv] at h
  | .sys .., _, h, _ => by simp [qv] at h
  | .halt _, _, h, _ => by simp [qv] at h

theorem qv_bind' {α β : Type} {P : Program} (f : α → Sem β) : ∀ (s : Sem α), qv P (s.bind f) = (qv P s).bind fun a => qv P (f a)
  | .pure a => rfl
  | .program k => by simp only [Sem.bind, qv]; exact qv_bind' f (k P)
  | .mark _ k => by simp only [Sem.bind, qv]; exact qv_bind' f k
  | .load .. => rfl
  | .store .. => rfl
  | .new .. => rfl
  | .shape .. => rfl
  | .freeze .. => rfl
  | .frozen .. => rfl
  | .getObj .. => rfl
  | .setObj .. => rfl
  | .choose .. => rfl
  | .sys .. => rfl
  | .halt _ => rfl
section
variable {α β : Type} {P : Program}
theorem qv_bind (s : Sem α) (f : α → Sem β) : qv P (s >>= f) = (qv P s).bind fun a => qv P (f a) := qv_bind' f s
theorem qv_pure (a : α) : qv P (Pure.pure a : Sem α) = some a := rfl
theorem qv_pure' (a : α) : qv P (Sem.pure a : Sem α) = some a := rfl
theorem qv_stuck (s : String) : qv P (stuck s : Sem α) = none := rfl
theorem qv_unsupported (u : Unsupported) : qv P (unsupported u : Sem α) = none := rfl
theorem qv_halt (h : Halt) : qv P (Sem.halt h : Sem α) = none := rfl
theorem qv_program : qv P program = some P := rfl
theorem qv_typeInfo (t : TypeId) : qv P (typeInfo t) = P.info? t := by
  simp only [typeInfo, qv_bind, qv_program, Option.bind_some]
  cases P.info? t <;> rfl
theorem qv_underlying (t : TypeId) : qv P (underlying t) = P.underlying t := by
  simp only [underlying, qv_bind, qv_program, Option.bind_some]
  cases P.underlying t <;> rfl
theorem qv_sizeOf (t : TypeId) : qv P (sizeOf t) = (P.info? t).map (·.size) := by
  simp only [sizeOf, qv_bind, qv_typeInfo]
  cases P.info? t <;> rfl
theorem qv_zeroValue (t : TypeId) : qv P (zeroValue t) = (P.info? t).bind (·.zero) := by
  simp only [zeroValue, qv_bind, qv_typeInfo]
  cases P.info? t with
  | none => rfl
  | some i => simp only [Option.bind_some]; cases i.zero <;> rfl
theorem qv_goPanic (v : Value) : qv P (goPanic v : Sem α) = none := rfl
theorem qv_ite (c : Prop) [Decidable c] (x y : Sem α) : qv P (if c then x else y) = if c then qv P x else qv P y := by split <;> rfl
theorem qv_runtimePanic (e : RuntimeError) : qv P (runtimePanic e : Sem α) = none := by
  cases e <;> simp only [runtimePanic, qv_bind, qv_program, Option.bind_some, qv_goPanic] <;> first | rfl | (simp only [newVar, newRow, newObj, Bind.bind, Sem.bind, qv]; cases qv P _ <;> rfl)
theorem qv_boundsPanic (k : IntKind) (x y : Int) (c : BoundsCode) : qv P (boundsPanic k x y c : Sem α) = none := by
  unfold boundsPanic
  dsimp only
  split
  · rfl
  · simp only [qv_bind, qv_pure, Option.bind_some, qv_runtimePanic]
theorem qv_asInt (k : IntKind) (n : Int) : qv P (asIntOf (.int k n)) = some (k, n) := rfl
theorem asIntOf_some {v : Value} {r : IntKind × Int} (h : qv P (asIntOf v) = some r) : v = .int r.1 r.2 := by
  cases v with
  | int k n => simp only [asIntOf, qv_pure, Option.some.injEq] at h; subst h; rfl
  | pointer a => cases a <;> simp [asIntOf, qv_stuck, qv_unsupported] at h
  | _ => simp [asIntOf, qv_stuck] at h
theorem sub_int {R : Emb} {k : IntKind} {n : Int} {v : Value} (h : sub R (.int k n) = some v) : v = .int k n := by simp [sub] at h; exact h.symm
theorem sub_bool {R : Emb} {b : Bool} {v : Value} (h : sub R (.bool b) = some v) : v = .bool b := by simp [sub] at h; exact h.symm
end

/-- What a pure operation yields. -/
def pv (P : Program) (ρ : Operand → Value) (o : Oper) : Option Value :=
  match qv P (execOp ρ o) with
  | some (.value v) => some v
  | _ => none

theorem pv_some {P : Program} {ρ : Operand → Value} {o : Oper} {v : Value} (h : pv P ρ o = some v) : qv P (execOp ρ o) = some (.value v) := by
  unfold pv at h
  split at h
  · next heq => simp only [Option.some.injEq] at h; subst h; exact heq
  · cases h
theorem pv_of {P : Program} {ρ : Operand → Value} {o : Oper} {v : Value} (h : qv P (execOp ρ o) = some (.value v)) : pv P ρ o = some v := by simp [pv, h]

/-- The operands fit: what is read on the real side belongs to what is read on the abstract one. -/
def Fits (R : Emb) (ρ ρ' : Operand → Value) (xs : List Operand) : Prop := ∀ x ∈ xs, sub R (ρ x) = some (ρ' x)

/-- What is claimed of a pure operation. -/
def Pure1 (P : Program) (o : Oper) (ρ : Operand → Value) (v : Value) : Prop :=
  ∀ (R : Emb) (ρ' : Operand → Value), Fits R ρ ρ' o.op.operands.toList → ∃ v', pv P ρ' o = some v' ∧ sub R v = some v'

/-! ### All operands closed -/
def opsClosed (ρ : Operand → Value) (o : Oper) : Bool := o.op.operands.toList.all fun x => clo (ρ x)

theorem pure_closed {P : Program} {o : Oper} {ρ : Operand → Value} {v : Value} (hsel : ∀ cs b, o.op ≠ .select cs b) (hc : opsClosed ρ o = true) (h : pv P ρ o = some v) (hv : clo v = true) : Pure1 P o ρ v := by
  intro R ρ' hf
  have he : ∀ x ∈ o.op.operands, ρ' x = ρ x := fun x hx => by
    have h1 := hf x (by simpa using hx)
    have h2 : clo (ρ x) = true := by
      have := List.all_eq_true.1 hc x (by simpa using hx)
      simpa using this
    rw [sub_clo R _ h2] at h1
    exact (Option.some.inj h1).symm
  refine ⟨v, ?_, sub_clo R v hv⟩
  rw [pv, execOp_congr o hsel he]
  exact h

/-! ### The structural operations, one by one -/
section one
variable {P : Program} {ρ : Operand → Value} {v : Value} {dst : Option Tmp} {ty : TypeId} {pos : String} {after : Array Edge} {guard : Option (Nat × Bool)}

theorem pure_move {x : Operand} (h : pv P ρ ⟨dst, .move x, ty, pos, after, guard⟩ = some v) : Pure1 P ⟨dst, .move x, ty, pos, after, guard⟩ ρ v := by
  intro R ρ' hf
  have h := pv_some h
  simp only [execOp, qv_pure, Option.some.injEq, Next.value.injEq] at h
  subst h
  exact ⟨ρ' x, pv_of rfl, hf x (by simp [Op.operands])⟩
theorem pure_assign {x : Operand} (h : pv P ρ ⟨dst, .assign x, ty, pos, after, guard⟩ = some v) : Pure1 P ⟨dst, .assign x, ty, pos, after, guard⟩ ρ v := by
  intro R ρ' hf
  have h := pv_some h
  simp only [execOp, qv_pure, Option.some.injEq, Next.value.injEq] at h
  subst h
  exact ⟨ρ' x, pv_of rfl, hf x (by simp [Op.operands])⟩
theorem pure_pick {c a b : Operand} (h : pv P ρ ⟨dst, .pick c a b, ty, pos, after, guard⟩ = some v) : Pure1 P ⟨dst, .pick c a b, ty, pos, after, guard⟩ ρ v := by
  intro R ρ' hf
  have h := pv_some h
  have hc := hf c (by simp [Op.operands])
  simp only [execOp, qv_bind] at h
  cases hb : ρ c with
  | bool x =>
    rw [hb] at h hc
    have hc' := sub_bool hc
    simp only [asBool, qv_pure, Option.bind_some, Option.some.injEq, Next.value.injEq] at h
    subst h
    refine ⟨if x then ρ' a else ρ' b, pv_of ?_, ?_⟩
    · simp only [execOp, qv_bind, hc', asBool, qv_pure, Option.bind_some]
    · cases x
      · exact hf b (by simp [Op.operands])
      · exact hf a (by simp [Op.operands])
  | _ => rw [hb] at h; simp [asBool, qv_stuck] at h
theorem pure_extract {t : Operand} {i : Nat} (h : pv P ρ ⟨dst, .extract t i, ty, pos, after, guard⟩ = some v) : Pure1 P ⟨dst, .extract t i, ty, pos, after, guard⟩ ρ v := by
  intro R ρ' hf
  have h := pv_some h
  have hc := hf t (by simp [Op.operands])
  simp only [execOp, qv_bind, Instr.extract] at h
  cases hb : ρ t with
  | tuple vs =>
    rw [hb] at h hc
    obtain ⟨l⟩ := vs
    simp only [sub, subA, Option.map_map, Option.map_eq_some_iff, Function.comp] at hc
    obtain ⟨l', hl, hc⟩ := hc
    simp only [List.getElem?_toArray] at h
    cases hv : l[i]? with
    | none => rw [hv] at h; simp [qv_stuck] at h
    | some u =>
      rw [hv] at h
      simp only [qv_pure, Option.bind_some, Option.some.injEq, Next.value.injEq] at h
      subst h
      obtain ⟨u', hu', hs⟩ := subL_get hl i u hv
      refine ⟨u', pv_of ?_, hs⟩
      simp only [execOp, qv_bind, Instr.extract, ← hc, List.getElem?_toArray, hu', qv_pure, Option.bind_some]
  | _ => rw [hb] at h; simp [qv_stuck] at h
theorem pure_nilCheck {x : Operand} {b off : Nat} (hx : ρ x = .pointer (some ⟨b, off, none⟩)) : Pure1 P ⟨dst, .nilCheck x, ty, pos, after, guard⟩ ρ (ρ x) := by
  intro R ρ' hf
  have hc := hf x (by simp [Op.operands])
  rw [hx] at hc
  have hc2 := hc
  simp only [sub, Option.map_eq_some_iff] at hc
  obtain ⟨e, he, hc⟩ := hc
  refine ⟨ρ' x, pv_of ?_, by rw [hx]; exact hc2⟩
  simp only [execOp, ← hc, qv_pure]

theorem addr_add (b off n : Nat) : (⟨b, off, none⟩ : Addr).add n = ⟨b, off + n, none⟩ := by
  by_cases h : n = 0
  · subst h; rfl
  · simp [Addr.add, h]

theorem pure_fieldAddr {s : TypeId} {x : Operand} {f b off : Nat} (hx : ρ x = .pointer (some ⟨b, off, none⟩)) (h : pv P ρ ⟨dst, .fieldAddr s x f, ty, pos, after, guard⟩ = some v) :
    Pure1 P ⟨dst, .fieldAddr s x f, ty, pos, after, guard⟩ ρ v := by
  intro R ρ' hf
  have h := pv_some h
  have hc := hf x (by simp [Op.operands])
  rw [hx] at hc
  simp only [sub, Option.map_eq_some_iff] at hc
  obtain ⟨e, he, hc⟩ := hc
  have key : ∀ (ρ'' : Operand → Value) (b' : Nat), ρ'' x = .pointer (some ⟨b', off, none⟩) →
      qv P (execOp ρ'' ⟨dst, .fieldAddr s x f, ty, pos, after, guard⟩) =
        match P.underlying s with
        | some (.struct fields) => (match fields[f]? with
          | some fd => (match (P.info? fd.type).map (·.size) with
            | some (_ + 1) => some (.value (.pointer (some ⟨b', off + fd.offset, none⟩)))
            | _ => none)
          | none => none)
        | _ => none := fun ρ'' b' hb' => by
    simp only [execOp, Instr.fieldAt, hb', qv_bind, qv_underlying]
    cases hu : P.underlying s with
    | none => rfl
    | some d =>
      cases d <;> simp only [Option.bind_some, qv_stuck, Option.bind_none]
      rename_i fields
      cases hfd : fields[f]? with
      | none => simp only [qv_stuck, Option.bind_none]
      | some fd =>
        simp only [Instr.sureAddr, qv_pure, Option.bind_some, qv_bind, fieldPlace, qv_sizeOf]
        cases hsz : (P.info? fd.type).map (·.size) with
        | none => simp
        | some n =>
          cases n with
          | zero => simp [partAt, byteOf, program, noView, viewAt, shape, Bind.bind, Sem.bind, qv]
          | succ n => simp [qv_pure, addr_add]
  rw [key ρ b hx] at h
  have h' := key ρ' e.1 hc.symm
  cases hu : P.underlying s with
  | none => rw [hu] at h; cases h
  | some d =>
    rw [hu] at h h'
    cases d with
    | struct fields =>
      simp only at h h'
      cases hfd : fields[f]? with
      | none => rw [hfd] at h; cases h
      | some fd =>
        rw [hfd] at h h'
        simp only at h h'
        cases hsz : (P.info? fd.type).map (·.size) with
        | none => rw [hsz] at h; cases h
        | some n =>
          rw [hsz] at h h'
          cases n with
          | zero => cases h
          | succ n =>
            simp only [Option.some.injEq, Next.value.injEq] at h
            subst h
            exact ⟨_, pv_of h', by simp [sub, he]⟩
    | _ => cases h

theorem pure_makeInterface {s : TypeId} {x : Operand} (h : pv P ρ ⟨dst, .makeInterface s x, ty, pos, after, guard⟩ = some v) :
    Pure1 P ⟨dst, .makeInterface s x, ty, pos, after, guard⟩ ρ v := by
  intro R ρ' hf
  have h := pv_some h
  have hc := hf x (by simp [Op.operands])
  simp only [execOp, Instr.makeInterface, qv_bind, qv_underlying] at h
  cases hu : P.underlying s with
  | none => rw [hu] at h; cases h
  | some d =>
    rw [hu] at h
    cases d with
    | interface ms => simp [qv_stuck] at h
    | _ =>
      simp only [Option.bind_some, qv_pure, Option.some.injEq, Next.value.injEq] at h
      subst h
      refine ⟨.iface s (ρ' x), pv_of ?_, by simp [sub, hc]⟩
      simp only [execOp, Instr.makeInterface, qv_bind, qv_underlying, hu, Option.bind_some, qv_pure]

theorem subL_map {R : Emb} {ρ' : Operand → Value} : ∀ {l : List Operand}, (∀ x ∈ l, sub R (ρ x) = some (ρ' x)) → subL R (l.map ρ) = some (l.map ρ')
  | [], _ => rfl
  | x :: _, h => subL_cons (h x (List.mem_cons_self ..)) (subL_map fun y hy => h y (List.mem_cons_of_mem _ hy))
theorem subA_map {R : Emb} {ρ' : Operand → Value} {a : Array Operand} (h : ∀ x ∈ a.toList, sub R (ρ x) = some (ρ' x)) : subA R (a.map ρ) = some (a.map ρ') := by
  obtain ⟨l⟩ := a
  simp only [List.map_toArray, subA, subL_map h, Option.map_some]

theorem pure_makeFunc {fn : FuncId} {a b : Array Operand} : Pure1 P ⟨dst, .makeFunc (.func fn) a b, ty, pos, after, guard⟩ ρ (.func (.func fn) (a.map ρ) (b.map ρ)) := by
  intro R ρ' hf
  refine ⟨.func (.func fn) (a.map ρ') (b.map ρ'), pv_of ?_, ?_⟩
  · simp only [execOp, Instr.makeFunc, qv_bind, qv_pure, Option.bind_some]
  · simp only [sub, subFn, Option.bind_some]
    rw [subA_map (fun x hx => hf x (by simp [Op.operands]; exact .inl (by simpa using hx))), subA_map (fun x hx => hf x (by simp [Op.operands]; exact .inr (by simpa using hx)))]
    rfl

theorem pure_indexAddr {t : TypeId} {x i : Operand} (h : pv P ρ ⟨dst, .indexAddr t x i, ty, pos, after, guard⟩ = some v) :
    Pure1 P ⟨dst, .indexAddr t x i, ty, pos, after, guard⟩ ρ v := by
  intro R ρ' hf
  have h := pv_some h
  have hx := hf x (by simp [Op.operands])
  have hi := hf i (by simp [Op.operands])
  -- what it comes to at a base
  have key : ∀ (ρ'' : Operand → Value) (k : IntKind) (n : Int), ρ'' i = .int k n →
      qv P (execOp ρ'' ⟨dst, .indexAddr t x i, ty, pos, after, guard⟩) =
        (match P.underlying t, ρ'' x with
        | some (.array len elem), .pointer (some a) => if 0 ≤ n ∧ n < len then (((P.info? elem).map (·.size)).map fun s => Next.value (.pointer (some (a.add (n.toNat * s))))) else none
        | some (.slice elem), .slice (some a) len _ => if 0 ≤ n ∧ n < len then (((P.info? elem).map (·.size)).map fun s => Next.value (.pointer (some (a.add (n.toNat * s))))) else none
        | _, _ => none) := fun ρ'' k n hin => by
    simp only [execOp, Instr.indexAt, hin, qv_bind, qv_asInt, Option.bind_some, qv_underlying]
    cases hu : P.underlying t with
    | none => rfl
    | some d =>
      cases d with
      | array len elem =>
        cases hxv : ρ'' x with
        | pointer a =>
          cases a with
          | none => simp [Instr.sureAddr, qv_stuck, qv_bind]
          | some a =>
            simp only [Option.bind_some, qv_bind, Instr.sureAddr, qv_pure, qv_underlying, hu, qv_ite, qv_sizeOf]
            by_cases hb : 0 ≤ n ∧ n < len
            · simp only [hb, and_self, if_true]
              cases (P.info? elem).map (·.size) <;> rfl
            · simp only [hb, if_false]
              split
              · simp [qv_unsupported]
              · simp [qv_boundsPanic]
        | _ => simp [Instr.sureAddr, qv_stuck, qv_bind]
      | slice elem =>
        cases hxv : ρ'' x with
        | slice a len c =>
          cases a with
          | none => simp only [Option.bind_some, qv_pure, qv_bind, qv_underlying, hu, qv_boundsPanic]; rfl
          | some a =>
            simp only [Option.bind_some, qv_bind, qv_pure, qv_underlying, hu, qv_ite, qv_sizeOf]
            by_cases hb : 0 ≤ n ∧ n < len
            · simp only [hb, and_self, if_true]
              cases (P.info? elem).map (·.size) <;> rfl
            · simp only [hb, if_false]
              split
              · simp [qv_unsupported]
              · simp [qv_boundsPanic]
        | _ => simp [qv_stuck, qv_bind]
      | _ => simp [qv_stuck, qv_bind]
  have hint : ∃ k n, ρ i = .int k n := by
    simp only [execOp, Instr.indexAt, qv_bind] at h
    cases hq : qv P (asIntOf (ρ i)) with
    | none => rw [hq] at h; cases h
    | some r => exact ⟨_, _, asIntOf_some hq⟩
  obtain ⟨k, n, hin⟩ := hint
  rw [hin] at hi
  have hin' := sub_int hi
  rw [key ρ k n hin] at h
  have h' := key ρ' k n hin'
  cases hu : P.underlying t with
  | none => rw [hu] at h; cases h
  | some d =>
    rw [hu] at h h'
    cases d with
    | array len elem =>
      cases hxv : ρ x with
      | pointer a =>
        rw [hxv] at h hx
        cases a with
        | none => cases h
        | some a =>
          obtain ⟨b, off, sp⟩ := a
          cases sp with
          | some s => simp [sub] at hx
          | none =>
            simp only [sub, Option.map_eq_some_iff] at hx
            obtain ⟨e, he, hx⟩ := hx
            rw [← hx] at h'
            simp only at h h'
            by_cases hb : 0 ≤ n ∧ n < len
            · rw [if_pos hb] at h h'
              cases hsz : (P.info? elem).map (·.size) with
              | none => rw [hsz] at h; cases h
              | some s =>
                rw [hsz] at h h'
                simp only [Option.map_some, Option.some.injEq, Next.value.injEq, addr_add] at h h'
                subst h
                exact ⟨_, pv_of h', by simp [sub, he]⟩
            · rw [if_neg hb] at h; cases h
      | _ => rw [hxv] at h; cases h
    | slice elem =>
      cases hxv : ρ x with
      | slice a len c =>
        rw [hxv] at h hx
        cases a with
        | none => cases h
        | some a =>
          obtain ⟨b, off, sp⟩ := a
          cases sp with
          | some s => simp [sub] at hx
          | none =>
            simp only [sub, Option.map_eq_some_iff] at hx
            obtain ⟨e, he, hx⟩ := hx
            rw [← hx] at h'
            simp only at h h'
            by_cases hb : 0 ≤ n ∧ n < len
            · rw [if_pos hb] at h h'
              cases hsz : (P.info? elem).map (·.size) with
              | none => rw [hsz] at h; cases h
              | some s =>
                rw [hsz] at h h'
                simp only [Option.map_some, Option.some.injEq, Next.value.injEq, addr_add] at h h'
                subst h
                exact ⟨_, pv_of h', by simp [sub, he]⟩
            · rw [if_neg hb] at h; cases h
      | _ => rw [hxv] at h; cases h
    | _ => cases h
end one
end Ev
end Go.Proofs.YthckkbhjocjmkaaGreatDoor
