/- One operation of the abstract run. -/
import Derived.Test.YthckkbhjocjmkaaGreatDoorEvD
namespace Go.Proofs.YthckkbhjocjmkaaGreatDoor
namespace Ev

abbrev Frm := List Value

def evalO (t : Frm) : Operand → Value
  | .tmp i => t.getD i undef
  | .const v => v
  | .global g => .pointer (some ⟨g, 0, none⟩)
  | .func f => .func (.func f) #[] #[]

/-- An operand whose value has its counterpart. -/
def okX : Operand → Bool
  | .const v => clo v
  | .global _ => false
  | _ => true

theorem evalO_fits {R : Emb} {t : Frm} {a : Act} (ht : subL R t = some a.tmps.toList) {x : Operand} (hx : okX x = true) : sub R (evalO t x) = some (a.eval x) := by
  cases x with
  | tmp i =>
    simp only [evalO, Act.eval]
    cases hi : t[i]? with
    | none =>
      have hl := subL_length ht
      have : a.tmps[i]? = none := by
        rw [Array.getElem?_eq_none_iff]
        have := List.getElem?_eq_none_iff.1 hi
        simp at hl; omega
      simp [List.getD, hi, Array.getD_eq_getD_getElem?, this]
      rfl
    | some v =>
      obtain ⟨v', hv', hs⟩ := subL_get ht i v hi
      have : a.tmps[i]? = some v' := by simpa using hv'
      simp [List.getD, hi, Array.getD_eq_getD_getElem?, this, hs]
  | const v => exact sub_clo R v hx
  | global g => simp [okX] at hx
  | func f => rfl

def okOps (o : Oper) : Bool := o.op.operands.toList.all okX

theorem fits_of {R : Emb} {t : Frm} {a : Act} (ht : subL R t = some a.tmps.toList) {o : Oper} (ho : okOps o = true) : Fits R (evalO t) a.eval o.op.operands.toList := fun x hx =>
  evalO_fits ht (List.all_eq_true.1 ho x hx)

def one (x : Option EOut) : Option (List EOut) := x.map fun y => [y]
def oneV (h : AHeap) (x : Option Value) : Option (List EOut) := x.map fun v => [(some v, h)]
def oneH (x : Option AHeap) : Option (List EOut) := x.map fun h => [(none, h)]

/-- The operations on memory. -/
def effOp (P : Program) (h : AHeap) (ρ : Operand → Value) (o : Op) : Option (List EOut) :=
  match o with
  | .load t a => oneV h (eLoad P h t (ρ a))
  | .store t a x => oneH (eStore P h t (ρ a) (ρ x))
  | .alloc e => one (eAlloc P h e)
  | .box e x => some [addRow h e (ρ x).cells.toList]
  | .makeMap _ none => some [eMakeMap h]
  | .makeSlice t l c => one (eMakeSlice P h t (ρ l) (ρ c))
  | .buildSlice t n parts => one (eBuildSlice P h ρ t n parts)
  | .call ⟨.builtin .append, ⟨[s, x]⟩, ats⟩ => match eAppend P h ats (ρ s) (ρ x) with
    | some out => some [out]
    | none => one (eAppendZeros P h ats (ρ s) (ρ x))
  | .call ⟨.builtin .copy, ⟨[d, s]⟩, ats⟩ => one (eCopyStr P h ats (ρ d) (ρ s))
  | .lookup t x k ok => oneV h (eLookup P h t (ρ x) (ρ k) ok)
  | .mapUpdate t m k v => oneH (eMapUpdate P h t (ρ m) (ρ k) (ρ v))
  | .range t x => one (eRange P h t (ρ x))
  | .next it s => if s then one (eNextStr h (ρ it)) else eNextMap h (ρ it)
  | .entry it => oneV h (eEntry h (ρ it))
  | .convert s d x => oneV h (eBytesStr P h s d (ρ x))
  | _ => none

theorem effOp_sound {P : Program} {h : AHeap} {ρ : Operand → Value} {o : Oper} {outs : List EOut} (he : effOp P h ρ o.op = some outs) : Eff P o ρ h outs := by
  obtain ⟨dst, op, ty, pos, after, guard⟩ := o
  have o1 : ∀ {x : Option EOut}, one x = some outs → ∃ y, x = some y ∧ outs = [y] := fun {x} hx => by
    cases x with
    | none => cases hx
    | some y => exact ⟨y, rfl, (Option.some.inj hx).symm⟩
  have o2 : ∀ {x : Option Value}, oneV h x = some outs → ∃ y, x = some y ∧ outs = [(some y, h)] := fun {x} hx => by
    cases x with
    | none => cases hx
    | some y => exact ⟨y, rfl, (Option.some.inj hx).symm⟩
  have o3 : ∀ {x : Option AHeap}, oneH x = some outs → ∃ y, x = some y ∧ outs = [(none, y)] := fun {x} hx => by
    cases x with
    | none => cases hx
    | some y => exact ⟨y, rfl, (Option.some.inj hx).symm⟩
  unfold effOp at he
  split at he
  rotate_right
  · cases he
  all_goals (rename_i heq; simp only at heq; subst heq)
  · obtain ⟨y, hy, rfl⟩ := o2 he; exact eff_load hy
  · obtain ⟨y, hy, rfl⟩ := o3 he; exact eff_store hy
  · obtain ⟨y, hy, rfl⟩ := o1 he; exact eff_alloc hy
  · cases he; exact eff_box
  · cases he; exact eff_makeMap
  · obtain ⟨y, hy, rfl⟩ := o1 he; exact eff_makeSlice hy
  · obtain ⟨y, hy, rfl⟩ := o1 he; exact eff_buildSlice hy
  · split at he
    · rename_i out ho; cases he; exact eff_append ho
    · obtain ⟨y, hy, rfl⟩ := o1 he; exact eff_appendZeros hy
  · obtain ⟨y, hy, rfl⟩ := o1 he; exact eff_copyStr hy
  · obtain ⟨y, hy, rfl⟩ := o2 he; exact eff_lookup hy
  · obtain ⟨y, hy, rfl⟩ := o3 he; exact eff_mapUpdate hy
  · obtain ⟨y, hy, rfl⟩ := o1 he; exact eff_range hy
  · rename_i it s
    cases s with
    | true => obtain ⟨y, hy, rfl⟩ := o1 he; exact eff_nextStr hy
    | false => exact eff_nextMap he
  · obtain ⟨y, hy, rfl⟩ := o2 he; exact eff_entry hy
  · obtain ⟨y, hy, rfl⟩ := o2 he; exact eff_bytesStr hy

/-! ### Whom a call means -/
inductive Tgt where
  | fn (f : FuncId) (args : List Value)
  | yield (l : Nat) (args : List Value)

/-- The method of a pointer type. -/
def methodOf (P : Program) (t : TypeId) (name : String) : Option FuncId :=
  match P.info? t, P.underlying t with
  | some i, some (.pointer _) => match i.methods.find? (·.name == name) with
    | some m => match m.func, m.path with
      | some (f, true), ⟨[]⟩ => some f
      | _, _ => none
    | none => none
  | _, _ => none

theorem run_method {P : Program} {t : TypeId} {name : String} {f : FuncId} (h : methodOf P t name = some f) (n : Nat) (v : Value) (w : World) : (method (n + 1) t v name).run P w = .ok (f, v) w := by
  unfold methodOf at h
  split at h
  · rename_i i e hi hu
    split at h
    · rename_i m hm
      split at h
      · rename_i g hf hp
        simp only [Option.some.injEq] at h
        subst h
        have hinf : (typeInfo t).run P w = .ok i w := qv_run (by rw [qv_typeInfo]; exact hi) w
        rw [method]
        simp only [Sem.run_bind, hinf, Result.andThen_ok, hm, hp, follow, Sem.run_pure, hf, receiverAt, run_underlying hu, Place.get]
      · cases h
    · cases h
  · cases h

def tgt (P : Program) (ρ : Operand → Value) (c : Call) : Option Tgt :=
  match c with
  | ⟨.value f, args, _⟩ => match ρ f with
    | .func (.func g) a b => some (.fn g (a.toList ++ (args.toList.map ρ ++ b.toList)))
    | .func (.yield l) ⟨[]⟩ ⟨[]⟩ => some (.yield l (args.toList.map ρ))
    | _ => none
  | ⟨.invoke recv name, args, _⟩ => match ρ recv with
    | .iface t v => (methodOf P t name).map fun f => .fn f (v :: args.toList.map ρ)
    | _ => none
  | _ => none

theorem run_tgt_fn {P : Program} {ρ : Operand → Value} {c : Call} {f : FuncId} {args : List Value} {dst : Option Tmp} {ty : TypeId} {pos : String} {after : Array Edge} {guard : Option (Nat × Bool)}
    (ht : tgt P ρ c = some (.fn f args)) {R : Emb} {ρ' : Operand → Value} (hf : Fits R ρ ρ' (Op.call c).operands.toList) :
    ∃ args', subL R args = some args' ∧ ∀ w, (execOp ρ' ⟨dst, .call c, ty, pos, after, guard⟩).run P w = (callFunc f ⟨args'⟩).run P w := by
  unfold tgt at ht
  split at ht
  · rename_i fo as ats
    have hfo := hf fo (by simp [Op.operands, Call.operands])
    have has := subL_map (R := R) (ρ := ρ) (ρ' := ρ') (l := as.toList) (fun x hx => hf x (by simp [Op.operands, Call.operands]; exact .inr (by simpa using hx)))
    split at ht
    · rename_i g a b hv
      simp only [Option.some.injEq, Tgt.fn.injEq] at ht
      obtain ⟨rfl, rfl⟩ := ht
      rw [hv] at hfo
      simp only [sub, subFn, Option.bind_some, Option.map_eq_some_iff, Option.bind_eq_some_iff] at hfo
      obtain ⟨a', ha, b', hb, hfo⟩ := hfo
      refine ⟨a'.toList ++ (as.toList.map ρ' ++ b'.toList), subL_append (subA_toList ha) (subL_append has (subA_toList hb)), fun w => ?_⟩
      simp only [execOp, resolve, Sem.run_bind, ← hfo, Deferred.ofValue, Sem.run_pure, Result.andThen_ok, invoke]
      congr 1
      congr 1
      apply Array.ext'
      simp
    · cases ht
    · cases ht
  · rename_i recv name as ats
    have hfo := hf recv (by simp [Op.operands, Call.operands])
    have has := subL_map (R := R) (ρ := ρ) (ρ' := ρ') (l := as.toList) (fun x hx => hf x (by simp [Op.operands, Call.operands]; exact .inr (by simpa using hx)))
    split at ht
    · rename_i t v hv
      simp only [Option.map_eq_some_iff] at ht
      obtain ⟨g, hg, ht⟩ := ht
      simp only [Tgt.fn.injEq] at ht
      obtain ⟨rfl, rfl⟩ := ht
      rw [hv] at hfo
      simp only [sub, Option.map_eq_some_iff] at hfo
      obtain ⟨v', hv', hfo⟩ := hfo
      refine ⟨v' :: as.toList.map ρ', subL_cons hv' has, fun w => ?_⟩
      have hm : ∀ u, (method (P.types.size + Made.depth) t u name).run P w = .ok (g, u) w := fun u => by
        have : P.types.size + Made.depth = (P.types.size + Made.depth - 1) + 1 := by
          have : 0 < Made.depth := by decide
          omega
        rw [this]
        exact run_method hg _ u w
      simp only [execOp, resolve, Sem.run_bind, Sem.run_pure, Result.andThen_ok, invoke, ← hfo]
      have h0 : (#[Value.iface t v'] ++ as.map ρ')[0]? = some (.iface t v') := by rw [Array.getElem?_append_left (Nat.zero_lt_one)]; rfl
      rw [h0]
      simp only [callMethod, Sem.run_bind, run_program, Result.andThen_ok, hm]
      congr 1
      congr 1
      apply Array.ext'
      simp
      exact List.take_of_length_le (by simp)
    · cases ht
  · cases ht

theorem run_tgt_yield {P : Program} {ρ : Operand → Value} {c : Call} {l : Nat} {args : List Value} {dst : Option Tmp} {ty : TypeId} {pos : String} {after : Array Edge} {guard : Option (Nat × Bool)}
    (ht : tgt P ρ c = some (.yield l args)) {R : Emb} {ρ' : Operand → Value} (hf : Fits R ρ ρ' (Op.call c).operands.toList) :
    ∃ e args', R l = some e ∧ subL R args = some args' ∧ ∀ w, (execOp ρ' ⟨dst, .call c, ty, pos, after, guard⟩).run P w = (Instr.yield e.1 ⟨args'⟩).run P w := by
  unfold tgt at ht
  split at ht
  · rename_i fo as ats
    have hfo := hf fo (by simp [Op.operands, Call.operands])
    have has := subL_map (R := R) (ρ := ρ) (ρ' := ρ') (l := as.toList) (fun x hx => hf x (by simp [Op.operands, Call.operands]; exact .inr (by simpa using hx)))
    split at ht
    · cases ht
    · rename_i k hv
      simp only [Option.some.injEq, Tgt.yield.injEq] at ht
      obtain ⟨rfl, rfl⟩ := ht
      rw [hv] at hfo
      simp only [sub, subFn, subA, subL, Option.map_some, Option.bind_some, Option.map_eq_some_iff, Option.bind_eq_some_iff] at hfo
      obtain ⟨fn', ⟨e, he, hfn⟩, hfo⟩ := hfo
      subst hfn
      refine ⟨e, as.toList.map ρ', he, has, fun w => ?_⟩
      have hfo' : ρ' fo = .func (.yield e.1) #[] #[] := (Option.some.inj hfo).symm
      simp only [execOp, resolve, Sem.run_bind, hfo', Deferred.ofValue, Sem.run_pure, Result.andThen_ok, invoke]
      congr 1
      congr 1
      apply Array.ext'
      simp
    · cases ht
  · split at ht
    · simp only [Option.map_eq_some_iff] at ht
      obtain ⟨g, _, ht⟩ := ht
      cases ht
    · cases ht
  · cases ht
end Ev
end Go.Proofs.YthckkbhjocjmkaaGreatDoor
