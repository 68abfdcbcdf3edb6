/- The abstract run of a region once more, in a form that the kernel goes through with few steps. -/
import Derived.Test.YthckkbhjocjmkaaGreatDoorEvG
namespace Go.Proofs.YthckkbhjocjmkaaGreatDoor
namespace Ev

/-! ### Temporaries -/
noncomputable def getN (t : List Value) (i : Nat) : Value :=
  (Nat.rec (motive := fun _ => List Value → Value) (fun l => List.rec (motive := fun _ => Value) undef (fun a _ _ => a) l) (fun _ ih l => List.rec (motive := fun _ => Value) undef (fun _ as _ => ih as) l) i) t
theorem getN_eq : ∀ (i : Nat) (t : List Value), getN t i = t.getD i undef
  | 0, [] => rfl
  | 0, _ :: _ => rfl
  | _ + 1, [] => rfl
  | i + 1, _ :: as => getN_eq i as
noncomputable def setN (v : Value) (t : List Value) (i : Nat) : List Value :=
  (Nat.rec (motive := fun _ => List Value → List Value) (fun l => List.rec (motive := fun _ => List Value) [] (fun _ as _ => v :: as) l) (fun _ ih l => List.rec (motive := fun _ => List Value) [] (fun a as _ => a :: ih as) l) i) t
theorem setN_eq (v : Value) : ∀ (i : Nat) (t : List Value), setN v t i = t.set i v
  | 0, [] => rfl
  | 0, _ :: _ => rfl
  | i + 1, [] => rfl
  | i + 1, a :: as => by
    have := setN_eq v i as
    show a :: setN v as i = _
    rw [this]; rfl
noncomputable def putN (t : Frm) (dst : Option Tmp) (v : Value) : Frm := Option.rec (motive := fun _ => Frm) t (fun d => setN v t d) dst
theorem putN_eq (t : Frm) (dst : Option Tmp) (v : Value) : putN t dst v = putL t dst v := by
  cases dst with
  | none => rfl
  | some d => exact setN_eq v d t

noncomputable def lenIs (l : List Value) (n : Nat) : Bool :=
  (List.rec (motive := fun _ => Nat → Bool) (fun n => Nat.beq n 0) (fun _ _ ih n => Nat.rec (motive := fun _ => Bool) false (fun k _ => ih k) n) l) n
theorem lenIs_eq : ∀ {l : List Value} {n : Nat}, lenIs l n = true → l.length = n
  | [], n, h => (Nat.eq_of_beq_eq_true h).symm
  | a :: l, 0, h => by cases h
  | a :: l, n + 1, h => by rw [List.length_cons, lenIs_eq (l := l) (n := n) h]

/-! ### Operations -/
inductive SR where
  | one (v : Value) (h : AHeap)
  | many (l : List VOut)
  | fail
def SR.list : SR → Option (List VOut)
  | .one v h => some [(v, h)]
  | .many l => some l
  | .fail => none
def ofList : Option (List VOut) → SR
  | some l => .many l
  | none => .fail
theorem ofList_list (o : Option (List VOut)) : (ofList o).list = o := by cases o <;> rfl
def ofVal (h : AHeap) : Option Value → SR
  | some v => .one v h
  | none => .fail
def ofHeap : Option AHeap → SR
  | some h => .one undef h
  | none => .fail

noncomputable def fval (t : Frm) (x : Operand) (k : Value → SR) : SR :=
  Operand.rec (motive := fun _ => SR) (fun i => k (getN t i)) (fun v => cond (clo v) (k v) .fail) (fun _ => .fail) (fun f => k (.func (.func f) #[] #[])) x
theorem fval_spec {t : Frm} {x : Operand} {k : Value → SR} {outs : List VOut} (h : (fval t x k).list = some outs) : okX x = true ∧ (k (evalO t x)).list = some outs := by
  cases x with
  | tmp i => refine ⟨rfl, ?_⟩; show (k (t.getD i undef)).list = _; rw [← getN_eq]; exact h
  | const v =>
    simp only [fval] at h
    cases hc : clo v with
    | false => rw [hc] at h; cases h
    | true => rw [hc] at h; exact ⟨hc, h⟩
  | global g => cases h
  | func f => exact ⟨rfl, h⟩

def intLt : Int → Int → Bool
  | .ofNat m, .ofNat n => Nat.blt m n
  | .negSucc m, .negSucc n => Nat.blt n m
  | .negSucc _, .ofNat _ => true
  | .ofNat _, .negSucc _ => false
def intEq : Int → Int → Bool
  | .ofNat m, .ofNat n => Nat.beq m n
  | .negSucc m, .negSucc n => Nat.beq m n
  | _, _ => false
theorem blt_iff {m n : Nat} : Nat.blt m n = true ↔ m < n := by simp [Nat.blt_eq]
theorem intLt_eq : ∀ (a b : Int), intLt a b = decide (a < b)
  | .ofNat m, .ofNat n => by
    show Nat.blt m n = decide ((m : Int) < (n : Int))
    by_cases h : m < n
    · rw [blt_iff.2 h, decide_eq_true (by omega)]
    · rw [Bool.eq_false_iff.2 (fun e => h (blt_iff.1 e)), decide_eq_false (by omega)]
  | .negSucc m, .negSucc n => by
    show Nat.blt n m = _
    by_cases h : n < m
    · rw [blt_iff.2 h, decide_eq_true (by omega)]
    · rw [Bool.eq_false_iff.2 (fun e => h (blt_iff.1 e)), decide_eq_false (by omega)]
  | .negSucc m, .ofNat n => by
    show true = decide (Int.negSucc m < (n : Int))
    rw [decide_eq_true (by omega)]
  | .ofNat m, .negSucc n => by
    show false = decide ((m : Int) < Int.negSucc n)
    rw [decide_eq_false (by omega)]
theorem intEq_eq : ∀ (a b : Int), intEq a b = decide (a = b)
  | .ofNat m, .ofNat n => by
    show Nat.beq m n = decide ((m : Int) = (n : Int))
    by_cases h : m = n
    · subst h; rw [Nat.beq_refl, decide_eq_true rfl]
    · rw [Bool.eq_false_iff.2 (fun e => h (Nat.eq_of_beq_eq_true e)), decide_eq_false (by omega)]
  | .negSucc m, .negSucc n => by
    show Nat.beq m n = _
    by_cases h : m = n
    · subst h; rw [Nat.beq_refl, decide_eq_true rfl]
    · rw [Bool.eq_false_iff.2 (fun e => h (Nat.eq_of_beq_eq_true e)), decide_eq_false (by omega)]
  | .negSucc m, .ofNat n => by
    show false = decide (Int.negSucc m = (n : Int))
    rw [decide_eq_false (by omega)]
  | .ofNat m, .negSucc n => by
    show false = decide ((m : Int) = Int.negSucc n)
    rw [decide_eq_false (by omega)]

def kn : IntKind → Nat
  | .i8 => 1 | .i16 => 2 | .i32 => 3 | .i64 => 4 | .u8 => 5 | .u16 => 6 | .u32 => 7 | .u64 => 8
theorem kn_inj {a b : IntKind} (h : Nat.beq (kn a) (kn b) = true) : a = b := by
  have := Nat.eq_of_beq_eq_true h
  cases a <;> cases b <;> first | rfl | (exact absurd this (by decide))

def fints (op : BinOp) (k : IntKind) (a b : Int) : Option Value :=
  match op with
  | .eql => some (.bool (intEq a b))
  | .neq => some (.bool (!(intEq a b)))
  | .lss => some (.bool (intLt a b))
  | .leq => some (.bool (!(intLt b a)))
  | .gtr => some (.bool (intLt b a))
  | .geq => some (.bool (!(intLt a b)))
  | .add => some (.int k (k.wrap (a + b)))
  | .sub => some (.int k (k.wrap (a - b)))
  | _ => none

theorem fints_eq {P : Program} {op : BinOp} {k : IntKind} {a b : Int} {v : Value} (h : fints op k a b = some v) (ty : TypeId) (x y : Operand) :
    qv P (do eqGuard op ty x y (.int k a) (.int k b); binOp op ty (.int k a) (.int k b)) = some v ∧ clo v = true := by
  have hg : qv P (eqGuard op ty x y (.int k a) (.int k b)) = some () := by
    simp only [eqGuard]
    cases op <;> rfl
  rw [qv_bind, hg, Option.bind_some]
  have not_lt : ∀ a b : Int, (!(intLt b a)) = decide (a ≤ b) := fun a b => by
    rw [intLt_eq]
    by_cases h : a ≤ b
    · rw [decide_eq_true h, decide_eq_false (by omega)]; rfl
    · rw [decide_eq_false h, decide_eq_true (by omega)]; rfl
  cases op <;> simp only [fints, Option.some.injEq, reduceCtorEq] at h <;> subst h
  · exact ⟨by simp [binOp, Op.intArith, qv_pure], rfl⟩
  · exact ⟨by simp [binOp, Op.intArith, qv_pure], rfl⟩
  · refine ⟨?_, rfl⟩
    rw [intEq_eq]
    simp only [binOp, Op.intCmp, ne_eq, not_true_eq_false, if_false, qv_pure]
    rfl
  · refine ⟨?_, rfl⟩
    rw [intEq_eq]
    simp only [binOp, Op.intCmp, ne_eq, not_true_eq_false, if_false, qv_pure]
    rfl
  · refine ⟨?_, rfl⟩
    rw [intLt_eq]
    simp only [binOp, Op.intCmp, ne_eq, not_true_eq_false, if_false, qv_pure]
  · refine ⟨?_, rfl⟩
    rw [not_lt]
    simp only [binOp, Op.intCmp, ne_eq, not_true_eq_false, if_false, qv_pure]
  · refine ⟨?_, rfl⟩
    rw [intLt_eq]
    simp only [binOp, Op.intCmp, ne_eq, not_true_eq_false, if_false, qv_pure]
  · refine ⟨?_, rfl⟩
    rw [not_lt]
    simp only [binOp, Op.intCmp, ne_eq, not_true_eq_false, if_false, qv_pure]

def fieldOff (P : Program) (s : TypeId) (f : Nat) : Option Nat :=
  match P.underlying s with
  | some (.struct fields) => (match fields[f]? with
    | some fd => (match (P.info? fd.type).map (·.size) with
      | some (_ + 1) => some fd.offset
      | _ => none)
    | none => none)
  | _ => none

section
variable {P : Program} {ρ : Operand → Value} {dst : Option Tmp} {ty : TypeId} {pos : String} {after : Array Edge} {guard : Option (Nat × Bool)} {v : Value}

theorem pv_field {s : TypeId} {x : Operand} {f b off d : Nat} (hx : ρ x = .pointer (some ⟨b, off, none⟩)) (hd : fieldOff P s f = some d) :
    pv P ρ ⟨dst, .fieldAddr s x f, ty, pos, after, guard⟩ = some (.pointer (some ⟨b, off + d, none⟩)) := by
  apply pv_of
  simp only [execOp, Instr.fieldAt, hx, qv_bind, qv_underlying]
  unfold fieldOff at hd
  split at hd
  · rename_i fields hu
    rw [hu]
    simp only [Option.bind_some]
    split at hd
    · rename_i fd hfd
      rw [hfd]
      simp only [Instr.sureAddr, qv_pure, Option.bind_some, qv_bind, fieldPlace, qv_sizeOf]
      split at hd
      · rename_i n hsz
        simp only [Option.some.injEq] at hd
        subst hd
        rw [hsz]
        simp [qv_pure, addr_add]
      · cases hd
    · cases hd
  · cases hd

theorem pv_extract {t : Operand} {i : Nat} {l : List Value} {u : Value} (ht : ρ t = .tuple ⟨l⟩) (hu : l[i]? = some u) : pv P ρ ⟨dst, .extract t i, ty, pos, after, guard⟩ = some u := by
  apply pv_of
  simp only [execOp, qv_bind, Instr.extract, ht, List.getElem?_toArray, hu, qv_pure, Option.bind_some]
end

def ffield (off : Option Nat) (v : Value) (h : AHeap) : SR :=
  match off, v with
  | some d, .pointer (some ⟨b, o, none⟩) => .one (.pointer (some ⟨b, o + d, none⟩)) h
  | _, _ => .fail
def fnil (v : Value) (h : AHeap) : SR :=
  match v with
  | .pointer (some ⟨_, _, none⟩) => .one v h
  | _ => .fail
def fext (v : Value) (i : Nat) (h : AHeap) : SR :=
  match v with
  | .tuple ⟨l⟩ => ofVal h l[i]?
  | _ => .fail
def fpick (c a b : Value) (h : AHeap) : SR :=
  match c with
  | .bool t => .one (cond t a b) h
  | _ => .fail
def fbin (op : BinOp) (a b : Value) (h : AHeap) (slow : SR) : SR :=
  match a, b with
  | .int k x, .int k' y => cond (Nat.beq (kn k) (kn k')) (match fints op k x y with
    | some v => .one v h
    | none => slow) slow
  | _, _ => slow

/-- What a load does, told from its type alone. -/
def ldKind (P : Program) (t : TypeId) : Option (Option Nat) :=
  match qv P (isAgg t), (P.info? t).map (·.size) with
  | some true, some n => some (some n)
  | some false, _ => some none
  | _, _ => none
noncomputable def fload (h : AHeap) (kind : Option (Option Nat)) (v : Value) (slow : Option Value) : SR :=
  match kind, v with
  | some (some n), .pointer (some ⟨i, off, none⟩) => match h.get i with
    | some (.row c _ _) => cond (Nat.beq off 0 && lenIs c n) (.one (.agg ⟨c⟩) h) (ofVal h slow)
    | _ => .fail
  | some none, .pointer (some ⟨i, off, none⟩) => match h.get i with
    | some (.row c _ _) => match c[off]? with
      | some u => .one u h
      | none => .fail
    | _ => .fail
  | _, _ => .fail

theorem fload_spec {P : Program} {h : AHeap} {t : TypeId} {v : Value} {outs : List VOut} (hf : (fload h (ldKind P t) v (eLoad P h t v)).list = some outs) : ∃ u, eLoad P h t v = some u ∧ outs = [(u, h)] := by
  have slow : ∀ {o : Option Value}, (ofVal h o).list = some outs → ∃ u, o = some u ∧ outs = [(u, h)] := fun {o} ho => by
    cases o with
    | none => cases ho
    | some u => exact ⟨u, rfl, (Option.some.inj ho).symm⟩
  unfold fload at hf
  split at hf
  · rename_i n i off hk
    unfold ldKind at hk
    split at hk
    · rename_i m hq hn
      simp only [Option.some.injEq] at hk
      subst hk
      split at hf
      · rename_i c e s hg
        cases hc : (Nat.beq off 0 && lenIs c m) with
        | false => rw [hc] at hf; exact slow hf
        | true =>
          rw [hc] at hf
          simp only [cond_true, SR.list, Option.some.injEq] at hf
          simp only [Bool.and_eq_true] at hc
          have h0 := Nat.eq_of_beq_eq_true hc.1
          have hl := lenIs_eq hc.2
          subst h0
          refine ⟨.agg ⟨c⟩, ?_, hf.symm⟩
          simp only [eLoad, hq, hn, aload, hg, List.drop_zero]
          rw [List.take_of_length_le (by omega), hl, Nat.beq_refl]
          rfl
      · cases hf
    · cases hk
    · cases hk
  · rename_i i off hk
    unfold ldKind at hk
    split at hk
    · cases hk
    · rename_i hq
      split at hf
      · rename_i c e s hg
        split at hf
        · rename_i u hu
          simp only [SR.list, Option.some.injEq] at hf
          refine ⟨u, ?_, hf.symm⟩
          have hdrop : (c.drop off).take 1 = [u] := by
            have hlt := (List.getElem?_eq_some_iff.1 hu)
            obtain ⟨hlt, hu⟩ := hlt
            rw [List.drop_eq_getElem_cons hlt, hu]
            rfl
          simp only [eLoad, hq, aload, hg, hdrop]
          rfl
        · cases hf
      · cases hf
    · cases hk
  · cases hf

/-- What is stored takes the whole row. -/
noncomputable def fstore (h : AHeap) (n : Option Nat) (a v : Value) (slow : Option AHeap) : SR :=
  match a, n, v with
  | .pointer (some ⟨i, off, none⟩), some n, .agg ⟨l⟩ => match h.get i with
    | some (.row c e s) => cond (Nat.beq off 0 && (lenIs c n && (lenIs l n && l.all oneB))) (.one undef (h.put i (some (.row l e s)))) (ofHeap slow)
    | _ => .fail
  | _, _, _ => ofHeap slow
theorem fstore_spec {P : Program} {h : AHeap} {t : TypeId} {a v : Value} {outs : List VOut} (hf : (fstore h ((P.info? t).map (·.size)) a v (eStore P h t a v)).list = some outs) : ∃ h', eStore P h t a v = some h' ∧ outs = [(undef, h')] := by
  have slow : ∀ {o : Option AHeap}, (ofHeap o).list = some outs → ∃ u, o = some u ∧ outs = [(undef, u)] := fun {o} ho => by
    cases o with
    | none => cases ho
    | some u => exact ⟨u, rfl, (Option.some.inj ho).symm⟩
  unfold fstore at hf
  split at hf
  · rename_i i off n l hn
    split at hf
    · rename_i c e s hg
      cases hc : (Nat.beq off 0 && (lenIs c n && (lenIs l n && l.all oneB))) with
      | false => rw [hc] at hf; exact slow hf
      | true =>
        rw [hc] at hf
        simp only [cond_true, SR.list, Option.some.injEq] at hf
        simp only [Bool.and_eq_true] at hc
        obtain ⟨h0, h1, h2, h3⟩ := hc
        have h0 := Nat.eq_of_beq_eq_true h0
        have h1 := lenIs_eq h1
        have h2 := lenIs_eq h2
        subst h0
        refine ⟨_, ?_, hf.symm⟩
        have hle : Nat.ble (0 + l.length) c.length = true := by rw [Nat.ble_eq]; omega
        have hd : c.drop (0 + l.length) = [] := List.drop_eq_nil_of_le (by omega)
        simp only [eStore, hn, Value.cells, List.size_toArray, h2, Nat.beq_refl, cond_true, astore, hg, h3, List.take_zero, List.nil_append]
        rw [← h2, hd, List.append_nil, hle]
        rfl
    · cases hf
  · exact slow hf

/-! ### A slice of one part -/
theorem lay_all : ∀ (l : List Value) (k : Nat) (cs : List Value), k + l.length ≤ cs.length →
    ((l.zipIdx k).foldl (fun (cs : List Value) (x : Value × Nat) => cs.set x.2 x.1) cs) = cs.take k ++ (l ++ cs.drop (k + l.length))
  | [], k, cs, _ => by simp
  | x :: l, k, cs, h => by
    simp only [List.length_cons] at h
    rw [List.zipIdx_cons, List.foldl_cons, lay_all l (k + 1) (cs.set k x) (by simp; omega)]
    have e1 : (cs.set k x).take (k + 1) = cs.take k ++ [x] := by
      rw [List.take_set]
      have hk : k < cs.length := by omega
      rw [List.take_succ_eq_append_getElem hk, List.set_append_right _ _ (by rw [List.length_take]; omega)]
      have hm : min k cs.length = k := by omega
      simp [hm]
    have e2 : (cs.set k x).drop (k + 1 + l.length) = cs.drop (k + (x :: l).length) := by
      rw [List.drop_set_of_lt (by omega)]
      congr 1
      simp only [List.length_cons]; omega
    rw [e1, e2]
    simp

theorem fill_one {place : Nat → Option (Nat × Nat)} {zs : Array Value} {v : Value} {l : List Value} (hp : place 0 = some (0, l.length)) (hz : zs.size = l.length) (hv : v.cells = ⟨l⟩) : Instr.fill place zs [(0, v)] = some ⟨l⟩ := by
  have hc : ¬ (v.cells.size ≠ l.length ∨ 0 + v.cells.size > zs.size) := by rw [hv]; simp; omega
  simp only [Instr.fill, hp]
  rw [if_neg (by simpa using hc), hv]
  congr 1
  apply Array.ext'
  have key : ∀ (xs : List (Value × Nat)) (cs : Array Value), (xs.foldl (fun (cs : Array Value) (x : Value × Nat) => cs.setIfInBounds (0 + x.2) x.1) cs).toList = xs.foldl (fun (cs : List Value) (x : Value × Nat) => cs.set x.2 x.1) cs.toList := by
    intro xs
    induction xs with
    | nil => intro cs; rfl
    | cons x xs ih => intro cs; rw [List.foldl_cons, List.foldl_cons, ih, Array.toList_setIfInBounds, Nat.zero_add]
  have hl := lay_all l 0 zs.toList (by simp [hz])
  have h0 : zs.toList.drop (0 + l.length) = [] := List.drop_eq_nil_of_le (by simp [hz])
  rw [h0] at hl
  simp only [List.take_zero, List.nil_append, List.append_nil] at hl
  rw [← Array.foldl_toList]
  simp only [Array.toList_zipIdx]
  rw [key]
  exact hl

/-- The size of the elements of a slice type whose zero value is closed and not too large. -/
def elemOk (P : Program) (t : TypeId) : Option (TypeId × Nat) :=
  match P.underlying t with
  | some (.slice elem) => match P.info? elem with
    | some i => match i.zero with
      | some z => cond (clo z && Nat.ble (1 * i.size) 16777216) (some (elem, i.size)) none
      | none => none
    | none => none
  | _ => none
noncomputable def fbuild1 (h : AHeap) (k : Option (TypeId × Nat)) (v : Value) (slow : SR) : SR :=
  match k, v with
  | some x, .agg ⟨l⟩ => cond (lenIs l x.2) (.one (.slice (some ⟨h.next, 0, none⟩) 1 1) (h.add (.row l x.1 0))) slow
  | _, _ => slow
theorem fbuild1_spec {P : Program} {h : AHeap} {ρ : Operand → Value} {t : TypeId} {x : Operand} {slow : SR} {outs : List VOut} (hf : (fbuild1 h (elemOk P t) (ρ x) slow).list = some outs) :
    slow.list = some outs ∨ ∃ u h', eBuildSlice P h ρ t 1 #[(0, x)] = some (some u, h') ∧ outs = [(u, h')] := by
  unfold fbuild1 at hf
  split at hf
  · rename_i k v y l hk hv
    cases hc : lenIs l y.2 with
    | false => rw [hc] at hf; exact .inl hf
    | true =>
      rw [hc] at hf
      simp only [cond_true, SR.list, Option.some.injEq] at hf
      have hl := lenIs_eq hc
      unfold elemOk at hk
      split at hk
      · rename_i elem hu
        split at hk
        · rename_i i hi
          split at hk
          · rename_i z hz
            cases hcz : (clo z && Nat.ble (1 * i.size) 16777216) with
            | false => rw [hcz] at hk; cases hk
            | true =>
              rw [hcz] at hk
              simp only [cond_true, Option.some.injEq] at hk
              subst hk
              simp only at hl hf
              refine .inr ⟨_, _, ?_, hf.symm⟩
              simp only [Bool.and_eq_true] at hcz
              have hm : Nat.blt 1 mark = true := rfl
              have hfill : Instr.fill (fun k => some (k * i.size, i.size)) (zRow z.cells (1 * i.size)) ((#[(0, x)] : Array (Nat × Operand)).map (fun (k, x) => (k, ρ x))).toList = some ⟨l⟩ := by
                have : ((#[(0, x)] : Array (Nat × Operand)).map (fun (k, x) => (k, ρ x))).toList = [(0, ρ x)] := by simp
                rw [this]
                exact fill_one (by simp [hl]) (by simp [zRow, hl]) (by rw [hv]; rfl)
              simp only [eBuildSlice, hu, hi, hz, hcz.1, hcz.2, hm, Bool.and_self, cond_true, hfill]
          · cases hk
        · cases hk
      · cases hk
  · exact .inl hf

noncomputable def fstep (E : Env) (callF roundF : CallF) (t : Frm) (h : AHeap) (o : Oper) : SR :=
  match o.op with
  | .move x => fval t x fun v => .one v h
  | .assign x => fval t x fun v => .one v h
  | .pick c a b => fval t c fun vc => fval t a fun va => fval t b fun vb => fpick vc va vb h
  | .binOp op _ x y _ => fval t x fun a => fval t y fun b => fbin op a b h (ofList (stepOp E callF roundF t h o))
  | .load ty x => fval t x fun v => fload h (ldKind E.P ty) v (eLoad E.P h ty v)
  | .store ty x y => fval t x fun a => fval t y fun b => fstore h ((E.P.info? ty).map (·.size)) a b (eStore E.P h ty a b)
  | .fieldAddr s x f => fval t x fun v => ffield (fieldOff E.P s f) v h
  | .nilCheck x => fval t x fun v => fnil v h
  | .extract x i => fval t x fun v => fext v i h
  | .buildSlice ty 1 ⟨[(0, x)]⟩ => fval t x fun v => fbuild1 h (elemOk E.P ty) v (ofList (stepOp E callF roundF t h o))
  | _ => ofList (stepOp E callF roundF t h o)

theorem fstep_spec {E : Env} {callF roundF : CallF} {t : Frm} {h : AHeap} {o : Oper} {outs : List VOut} (hs : (fstep E callF roundF t h o).list = some outs) : stepOp E callF roundF t h o = some outs := by
  obtain ⟨dst, op, ty, pos, after, guard⟩ := o
  have ok1 : ∀ {x : Operand}, okX x = true → ([x].all okX) = true := fun {x} hx => by simp [hx]
  unfold fstep at hs
  split at hs
  · rename_i x hop
    simp only at hop
    subst hop
    obtain ⟨h1, h2⟩ := fval_spec hs
    have e : okOps ⟨dst, .move x, ty, pos, after, guard⟩ = true := by simp [okOps, Op.operands, h1]
    simp only [stepOp, e, cond_true, pop]
    exact h2
  · rename_i x hop
    simp only at hop
    subst hop
    obtain ⟨h1, h2⟩ := fval_spec hs
    have e : okOps ⟨dst, .assign x, ty, pos, after, guard⟩ = true := by simp [okOps, Op.operands, h1]
    simp only [stepOp, e, cond_true, pop]
    exact h2
  · rename_i c a b hop
    simp only at hop
    subst hop
    obtain ⟨h1, hs⟩ := fval_spec hs
    obtain ⟨h2, hs⟩ := fval_spec hs
    obtain ⟨h3, hs⟩ := fval_spec hs
    have e : okOps ⟨dst, .pick c a b, ty, pos, after, guard⟩ = true := by simp [okOps, Op.operands, h1, h2, h3]
    unfold fpick at hs
    split at hs
    · rename_i b1 hb
      simp only [stepOp, e, cond_true, pop, hb]
      simp only [SR.list] at hs
      rw [← hs]
      cases b1 <;> rfl
    · cases hs
  · rename_i op ty2 x y e2 hop
    simp only at hop
    subst hop
    obtain ⟨h1, hs⟩ := fval_spec hs
    obtain ⟨h2, hs⟩ := fval_spec hs
    unfold fbin at hs
    split at hs
    · rename_i k a k' b ha hb
      cases hk : Nat.beq (kn k) (kn k') with
      | false => rw [hk] at hs; rw [← hs]; exact (ofList_list _).symm
      | true =>
        rw [hk] at hs
        simp only [cond_true] at hs
        have := kn_inj hk
        subst this
        split at hs
        · rename_i v hv
          have e : okOps ⟨dst, .binOp op ty2 x y e2, ty, pos, after, guard⟩ = true := by simp [okOps, Op.operands, h1, h2]
          obtain ⟨q1, q2⟩ := fints_eq (P := E.P) hv ty2 x y
          have hcl : opsClosed (evalO t) ⟨dst, .binOp op ty2 x y e2, ty, pos, after, guard⟩ = true := by
            simp [opsClosed, Op.operands, ha, hb, clo]
          have hpv : pv E.P (evalO t) ⟨dst, .binOp op ty2 x y e2, ty, pos, after, guard⟩ = some v := by
            apply pv_of
            simp only [execOp, ha, hb]
            rw [qv_bind, q1]
            rfl
          simp only [stepOp, e, cond_true, pop, popClosed, hcl, hpv, q2]
          exact hs
        · rw [← hs]; exact (ofList_list _).symm
    · rw [← hs]; exact (ofList_list _).symm
  · rename_i ty2 x hop
    simp only at hop
    subst hop
    obtain ⟨h1, hs⟩ := fval_spec hs
    have e : okOps ⟨dst, .load ty2 x, ty, pos, after, guard⟩ = true := by simp [okOps, Op.operands, h1]
    obtain ⟨u, hu, rfl⟩ := fload_spec hs
    simp only [stepOp, e, cond_true, pop, effOp, hu, oneV, Option.map_some]
    rfl
  · rename_i ty2 x y hop
    simp only at hop
    subst hop
    obtain ⟨h1, hs⟩ := fval_spec hs
    obtain ⟨h2, hs⟩ := fval_spec hs
    have e : okOps ⟨dst, .store ty2 x y, ty, pos, after, guard⟩ = true := by simp [okOps, Op.operands, h1, h2]
    obtain ⟨h', hst, rfl⟩ := fstore_spec hs
    simp only [stepOp, e, cond_true, pop, effOp, hst, oneH, Option.map_some]
    rfl
  · rename_i s x f hop
    simp only at hop
    subst hop
    obtain ⟨h1, hs⟩ := fval_spec hs
    have e : okOps ⟨dst, .fieldAddr s x f, ty, pos, after, guard⟩ = true := by simp [okOps, Op.operands, h1]
    unfold ffield at hs
    split at hs
    · rename_i d b off hd hv
      have hpv := pv_field (dst := dst) (ty := ty) (pos := pos) (after := after) (guard := guard) (ρ := evalO t) hv hd
      simp only [stepOp, e, cond_true, pop, hv, hpv]
      exact hs
    · cases hs
  · rename_i x hop
    simp only at hop
    subst hop
    obtain ⟨h1, hs⟩ := fval_spec hs
    have e : okOps ⟨dst, .nilCheck x, ty, pos, after, guard⟩ = true := by simp [okOps, Op.operands, h1]
    unfold fnil at hs
    split at hs
    · rename_i b off hv
      simp only [stepOp, e, cond_true, pop, hv]
      rw [hv] at hs
      exact hs
    · cases hs
  · rename_i x i hop
    simp only at hop
    subst hop
    obtain ⟨h1, hs⟩ := fval_spec hs
    have e : okOps ⟨dst, .extract x i, ty, pos, after, guard⟩ = true := by simp [okOps, Op.operands, h1]
    unfold fext at hs
    split at hs
    · rename_i l hv
      cases hu : l[i]? with
      | none => rw [hu] at hs; cases hs
      | some u =>
        rw [hu] at hs
        have hpv := pv_extract (P := E.P) (dst := dst) (ty := ty) (pos := pos) (after := after) (guard := guard) hv hu
        simp only [stepOp, e, cond_true, pop, hpv]
        exact hs
    · cases hs
  · rename_i ty2 x hop
    simp only at hop
    subst hop
    obtain ⟨h1, hs⟩ := fval_spec hs
    rcases fbuild1_spec (ρ := evalO t) hs with hs | ⟨u, h', hb, rfl⟩
    · rw [← hs]; exact (ofList_list _).symm
    · have e : okOps ⟨dst, .buildSlice ty2 1 #[(0, x)], ty, pos, after, guard⟩ = true := by simp [okOps, Op.operands, h1]
      simp only [stepOp, e, cond_true, pop, effOp, hb, one, Option.map_some]
      rfl
  · rw [← hs]; exact (ofList_list _).symm

/-! ### A region -/
noncomputable def fwanted (ops : Array Oper) (o : Oper) (t : Frm) : Bool :=
  Option.rec (motive := fun _ => Bool) true (fun _ => Region.wanted o (yieldedL ops t)) o.guard
theorem fwanted_eq (ops : Array Oper) (o : Oper) (t : Frm) : fwanted ops o t = Region.wanted o (yieldedL ops t) := by
  unfold fwanted Region.wanted
  cases o.guard <;> rfl

abbrev RK := Frm → AHeap → Option (List (Frm × AHeap))
noncomputable def evL2 (dst : Option Tmp) (ih : RK) (t : Frm) (r : SR) : Option (List (Frm × AHeap)) :=
  SR.rec (motive := fun _ => Option (List (Frm × AHeap))) (fun v h => ih (putN t dst v) h) (fun l => bindL l fun x => ih (putN t dst x.1) x.2) none r
noncomputable def evL1 (E : Env) (callF roundF : CallF) (ops : Array Oper) (o : Oper) (ih : RK) (t : Frm) (h : AHeap) : Option (List (Frm × AHeap)) :=
  Bool.rec (motive := fun _ => Option (List (Frm × AHeap))) (ih (putN t o.dst undef) h) (evL2 o.dst ih t (fstep E callF roundF t h o)) (fwanted ops o t)
noncomputable def evL (E : Env) (callF roundF : CallF) (ops : Array Oper) (os : List Oper) : RK :=
  List.rec (motive := fun _ => RK) (fun t h => some [(t, h)]) (fun o _ ih t h => evL1 E callF roundF ops o ih t h) os

theorem bindL_mono {α β : Type} {f g : α → Option (List β)} (hfg : ∀ a x, f a = some x → g a = some x) : ∀ {l : List α} {r : List β}, bindL l f = some r → bindL l g = some r
  | [], _, h => h
  | a :: l, r, h => by
    simp only [bindL] at h ⊢
    split at h
    · rename_i x hx
      rw [hfg a x hx]
      cases l with
      | nil => exact h
      | cons b l =>
        simp only [Option.map_eq_some_iff] at h ⊢
        obtain ⟨y, hy, rfl⟩ := h
        exact ⟨y, bindL_mono hfg hy, rfl⟩
    · cases h

inductive SameOps (ops : Array Oper) : List Nat → List Oper → Prop where
  | nil : SameOps ops [] []
  | cons {i o is os} : ops[i]? = some o → SameOps ops is os → SameOps ops (i :: is) (o :: os)

theorem sameOps_range' {ops : Array Oper} : ∀ (l : List Oper) (k : Nat), (∀ (j : Nat) (o : Oper), l[j]? = some o → ops[k + j]? = some o) → SameOps ops (List.range' k l.length) l
  | [], _, _ => .nil
  | o :: l, k, h => by
    simp only [List.length_cons, List.range'_succ]
    refine .cons (h 0 o rfl) (sameOps_range' l (k + 1) fun j o' hj => ?_)
    have := h (j + 1) o' (by simpa using hj)
    rwa [show k + 1 + j = k + (j + 1) by omega]
theorem sameOps_all (ops : Array Oper) : SameOps ops (List.range ops.size) ops.toList := by
  rw [List.range_eq_range']
  exact sameOps_range' ops.toList 0 fun j o hj => by simpa using hj

theorem evL_spec {E : Env} {callF roundF : CallF} {ops : Array Oper} {is : List Nat} {os : List Oper} (hs : SameOps ops is os) :
    ∀ (t : Frm) (h : AHeap) (outs : List (Frm × AHeap)), evL E callF roundF ops os t h = some outs → evOps E callF roundF ops is t h = some outs := by
  induction hs with
  | nil => intro t h outs he; exact he
  | cons ho _ ih =>
    rename_i i o is os _
    intro t h outs he
    simp only [evOps, ho]
    have he' : evL1 E callF roundF ops o (evL E callF roundF ops os) t h = some outs := he
    unfold evL1 at he'
    rw [fwanted_eq] at he'
    cases hw : Region.wanted o (yieldedL ops t) with
    | false =>
      rw [hw] at he'
      simp only [putN_eq] at he'
      exact ih _ _ _ he'
    | true =>
      rw [hw] at he'
      simp only [cond_true]
      have hspec := @fstep_spec E callF roundF t h o
      cases hr : fstep E callF roundF t h o with
      | one v h' =>
        rw [hr] at he' hspec
        rw [hspec rfl]
        simp only [evL2, putN_eq] at he'
        simp only [bindL, ih _ _ _ he']
      | many l =>
        rw [hr] at he' hspec
        rw [hspec rfl]
        simp only [evL2, putN_eq] at he'
        exact bindL_mono (fun a x hx => ih _ _ _ hx) he'
      | fail => rw [hr] at he'; cases he'

theorem evL_all {E : Env} {callF roundF : CallF} {ops : Array Oper} {t : Frm} {h : AHeap} {outs : List (Frm × AHeap)} (he : evL E callF roundF ops ops.toList t h = some outs) :
    evOps E callF roundF ops (List.range ops.size) t h = some outs := evL_spec (sameOps_all ops) t h outs he
end Ev
end Go.Proofs.YthckkbhjocjmkaaGreatDoor
