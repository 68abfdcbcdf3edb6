/- The abstract run of a region. -/
import Derived.Test.YthckkbhjocjmkaaGreatDoorEvF
namespace Go.Proofs.YthckkbhjocjmkaaGreatDoor
namespace Ev

/-! ### Values that are the same -/
mutual
def veq : Value → Value → Bool
  | .bool a, .bool b => a == b
  | .int j a, .int k b => decide (j = k) && decide (a = b)
  | .string s, .string u => decide (s.data.toList = u.data.toList)
  | .pointer a, .pointer b => decide (a = b)
  | .slice a n c, .slice b m d => decide (a = b) && (Nat.beq n m && Nat.beq c d)
  | .map a, .map b => decide (a = b)
  | .nilFunc, .nilFunc => true
  | .nilIface, .nilIface => true
  | .iface t v, .iface u w => Nat.beq t u && veq v w
  | .func f a b, .func g c d => decide (f = g) && (veqA a c && veqA b d)
  | .agg a, .agg b => veqA a b
  | .tuple a, .tuple b => veqA a b
  | _, _ => false
def veqA : Array Value → Array Value → Bool
  | ⟨l⟩, ⟨m⟩ => veqL l m
def veqL : List Value → List Value → Bool
  | [], [] => true
  | v :: l, w :: m => veq v w && veqL l m
  | _, _ => false
end

mutual
theorem veq_eq : ∀ (v w : Value), veq v w = true → v = w
  | .bool a, w, h => by cases w <;> simp_all [veq]
  | .int j a, w, h => by cases w <;> simp_all [veq]
  | .string s, w, h => by
    cases w <;> simp only [veq, decide_eq_true_eq, Bool.false_eq_true] at h
    rename_i u
    obtain ⟨⟨l⟩⟩ := s
    obtain ⟨⟨m⟩⟩ := u
    simp only at h
    rw [h]
  | .pointer a, w, h => by cases w <;> simp_all [veq]
  | .slice a n c, w, h => by
    cases w <;> simp only [veq, decide_eq_true_eq, Bool.false_eq_true, Bool.and_eq_true, Nat.beq_eq] at h
    obtain ⟨rfl, rfl, rfl⟩ := h
    rfl
  | .map a, w, h => by cases w <;> simp_all [veq]
  | .nilFunc, w, h => by cases w <;> simp_all [veq]
  | .nilIface, w, h => by cases w <;> simp_all [veq]
  | .iface t v, w, h => by
    cases w <;> simp only [veq, Bool.false_eq_true, Bool.and_eq_true, Nat.beq_eq] at h
    obtain ⟨rfl, h2⟩ := h
    rw [veq_eq v _ h2]
  | .func f a b, w, h => by
    cases w <;> simp only [veq, Bool.false_eq_true, Bool.and_eq_true, decide_eq_true_eq] at h
    obtain ⟨rfl, h2, h3⟩ := h
    rw [veqA_eq a _ h2, veqA_eq b _ h3]
  | .agg a, w, h => by
    cases w <;> simp only [veq, Bool.false_eq_true] at h
    rw [veqA_eq a _ h]
  | .tuple a, w, h => by
    cases w <;> simp only [veq, Bool.false_eq_true] at h
    rw [veqA_eq a _ h]
  | .float .., w, h => by cases w <;> simp [veq] at h
  | .complex .., w, h => by cases w <;> simp [veq] at h
  | .chan .., w, h => by cases w <;> simp [veq] at h
theorem veqA_eq : ∀ (v w : Array Value), veqA v w = true → v = w
  | ⟨l⟩, ⟨m⟩, h => by simp only [veqA] at h; rw [veqL_eq l m h]
theorem veqL_eq : ∀ (v w : List Value), veqL v w = true → v = w
  | [], w, h => by cases w <;> simp_all [veqL]
  | v :: l, w, h => by
    cases w with
    | nil => simp [veqL] at h
    | cons u m =>
      simp only [veqL, Bool.and_eq_true] at h
      rw [veq_eq v u h.1, veqL_eq l m h.2]
end

/-! ### Lists of outcomes -/
def bindL {α β : Type} : List α → (α → Option (List β)) → Option (List β)
  | [], _ => some []
  | a :: l, f => match f a with
    | some x => match l with
      | [] => some x
      | _ => (bindL l f).map fun y => x ++ y
    | none => none
theorem bindL_mem {α β : Type} {f : α → Option (List β)} : ∀ {l : List α} {r : List β}, bindL l f = some r → ∀ a ∈ l, ∃ x, f a = some x ∧ ∀ b ∈ x, b ∈ r
  | [], r, _, a, ha => by cases ha
  | c :: l, r, h, a, ha => by
    simp only [bindL] at h
    split at h
    · rename_i x hx
      split at h
      · simp only [Option.some.injEq] at h
        subst h
        simp only [List.mem_singleton] at ha
        subst ha
        exact ⟨x, hx, fun b hb => hb⟩
      · simp only [Option.map_eq_some_iff] at h
        obtain ⟨y, hy, rfl⟩ := h
        rcases List.mem_cons.1 ha with rfl | ha
        · exact ⟨x, hx, fun b hb => List.mem_append_left _ hb⟩
        · obtain ⟨z, hz, hzz⟩ := bindL_mem hy a ha
          exact ⟨z, hz, fun b hb => List.mem_append_right _ (hzz b hb)⟩
    · cases h

/-! ### The surroundings -/
/-- The plans that are told for function f's regions are the plans. -/
def Planned (pl : Nat → Nat → Option (List PStep)) (f : Nat) : Code → Prop
  | .region id ops true => ∀ p, pl f id = some p → plan ops = some p
  | .seq a b => Planned pl f a ∧ Planned pl f b
  | .cond _ a b => Planned pl f a ∧ Planned pl f b
  | .block _ a => Planned pl f a
  | .loop a => Planned pl f a
  | .scope a => Planned pl f a
  | _ => True

structure Env where
  P : Program
  fs : FuncId → Option Func
  X : FuncId → ExtK
  pl : Nat → Nat → Option (List PStep)

structure Env.Ok (E : Env) : Prop where
  fs : ∀ f fn, E.fs f = some fn → E.P.funcs[f]? = some fn ∧ (fn.name == "runtime.NumGoroutine") = false
  X : ∀ f, (∃ x, E.X f = x ∧ (x = .no ∨ ExtOk E.P f x.row))
  mixed : E.P.follows .mixedOrders = true
  pl : ∀ f fn c, E.fs f = some fn → fn.body = some c → Planned E.pl f c

abbrev VOut := Value × AHeap
abbrev CallF := FuncId → List Value → AHeap → Option (List VOut)

/-- The run has come to one of the outcomes. -/
def Lands (R : Emb) (h : AHeap) (w : World) (outs : List VOut) (v' : Value) (w' : World) : Prop :=
  ∃ out ∈ outs, ∃ R', Ext R h w R' out.2 w' ∧ Rel R' out.2 w' ∧ sub R' out.1 = some v'

/-- What an operation's run comes to, through its call if it makes one. -/
def OpRes (P : Program) (rounds : Bool) (S : Value → World → Prop) : Result Next → Prop
  | .ok (.value v) w => S v w
  | .ok .skip w => S undef w
  | .ok (.enter f args) w => Calls P f args w fun e w' => ∃ v, e = .returned v ∧ S v w'
  | .ok (.round l f tmps assign body) w => rounds = true ∧ RoundIn Fence.wide 0 P l f tmps assign body w fun e w' => ∃ v, e = .returned v ∧ S v w'
  | _ => False

theorem OpRes.mono {P : Program} {b b' : Bool} (hb : b = true → b' = true) {S S' : Value → World → Prop} (hS : ∀ v w, S v w → S' v w) {r : Result Next} (h : OpRes P b S r) : OpRes P b' S' r := by
  cases r with
  | halt x w => exact h
  | ok n w =>
    cases n <;> simp only [OpRes] at h ⊢ <;> first
      | exact hS _ _ h
      | exact Calls.mono h (fun e w' ⟨v, he, hs⟩ => ⟨v, he, hS _ _ hs⟩)
      | exact ⟨hb h.1, RoundIn.mono h.2 (fun e w' ⟨v, he, hs⟩ => ⟨v, he, hS _ _ hs⟩)⟩

/-- The fence that shuts nothing out, in a round or outside. -/
def FW (ro : Option Nat) : Fence := { Fence.wide with round := ro }

theorem wpIn_of_res {P : Program} {ro : Option Nat} {o : Oper} {a : Act} {w : World} {K : Act → World → Prop} {Q : Exit → Act → World → Prop} {S : Value → World → Prop} (ho : ∀ c, o.op ≠ .defer c)
    (h : OpRes P true S ((execOp a.eval o).run P w)) (hK : ∀ v w', S v w' → K (a.put o.dst v) w') : o.wpIn (FW ro) 0 P a w K Q := by
  refine ⟨fun _ _ => trivial, ?_⟩
  rw [Oper.semAt_eq _ _ _ ho]
  generalize (execOp a.eval o).run P w = r at h
  cases r with
  | halt x w => exact h.elim
  | ok n w =>
    cases n <;> simp only [OpRes, Oper.uponIn] at h ⊢
    · exact hK _ _ h
    · exact hK _ _ h
    · exact ⟨fun hd => (by cases hd), CallsIn.mono (callsIn_wide.2 h) (fun e w' ⟨v, he, hs⟩ => by subst he; exact hK _ _ hs)⟩
    · exact ⟨fun hd => (by cases hd), RoundIn.mono (show RoundIn (FW ro) 0 P _ _ _ _ _ w _ from h.2) (fun e w' ⟨v, he, hs⟩ => by subst he; exact hK _ _ hs)⟩

theorem wp_of_res {P : Program} {o : Oper} {a : Act} {w : World} {K : Act → World → Prop} {Q : Exit → Act → World → Prop} {S : Value → World → Prop}
    (h : OpRes P false S ((execOp a.eval o).run P w)) (hK : ∀ v w', S v w' → K (a.put o.dst v) w') : o.wp P a w K Q := by
  unfold Oper.wp
  generalize (execOp a.eval o).run P w = r at h
  cases r with
  | halt x w => exact h.elim
  | ok n w =>
    cases n <;> simp only [OpRes, Oper.upon] at h ⊢
    · exact hK _ _ h
    · exact hK _ _ h
    · exact Calls.mono h (fun e w' ⟨v, he, hs⟩ => by subst he; exact hK _ _ hs)
    · cases h.1

/-! ### One operation -/
def stepOp (E : Env) (callF : CallF) (roundF : CallF) (t : Frm) (h : AHeap) (o : Oper) : Option (List VOut) :=
  cond (okOps o)
    (match pop E.P (evalO t) o with
    | some v => some [(v, h)]
    | none => match effOp E.P h (evalO t) o.op with
      | some outs => some (outs.map fun x => (x.1.getD undef, x.2))
      | none => match o.op with
        | .call c => match tgt E.P (evalO t) c with
          | some (.fn f args) => callF f args h
          | some (.yield l args) => roundF l args h
          | none => none
        | _ => none)
    none

def CallFOk (E : Env) (callF : CallF) : Prop := ∀ f args h outs, callF f args h = some outs → ∀ R w args', Rel R h w → subL R args = some args' →
  OpRes E.P false (Lands R h w outs) ((callFunc f ⟨args'⟩).run E.P w)
def RoundFOk (E : Env) (rb : Bool) (roundF : CallF) : Prop := ∀ l args h outs, roundF l args h = some outs → ∀ R w e args', Rel R h w → R l = some e → subL R args = some args' →
  OpRes E.P rb (Lands R h w outs) ((Instr.yield e.1 ⟨args'⟩).run E.P w)

theorem stepOp_sound {E : Env} {callF roundF : CallF} {rb : Bool} (hC : CallFOk E callF) (hR : RoundFOk E rb roundF) {t : Frm} {h : AHeap} {o : Oper} {outs : List VOut} (hs : stepOp E callF roundF t h o = some outs)
    {R : Emb} {w : World} {a : Act} (hr : Rel R h w) (ht : subL R t = some a.tmps.toList) : OpRes E.P rb (Lands R h w outs) ((execOp a.eval o).run E.P w) := by
  unfold stepOp at hs
  cases hok : okOps o with
  | false => rw [hok] at hs; cases hs
  | true =>
    rw [hok] at hs
    simp only [cond_true] at hs
    have hf := fits_of ht hok
    split at hs
    · rename_i v hp
      simp only [Option.some.injEq] at hs
      subst hs
      obtain ⟨v', hrun, hsub⟩ := (pop_sound hp).run hf
      rw [hrun w]
      exact ⟨_, List.mem_singleton.2 rfl, R, Ext.refl _ _ _, hr, hsub⟩
    · split at hs
      · rename_i eouts he
        simp only [Option.some.injEq] at hs
        subst hs
        obtain ⟨out, hmem, R', w', hext, hrel, hcase⟩ := effOp_sound he R a.eval w hf hr
        obtain ⟨r, h'⟩ := out
        cases r with
        | some v =>
          obtain ⟨v', hrun, hsub⟩ := hcase
          rw [hrun]
          exact ⟨(v, h'), List.mem_map.2 ⟨_, hmem, rfl⟩, R', hext, hrel, hsub⟩
        | none =>
          simp only at hcase
          rw [hcase]
          exact ⟨(undef, h'), List.mem_map.2 ⟨_, hmem, rfl⟩, R', hext, hrel, rfl⟩
      · split at hs
        · rename_i c hc
          obtain ⟨dst, op, ty, pos, after, guard⟩ := o
          simp only at hc
          subst hc
          split at hs
          · rename_i f args htg
            obtain ⟨args', ha, hrun⟩ := run_tgt_fn (P := E.P) (dst := dst) (ty := ty) (pos := pos) (after := after) (guard := guard) htg hf
            rw [hrun w]
            exact (hC f args h outs hs R w args' hr ha).mono (fun h => by cases h) (fun _ _ h => h)
          · rename_i l args htg
            obtain ⟨e, args', he, ha, hrun⟩ := run_tgt_yield (P := E.P) (dst := dst) (ty := ty) (pos := pos) (after := after) (guard := guard) htg hf
            rw [hrun w]
            exact hR l args h outs hs R w e args' hr he ha
          · cases hs
        · cases hs

theorem stepOp_defer {E : Env} {callF roundF : CallF} {t : Frm} {h : AHeap} {o : Oper} {outs : List VOut} (hs : stepOp E callF roundF t h o = some outs) : ∀ c, o.op ≠ .defer c := by
  intro c hc
  unfold stepOp at hs
  cases hok : okOps o with
  | false => rw [hok] at hs; cases hs
  | true =>
    rw [hok] at hs
    obtain ⟨dst, op, ty, pos, after, guard⟩ := o
    simp only at hc
    subst hc
    simp [pop, effOp] at hs

/-! ### Temporaries -/
def putL (t : Frm) (dst : Option Tmp) (v : Value) : Frm :=
  match dst with
  | some d => t.set d v
  | none => t
theorem putL_sub {R : Emb} {t : Frm} {a : Act} (ht : subL R t = some a.tmps.toList) {v v' : Value} (hv : sub R v = some v') (dst : Option Tmp) : subL R (putL t dst v) = some (a.put dst v').tmps.toList := by
  cases dst with
  | none => exact ht
  | some d =>
    simp only [putL, Act.put, Array.toList_setIfInBounds]
    exact subL_set ht d hv
theorem put_defers (a : Act) (dst : Option Tmp) (v : Value) : (a.put dst v).defers = a.defers := by cases dst <;> rfl

def yieldedL (ops : Array Oper) (t : Frm) (j : Nat) : Option Bool :=
  match ops[j]? with
  | some o => match o.dst with
    | some d => match t[d]? with
      | some (.bool b) => some b
      | _ => none
    | none => none
  | none => none
theorem sub_isBool {R : Emb} {v : Value} {b : Bool} (h : sub R v = some (.bool b)) : v = .bool b := by
  cases v with
  | bool c => simp only [sub, Option.some.injEq, Value.bool.injEq] at h; rw [h]
  | pointer a =>
    obtain _ | ⟨b, off, _ | s⟩ := a
    · cases h
    · simp only [sub, Option.map_eq_some_iff] at h; obtain ⟨e, he, h⟩ := h; cases h
    · cases h
  | slice a n c =>
    obtain _ | ⟨b, off, _ | s⟩ := a
    · cases h
    · simp only [sub, Option.map_eq_some_iff] at h; obtain ⟨e, he, h⟩ := h; cases h
    · cases h
  | map r =>
    cases r with
    | none => cases h
    | some r => simp only [sub, Option.map_eq_some_iff] at h; obtain ⟨e, he, h⟩ := h; cases h
  | chan r => cases r <;> cases h
  | func fn a b =>
    simp only [sub, Option.map_eq_some_iff, Option.bind_eq_some_iff] at h
    obtain ⟨fn', hf, a', ha, b', hb, h⟩ := h; cases h
  | iface t u => simp only [sub, Option.map_eq_some_iff] at h; obtain ⟨e, he, h⟩ := h; cases h
  | tuple a => simp only [sub, Option.map_eq_some_iff] at h; obtain ⟨e, he, h⟩ := h; cases h
  | agg a => simp only [sub, Option.map_eq_some_iff] at h; obtain ⟨e, he, h⟩ := h; cases h
  | _ => cases h
theorem yielded_eq {R : Emb} {t : Frm} {a : Array Value} (ht : subL R t = some a.toList) (ops : Array Oper) : yielded ops a = yieldedL ops t := by
  funext j
  unfold yielded yieldedL
  cases ho : ops[j]? with
  | none => rfl
  | some o =>
    simp only [Option.bind_some]
    cases hd : o.dst with
    | none => rfl
    | some d =>
      simp only [Option.bind_some]
      cases hv : t[d]? with
      | none =>
        have hl := subL_length ht
        have : a[d]? = none := by
          rw [Array.getElem?_eq_none_iff]
          have := List.getElem?_eq_none_iff.1 hv
          simp at hl; omega
        rw [this]
      | some v =>
        obtain ⟨v', hv', hs⟩ := subL_get ht d v hv
        have hv'' : a[d]? = some v' := by simpa using hv'
        rw [hv'']
        by_cases hb : ∃ b, v = .bool b
        · obtain ⟨b, rfl⟩ := hb
          rw [sub_bool hs]
        · have hb' : ∀ b, v' ≠ .bool b := fun b e => hb ⟨b, sub_isBool (e ▸ hs)⟩
          cases v <;> first | (exfalso; exact hb ⟨_, rfl⟩) | (cases v' <;> first | rfl | (exfalso; exact hb' _ rfl))

/-! ### A region in the order of its text -/
def evOps (E : Env) (callF roundF : CallF) (ops : Array Oper) : List Nat → Frm → AHeap → Option (List (Frm × AHeap))
  | [], t, h => some [(t, h)]
  | i :: is, t, h => match ops[i]? with
    | none => evOps E callF roundF ops is t h
    | some o => cond (Region.wanted o (yieldedL ops t))
      (match stepOp E callF roundF t h o with
      | some outs => bindL outs fun x => evOps E callF roundF ops is (putL t o.dst x.1) x.2
      | none => none)
      (evOps E callF roundF ops is (putL t o.dst undef) h)

def PostT (R : Emb) (h : AHeap) (w : World) (outs : List (Frm × AHeap)) (d : List Deferred) (K : Act → World → Prop) : Prop :=
  ∀ x ∈ outs, ∀ R1 w1 t1, Ext R h w R1 x.2 w1 → Rel R1 x.2 w1 → subL R1 x.1 = some (Array.toList t1) → K ⟨t1, d⟩ w1

theorem evOps_sound {E : Env} {callF roundF : CallF} (hC : CallFOk E callF) (hR : RoundFOk E true roundF) {ops : Array Oper} {ro : Option Nat} {Q : Exit → Act → World → Prop} :
    ∀ (is : List Nat) (t : Frm) (h : AHeap) (outs : List (Frm × AHeap)), evOps E callF roundF ops is t h = some outs → ∀ (R : Emb) (w : World) (a : Act), Rel R h w → subL R t = some a.tmps.toList →
      PostT R h w outs a.defers (Q .normal) → wpOpsIn (FW ro) 0 E.P ops Q is a w
  | [], t, h, outs, he, R, w, a, hr, ht, hQ => by
    simp only [evOps, Option.some.injEq] at he
    subst he
    exact hQ _ (List.mem_singleton.2 rfl) R w a.tmps (Ext.refl _ _ _) hr ht
  | i :: is, t, h, outs, he, R, w, a, hr, ht, hQ => by
    simp only [evOps] at he
    simp only [wpOpsIn]
    split at he
    · rename_i ho
      rw [ho]
      exact evOps_sound hC hR is t h outs he R w a hr ht hQ
    · rename_i o ho
      rw [ho]
      simp only [yielded_eq ht]
      cases hw : Region.wanted o (yieldedL ops t) with
      | true =>
        rw [hw] at he
        simp only [cond_true] at he
        simp only [if_true]
        split at he
        · rename_i souts hs
          refine wpIn_of_res (stepOp_defer hs) (stepOp_sound hC hR hs hr ht) ?_
          rintro v' w' ⟨x, hx, R', hext, hrel, hsub⟩
          obtain ⟨y, hy, hyy⟩ := bindL_mem he x hx
          refine evOps_sound hC hR is _ _ y hy R' w' (a.put o.dst v') hrel (putL_sub (subL_mono hext.le _ _ ht) hsub o.dst) ?_
          intro z hz R1 w1 t1 h1 h2 h3
          rw [put_defers]
          exact hQ z (hyy z hz) R1 w1 t1 (hext.trans h1) h2 h3
        · cases he
      | false =>
        rw [hw] at he
        simp only [cond_false] at he
        simp only [Bool.false_eq_true, if_false]
        refine ⟨fun _ _ => trivial, evOps_sound hC hR is _ _ outs he R w (a.put o.dst undef) hr (putL_sub ht rfl o.dst) ?_⟩
        rw [put_defers]; exact hQ
end Ev
end Go.Proofs.YthckkbhjocjmkaaGreatDoor
