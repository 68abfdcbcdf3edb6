/- The abstract run of a function's body: what is handed back, deferred marks, rounds of a range over a function. -/
import Derived.Test.YthckkbhjocjmkaaGreatDoorEvH
import Derived.RangeFuncLeaves
import Derived.LoopNIn
import Derived.Scope
namespace Go.Proofs.YthckkbhjocjmkaaGreatDoor
namespace Ev

inductive X1 where
  | normal | exit (id : Nat) | ret
def X1.out : X1 → Exit
  | .normal => .normal
  | .exit id => .exit id
  | .ret => .ret

structure COut where
  x : X1
  t : Frm
  d : List Nat
  h : AHeap

def subD (R : Emb) : List Nat → Option (List Deferred)
  | [] => some []
  | i :: l => (R i).bind fun e => (subD R l).map fun l' => { target := .collected e.1, args := #[] } :: l'
theorem subD_mono {R R' : Emb} (h : Emb.le R R') : ∀ {l : List Nat} {l' : List Deferred}, subD R l = some l' → subD R' l = some l'
  | [], _, hl => hl
  | e :: l, l', hl => by
    simp only [subD, Option.map_eq_some_iff, Option.bind_eq_some_iff] at hl ⊢
    obtain ⟨k, hk, v, hv, rfl⟩ := hl
    exact ⟨k, h _ _ hk, v, subD_mono h hv, rfl⟩

structure ActRel (R : Emb) (t : Frm) (d : List Nat) (a : Act) : Prop where
  tmps : subL R t = some a.tmps.toList
  defers : subD R d = some a.defers

def LandsC (R : Emb) (h : AHeap) (w : World) (outs : List COut) (e : Exit) (a : Act) (w1 : World) : Prop :=
  ∃ x ∈ outs, ∃ R1, Ext R h w R1 x.h w1 ∧ Rel R1 x.h w1 ∧ ActRel R1 x.t x.d a ∧ e = x.x.out

theorem LandsC.trans {R R1 : Emb} {h h1 : AHeap} {w w1 w2 : World} {outs1 outs : List COut} {e : Exit} {a : Act} (hx : Ext R h w R1 h1 w1) (hm : ∀ x ∈ outs1, x ∈ outs)
    (hl : LandsC R1 h1 w1 outs1 e a w2) : LandsC R h w outs e a w2 := by
  obtain ⟨x, hx1, R2, h2, h3, h4, h5⟩ := hl
  exact ⟨x, hm _ hx1, R2, hx.trans h2, h3, h4, h5⟩

abbrev EvF := Nat → Bool → Code → Frm → List Nat → AHeap → Option (List COut)

def EvOk (E : Env) (ev : EvF) : Prop := ∀ (f : Nat) (inR : Bool) (c : Code) (t : Frm) (d : List Nat) (h : AHeap) (outs : List COut), ev f inR c t d h = some outs → (inR = false → Planned E.pl f c) →
  ∀ (ro : Option Nat) (R : Emb) (w : World) (a : Act), ro.isSome = inR → Rel R h w → ActRel R t d a → c.wpIn (FW ro) 0 E.P (LandsC R h w outs) a w

/-! ### What a function hands back -/
def resL (P : Program) (h : AHeap) (t : Frm) : List ResultVar → Option (List Value)
  | [] => some []
  | .tmp i :: l => (resL P h t l).map fun vs => t.getD i undef :: vs
  | .cell i ty :: l => match eLoad P h ty (t.getD i undef) with
    | some v => (resL P h t l).map fun vs => v :: vs
    | none => none

def oneRes (tmps : Array Value) : ResultVar → Sem Value
  | .tmp t => pure (tmps.getD t undef)
  | .cell a t => do loadVar t (← asAddr (tmps.getD a undef))

def packA (vs : Array Value) : Value := if h : vs.size = 1 then vs[0] else .tuple vs
theorem results_eq (fn : Func) (tmps : Array Value) : results fn tmps = (fn.results.mapM (oneRes tmps) >>= fun vs => pure (packA vs)) := by
  unfold results
  congr 1

theorem getD_sub {R : Emb} {t : Frm} {a : Array Value} (ht : subL R t = some a.toList) (i : Nat) : sub R (t.getD i undef) = some (a.getD i undef) :=
  evalO_fits (a := ⟨a, []⟩) ht (x := .tmp i) rfl

theorem resL_run {P : Program} {R : Emb} {h : AHeap} {w : World} {t : Frm} {a : Array Value} (hr : Rel R h w) (ht : subL R t = some a.toList) :
    ∀ (l : List ResultVar) (vs : List Value), resL P h t l = some vs → ∃ vs', (l.mapM (oneRes a)).run P w = .ok vs' w ∧ subL R vs = some vs'
  | [], vs, hv => by
    simp only [resL, Option.some.injEq] at hv
    subst hv
    exact ⟨[], by simp, rfl⟩
  | .tmp i :: l, vs, hv => by
    simp only [resL, Option.map_eq_some_iff] at hv
    obtain ⟨us, hu, rfl⟩ := hv
    obtain ⟨us', hrun, hs⟩ := resL_run hr ht l us hu
    refine ⟨a.getD i undef :: us', ?_, subL_cons (getD_sub ht i) hs⟩
    simp only [List.mapM_cons, oneRes, Sem.run_bind, Sem.run_pure, Result.andThen_ok, hrun]
  | .cell i ty :: l, vs, hv => by
    simp only [resL] at hv
    split at hv
    · rename_i v hl
      simp only [Option.map_eq_some_iff] at hv
      obtain ⟨us, hu, rfl⟩ := hv
      obtain ⟨us', hrun, hs⟩ := resL_run hr ht l us hu
      have hg := getD_sub ht i
      cases hp : t.getD i undef with
      | pointer p =>
        rw [hp] at hl hg
        obtain _ | ⟨b, off, _ | s⟩ := p
        · simp [eLoad] at hl
        · simp only [sub, Option.map_eq_some_iff] at hg
          obtain ⟨e, he, hg⟩ := hg
          obtain ⟨v', hrun', hs'⟩ := loadVar_run hr he hl
          refine ⟨v' :: us', ?_, subL_cons hs' hs⟩
          simp only [List.mapM_cons, oneRes, ← hg, asAddr, Sem.run_bind, Sem.run_pure, Result.andThen_ok, hrun', hrun]
        · simp [eLoad] at hl
      | _ => rw [hp] at hl; simp [eLoad] at hl
    · cases hv

def packR : List Value → Value
  | [v] => v
  | vs => .tuple ⟨vs⟩
def resV (P : Program) (h : AHeap) (t : Frm) (fn : Func) : Option Value := (resL P h t fn.results.toList).map packR

theorem resV_run {P : Program} {R : Emb} {h : AHeap} {w : World} {t : Frm} {a : Array Value} {fn : Func} {v : Value} (hr : Rel R h w) (ht : subL R t = some a.toList) (hv : resV P h t fn = some v) :
    ∃ v', (results fn a).run P w = .ok v' w ∧ sub R v = some v' := by
  simp only [resV, Option.map_eq_some_iff] at hv
  obtain ⟨vs, hvs, rfl⟩ := hv
  obtain ⟨vs', hrun, hs⟩ := resL_run hr ht _ _ hvs
  have h1 : (fn.results.mapM (oneRes a)).run P w = .ok ⟨vs'⟩ w := by
    rw [Array.mapM_eq_mapM_toList]
    simp only [Sem.run_map, hrun]
    rfl
  rw [results_eq]
  simp only [Sem.run_bind, h1, Result.andThen_ok, Sem.run_pure]
  match vs, vs', hs with
  | [], vs', hs => simp [subL] at hs; subst hs; exact ⟨_, rfl, rfl⟩
  | [v], vs', hs =>
    obtain ⟨v', l'', rfl, hx, hl⟩ := subL_cons_inv hs
    simp [subL] at hl
    subst hl
    exact ⟨v', rfl, hx⟩
  | v :: u :: l, vs', hs =>
    obtain ⟨v', l'', rfl, hx, hl⟩ := subL_cons_inv hs
    obtain ⟨u', l3, rfl, hx2, hl2⟩ := subL_cons_inv hl
    exact ⟨.tuple ⟨v' :: u' :: l3⟩, by rw [packA, dif_neg (by simp)], by simp only [packR, sub, subA, hs]; rfl⟩

/-- The marks of the range-over-function loops are taken off. -/
def leaveD (h : AHeap) : List Nat → Option AHeap
  | [] => some h
  | i :: l => match h.get i with
    | some (.deferred true) => leaveD (h.put i (some (.deferred false))) l
    | _ => none

theorem run_takeDeferred {P : Program} {R : Emb} {h : AHeap} {w : World} {i : Nat} {e : Nat × Nat} (hr : Rel R h w) (he : R i = some e) (hg : h.get i = some (.deferred true)) :
    ∃ w', (Instr.takeDeferred e.1).run P w = .ok [] w' ∧ Ext R h w R (h.put i (some (.deferred false))) w' ∧ Rel R (h.put i (some (.deferred false))) w' := by
  obtain ⟨e', o, he', hw, ho⟩ := hr.dom _ _ hg
  rw [he] at he'; cases he'
  simp only [ObjRel, if_true] at ho
  subst ho
  obtain ⟨w', hrun, ht⟩ := run_setObj (P := P) (o' := .deferred none) hw rfl
  have := hr.turn hg he ht (ob' := .deferred false) rfl
  refine ⟨w', ?_, this.2, this.1⟩
  simp only [Instr.takeDeferred, Sem.run_bind, getObj, Sem.run, hw, Result.andThen_ok, hrun, Sem.run_pure]

theorem leaves_of {P : Program} {fn : Func} {tmps : Array Value} {K : Ending → World → Prop} {R : Emb} : ∀ (d : List Nat) (h h' : AHeap) (ds : List Deferred) (w : World), leaveD h d = some h' → Rel R h w → subD R d = some ds →
    (∀ w', Ext R h w R h' w' → Rel R h' w' → ∃ v, (results fn tmps).run P w' = .ok v w' ∧ K (.returned v) w') → LeavesInM Fence.wide 0 P fn tmps K ds .returning w
  | [], h, h', ds, w, hl, hr, hd, hK => by
    simp only [leaveD, Option.some.injEq] at hl
    subst hl
    simp only [subD, Option.some.injEq] at hd
    subst hd
    exact hK w (Ext.refl _ _ _) hr
  | i :: l, h, h', ds, w, hl, hr, hd, hK => by
    simp only [leaveD] at hl
    split at hl
    · rename_i hg
      simp only [subD, Option.map_eq_some_iff, Option.bind_eq_some_iff] at hd
      obtain ⟨e, he, l', hl', rfl⟩ := hd
      obtain ⟨w1, hrun, hext, hrel⟩ := run_takeDeferred (P := P) hr he hg
      refine ⟨by simp, .inl ⟨e.1, w1, rfl, hrun, leaves_of l _ h' l' w1 hl hrel hl' fun w' hx hr' => hK w' (hext.trans hx) hr'⟩⟩
    · cases hl

/-- How a body that has come to an end is left. -/
def finish (P : Program) (fn : Func) (o : COut) : Option (List VOut) :=
  match o.x with
  | .exit _ => none
  | _ => match leaveD o.h o.d with
    | some h => match resV P h o.t fn with
      | some v => some [(v, h)]
      | none => none
    | none => none

def enterFrom (E : Env) (ev : EvF) : CallF := fun f args h =>
  match E.fs f with
  | some fn => match fn.body with
    | some c => match ev f false c (args ++ List.replicate (fn.ntmps - args.length) undef) [] h with
      | some outs => bindL outs (finish E.P fn)
      | none => none
    | none => none
  | none => none

theorem subL_undefs (R : Emb) (n : Nat) : subL R (List.replicate n undef) = some (List.replicate n undef) := by
  induction n with
  | zero => rfl
  | succ n ih => rw [List.replicate_succ]; exact subL_cons rfl ih

/-- A function with a Go body. -/
def EnterOk (E : Env) (g : CallF) : Prop := ∀ f args h outs, g f args h = some outs → ∀ R w args', Rel R h w → subL R args = some args' →
  (callFunc f ⟨args'⟩).run E.P w = .ok (.enter f ⟨args'⟩) w ∧ Calls E.P f ⟨args'⟩ w fun e w' => ∃ v, e = .returned v ∧ Lands R h w outs v w'

theorem enterFrom_ok {E : Env} (hE : E.Ok) {ev : EvF} (hev : EvOk E ev) : EnterOk E (enterFrom E ev) := by
  intro f args h outs hs R w args' hr ha
  unfold enterFrom at hs
  split at hs
  · rename_i fn hfn
    obtain ⟨hf, hname⟩ := hE.fs f fn hfn
    split at hs
    · rename_i c hb
      split at hs
      · rename_i couts hc
        refine ⟨?_, callsIn_wide.1 (callsIn_of_wp_marks (n := 0) hf hb trivial ?_)⟩
        · simp only [callFunc, Sem.run_bind, run_program, Result.andThen_ok, hf, hname, Bool.false_eq_true, if_false, hb, Option.isNone_some, Sem.run_pure]
        · have hact : ActRel R (args ++ List.replicate (fn.ntmps - args.length) undef) [] { tmps := (⟨args'⟩ : Array Value) ++ Array.replicate (fn.ntmps - args'.length) undef, defers := [] } :=
            ⟨by
              simp only [Array.toList_append, Array.toList_replicate]
              rw [subL_length ha]
              exact subL_append ha (subL_undefs R _), rfl⟩
          refine wpIn_mono (hev f false c _ [] h couts hc (fun _ => hE.pl f fn c hfn hb) none R w _ rfl hr hact) ?_
          rintro e a w1 ⟨x, hx, R1, h1, h2, h3, rfl⟩
          obtain ⟨y, hy, hyy⟩ := bindL_mem hs x hx
          unfold finish at hy
          have main : ∀ h', leaveD x.h x.d = some h' → ∀ v, resV E.P h' x.t fn = some v → y = [(v, h')] → LeavesInM Fence.wide 0 E.P fn a.tmps (fun e w' => ∃ v, e = .returned v ∧ Lands R h w outs v w') a.defers .returning w1 := by
            intro h' hl v hv hyv
            refine leaves_of x.d x.h h' _ w1 hl h2 h3.defers ?_
            intro w' hx' hr'
            obtain ⟨v', hrun, hs'⟩ := resV_run (P := E.P) (fn := fn) hr' h3.tmps hv
            exact ⟨v', hrun, v', rfl, (v, h'), hyy _ (by rw [hyv]; exact List.mem_singleton.2 rfl), R1, h1.trans hx', hr', hs'⟩
          split at hy
          · cases hy
          · rename_i hne
            split at hy
            · rename_i h' hl
              split at hy
              · rename_i v hv
                simp only [Option.some.injEq] at hy
                cases hxx : x.x with
                | normal => exact main h' hl v hv hy.symm
                | ret => exact main h' hl v hv hy.symm
                | exit id => exact absurd hxx (hne id)
              · cases hy
            · cases hy
      · cases hs
    · cases hs
  · cases hs

/-- Whatever function. -/
def callFrom (E : Env) (g : CallF) : CallF := fun f args h =>
  match E.X f with
  | .no => g f args h
  | k => match eExt E.P h k args with
    | some (some v, h') => some [(v, h')]
    | _ => none

theorem callFrom_ok {E : Env} (hE : E.Ok) {g : CallF} (hg : EnterOk E g) : CallFOk E (callFrom E g) := by
  intro f args h outs hs R w args' hr ha
  unfold callFrom at hs
  split at hs
  · obtain ⟨h1, h2⟩ := hg f args h outs hs R w args' hr ha
    rw [h1]
    exact h2
  · rename_i k hk
    split at hs
    · rename_i v h' hx
      simp only [Option.some.injEq] at hs
      subst hs
      obtain ⟨x, hx1, hx2⟩ := hE.X f
      have hkx : ExtOk E.P f (E.X f).row := by
        rcases hx2 with h | h
        · exact absurd (hx1.trans h) hk
        · rw [hx1]; exact h
      obtain ⟨R', w', v1, v', hext, hrel, hv1, hrun, hsub⟩ := eExt_sound (P := E.P) hr ha hx
      rw [run_extern hkx, hrun, Result.andThen_ok]
      simp only [Option.some.injEq] at hv1
      subst hv1
      exact ⟨_, List.mem_singleton.2 rfl, R', hext, hrel, hsub⟩
    · cases hs

/-! ### Rounds -/
def bindPs : List Tmp → List Value → Frm → Frm
  | p :: ps, v :: vs, t => bindPs ps vs (t.set p v)
  | _, _, t => t
theorem bindPs_sub {R : Emb} : ∀ (ps : List Tmp) (vs vs' : List Value) (t : Frm) (a : Array Value), subL R vs = some vs' → subL R t = some a.toList →
    subL R (bindPs ps vs t) = some ((List.zip ps vs').foldl (fun (t : Array Value) (x : Tmp × Value) => t.setIfInBounds x.1 x.2) a).toList
  | [], vs, vs', t, a, _, ht => ht
  | p :: ps, [], vs', t, a, hv, ht => by simp [subL] at hv; subst hv; exact ht
  | p :: ps, v :: vs, vs', t, a, hv, ht => by
    obtain ⟨v', l'', rfl, hx, hl⟩ := subL_cons_inv hv
    simp only [bindPs, List.zip_cons_cons, List.foldl_cons]
    refine bindPs_sub ps vs l'' _ _ hl ?_
    rw [Array.toList_setIfInBounds]
    exact subL_set ht p hx

theorem Rel.loop {R : Emb} {h : AHeap} {w : World} {l : Nat} {e : Nat × Nat} {st : LoopState} {ts : List Value} {ps : List Tmp} {a b : Code} (hr : Rel R h w) (he : R l = some e)
    (hg : h.get l = some (.loop st ts ps a b)) : ∃ fn ts' d, subL R ts = some ts' ∧ w.heap[e.1]? = some (.loop { state := st, pending := none, fn := fn, tmps := ⟨ts'⟩, params := ⟨ps⟩, assign := a, body := b, defers := d }) := by
  obtain ⟨e', o, he', hw, ho⟩ := hr.dom _ _ hg
  rw [he] at he'; cases he'
  obtain ⟨fn, ts', d, hs, rfl⟩ := ho
  exact ⟨fn, ts', d, hs, hw⟩

theorem run_getLoop {P : Program} {w : World} {b : Nat} {r : Loop} (hw : w.heap[b]? = some (.loop r)) : (Instr.getLoop b).run P w = .ok r w := by
  simp only [Instr.getLoop, Sem.run_bind, getObj, Sem.run, hw, Result.andThen_ok, Sem.run_pure]

theorem run_beginRound {P : Program} {R : Emb} {h : AHeap} {w : World} {l : Nat} {e : Nat × Nat} {ts : List Value} {ps : List Tmp} {a b : Code} (hr : Rel R h w) (he : R l = some e)
    (hg : h.get l = some (.loop .ready ts ps a b)) : ∃ w', (Instr.beginRound e.1).run P w = .ok () w' ∧ Ext R h w R (h.put l (some (.loop .busy ts ps a b))) w' ∧ Rel R (h.put l (some (.loop .busy ts ps a b))) w' := by
  obtain ⟨fn, ts', d, hs, hw⟩ := hr.loop he hg
  obtain ⟨w', hrun, ht⟩ := run_setObj (P := P) (o' := .loop { state := .busy, pending := none, fn := fn, tmps := ⟨ts'⟩, params := ⟨ps⟩, assign := a, body := b, defers := d }) hw rfl
  have := hr.turn hg he ht (ob' := .loop .busy ts ps a b) ⟨fn, ts', d, hs, rfl⟩
  refine ⟨w', ?_, this.2, this.1⟩
  simp only [Instr.beginRound, Sem.run_bind, run_getLoop hw, Result.andThen_ok, hrun, Sem.run_pure]

theorem run_endRound {P : Program} {R : Emb} {h : AHeap} {w : World} {l : Nat} {e : Nat × Nat} {st : LoopState} {ts : List Value} {ps : List Tmp} {a b : Code} (hr : Rel R h w) (he : R l = some e)
    (hg : h.get l = some (.loop st ts ps a b)) : ∃ w', (Instr.endRound e.1 none).run P w = .ok (.bool true) w' ∧ Ext R h w R (h.put l (some (.loop .ready ts ps a b))) w' ∧ Rel R (h.put l (some (.loop .ready ts ps a b))) w' := by
  obtain ⟨fn, ts', d, hs, hw⟩ := hr.loop he hg
  obtain ⟨w', hrun, ht⟩ := run_setObj (P := P) (o' := .loop { state := .ready, pending := none, fn := fn, tmps := ⟨ts'⟩, params := ⟨ps⟩, assign := a, body := b, defers := d }) hw rfl
  have := hr.turn hg he ht (ob' := .loop .ready ts ps a b) ⟨fn, ts', d, hs, rfl⟩
  refine ⟨w', ?_, this.2, this.1⟩
  simp only [Instr.endRound, Sem.run_bind, run_getLoop hw, Result.andThen_ok, Option.isNone_none, if_true, hrun, Sem.run_pure]

theorem run_endLoop {P : Program} {R : Emb} {h : AHeap} {w : World} {l : Nat} {e : Nat × Nat} {ts : List Value} {ps : List Tmp} {a b : Code} (hr : Rel R h w) (he : R l = some e)
    (hg : h.get l = some (.loop .ready ts ps a b)) : ∃ w', (Instr.endLoop e.1).run P w = .ok none w' ∧ Ext R h w R (h.put l (some (.loop .exhausted ts ps a b))) w' ∧ Rel R (h.put l (some (.loop .exhausted ts ps a b))) w' := by
  obtain ⟨fn, ts', d, hs, hw⟩ := hr.loop he hg
  obtain ⟨w', hrun, ht⟩ := run_setObj (P := P) (o' := .loop { state := .exhausted, pending := none, fn := fn, tmps := ⟨ts'⟩, params := ⟨ps⟩, assign := a, body := b, defers := d }) hw rfl
  have := hr.turn hg he ht (ob' := .loop .exhausted ts ps a b) ⟨fn, ts', d, hs, rfl⟩
  refine ⟨w', ?_, this.2, this.1⟩
  have hb : (LoopState.ready == LoopState.busy) = false := rfl
  simp only [Instr.endLoop, Sem.run_bind, run_getLoop hw, Result.andThen_ok, hb, Bool.false_eq_true, if_false, hrun, Sem.run_pure]

def round2 (l : Nat) (y : COut) : Option (List VOut) :=
  match y.x with
  | .normal => match y.h.get l with
    | some (.loop _ ts ps a b) => some [(.bool true, y.h.put l (some (.loop .ready ts ps a b)))]
    | _ => none
  | _ => none
def round1 (ev : EvF) (l : Nat) (body : Code) (x : COut) : Option (List VOut) :=
  match x.x with
  | .normal => match x.h.get l with
    | some (.loop .ready ts ps a b) => match ev 0 true body x.t x.d (x.h.put l (some (.loop .busy ts ps a b))) with
      | some outs => bindL outs (round2 l)
      | none => none
    | _ => none
  | _ => none
def roundFrom (ev : EvF) : CallF := fun l args h =>
  match h.get l with
  | some (.loop .ready ts ps assign body) => cond (Nat.beq args.length ps.length)
    (match ev 0 true assign (bindPs ps args ts) [] h with
    | some outs => bindL outs (round1 ev l body)
    | none => none) none
  | _ => none

theorem roundFrom_ok {E : Env} {ev : EvF} (hev : EvOk E ev) : RoundFOk E true (roundFrom ev) := by
  intro l args h outs hs R w e args' hr he ha
  unfold roundFrom at hs
  split at hs
  · rename_i ts ps assign body hg
    cases hlen : Nat.beq args.length ps.length with
    | false => rw [hlen] at hs; cases hs
    | true =>
      rw [hlen] at hs
      simp only [cond_true] at hs
      have hlen' := Nat.eq_of_beq_eq_true hlen
      split at hs
      · rename_i aouts ha1
        obtain ⟨fn, ts', d, hts, hw⟩ := hr.loop he hg
        have hy : (Instr.yield e.1 ⟨args'⟩).run E.P w = .ok (.round e.1 fn ((List.zip ps args').foldl (fun (t : Array Value) (x : Tmp × Value) => t.setIfInBounds x.1 x.2) ⟨ts'⟩) assign body) w := by
          have hsz : ¬ ((⟨args'⟩ : Array Value).size ≠ (⟨ps⟩ : Array Tmp).size) := by
            simp [subL_length ha, hlen']
          simp only [Instr.yield, Sem.run_bind, run_getLoop hw, Result.andThen_ok, if_neg hsz, Sem.run_pure]
          simp
        rw [hy]
        refine ⟨rfl, roundIn_of_wpIn trivial ?_⟩
        have hact : ActRel R (bindPs ps args ts) [] { tmps := (List.zip ps args').foldl (fun (t : Array Value) (x : Tmp × Value) => t.setIfInBounds x.1 x.2) ⟨ts'⟩, defers := [] } :=
          ⟨bindPs_sub ps args args' ts ⟨ts'⟩ ha hts, rfl⟩
        refine wpIn_mono (hev 0 true assign _ [] h aouts ha1 (fun hh => by cases hh) (some e.1) R w _ rfl hr hact) ?_
        rintro ex a1 w1 ⟨x, hx, R1, h1, h2, h3, rfl⟩
        obtain ⟨y, hy1, hy2⟩ := bindL_mem hs x hx
        unfold round1 at hy1
        split at hy1
        · rename_i hxx
          rw [hxx]
          split at hy1
          · rename_i ts2 ps2 a2 b2 hg2
            have he1 := h1.le _ _ he
            obtain ⟨w2, hb, hx2, hr2⟩ := run_beginRound (P := E.P) h2 he1 hg2
            refine ⟨w2, hb, ?_⟩
            split at hy1
            · rename_i bouts hbo
              have := hev 0 true body x.t x.d _ bouts hbo (fun hh => by cases hh) (some e.1) R1 w2 a1 rfl hr2 h3
              refine wpIn_mono this ?_
              rintro ex2 a2' w3 ⟨z, hz, R2, k1, k2, k3, rfl⟩
              obtain ⟨u, hu1, hu2⟩ := bindL_mem hy1 z hz
              unfold round2 at hu1
              split at hu1
              · rename_i hzz
                rw [hzz]
                split at hu1
                · rename_i st3 ts3 ps3 a3 b3 hg3
                  simp only [Option.some.injEq] at hu1
                  subst hu1
                  obtain ⟨w4, hb4, hx4, hr4⟩ := run_endRound (P := E.P) k2 (k1.le _ _ he1) hg3
                  exact ⟨_, w4, hb4, .bool true, rfl, _, hy2 _ (hu2 _ (List.mem_singleton.2 rfl)), R2, (h1.trans hx2).trans (k1.trans hx4), hr4, rfl⟩
                · cases hu1
              · cases hu1
            · cases hy1
          · cases hy1
        · cases hy1
      · cases hs
  · cases hs
end Ev
end Go.Proofs.YthckkbhjocjmkaaGreatDoor
