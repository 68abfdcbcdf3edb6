/- The abstract run of code, and what it proves. -/
import Derived.Test.YthckkbhjocjmkaaGreatDoorEvI
import Derived.Test.YthckkbhjocjmkaaGreatDoorEvL
import Derived.RangeFuncIn
namespace Go.Proofs.YthckkbhjocjmkaaGreatDoor
namespace Ev

def loopF (body : Frm → List Nat → AHeap → Option (List COut)) : Nat → Frm → List Nat → AHeap → Option (List COut)
  | 0, _, _, _ => none
  | n + 1, t, d, h => match body t d h with
    | some outs => bindL outs fun o => match o.x with
      | .normal => loopF body n o.t o.d o.h
      | _ => some [o]
    | none => none

def rangeT (v : Value) (l : Nat) : Option (FuncId × List Value) :=
  match v with
  | .func (.func g) a b => some (g, a.toList ++ (.func (.yield l) #[] #[] :: b.toList))
  | _ => none

def rangeEnd (t : Frm) (d : List Nat) (l : Nat) (o : VOut) : Option (List COut) :=
  match o.2.get l with
  | some (.loop .ready ts ps a b) => some [⟨.normal, t, d, o.2.put l (some (.loop .exhausted ts ps a b))⟩]
  | _ => none

def catchX (id : Nat) (o : COut) : COut :=
  match o.x with
  | .exit i => cond (Nat.beq i id) { o with x := .normal } o
  | _ => o

def evBind (r : Option (List COut)) (k : COut → Option (List COut)) : Option (List COut) :=
  match r with
  | some outs => bindL outs k
  | none => none
def seqK (evn : Code → Frm → List Nat → AHeap → Option (List COut)) (y : Code) (o : COut) : Option (List COut) :=
  match o.x with
  | .normal => evn y o.t o.d o.h
  | _ => some [o]
def condK (v : Value) (a b : Option (List COut)) : Option (List COut) :=
  match v with
  | .bool true => a
  | .bool false => b
  | _ => none
def regK (d : List Nat) (r : Option (List (Frm × AHeap))) : Option (List COut) := r.map fun l => l.map fun y => ⟨.normal, y.1, d, y.2⟩
def planK (p : Option (List PStep)) (k : List PStep → Option (List COut)) : Option (List COut) :=
  match p with
  | some p => k p
  | none => none
def rangeK (enter : CallF) (t : Frm) (d : List Nat) (h : AHeap) (ps : List Tmp) (assign body : Code) (fa : Option (FuncId × List Value)) : Option (List COut) :=
  match fa with
  | some fa => match enter fa.1 fa.2 ((h.add (.deferred true)).add (.loop .ready t ps assign body)) with
    | some outs => bindL outs (rangeEnd t (h.next :: d) (h.next + 1))
    | none => none
  | none => none

noncomputable def evStep (E : Env) (wrap : CallF → CallF) (n : Nat) (evn : EvF) : EvF := fun f inR c t d h => match c with
  | .skip => some [⟨.normal, t, d, h⟩]
  | .label _ => some [⟨.normal, t, d, h⟩]
  | .exit id => some [⟨.exit id, t, d, h⟩]
  | .ret => some [⟨.ret, t, d, h⟩]
  | .region _ ops false => regK d (evL E (wrap (callFrom E (enterFrom E evn))) (roundFrom evn) ops ops.toList t h)
  | .region id ops true => cond inR none (planK (E.pl f id) fun p => regK d (evPlan E (wrap (callFrom E (enterFrom E evn))) ops p [] t h))
  | .seq x y => evBind (evn f inR x t d h) (seqK (evn f inR) y)
  | .cond c x y => condK (evalO t c) (evn f inR x t d h) (evn f inR y t d h)
  | .block id c => (evn f inR c t d h).map fun l => l.map (catchX id)
  | .loop c => loopF (evn f inR c) n t d h
  | .scope c => cond inR none (evn f inR c t d h)
  | .rangeFunc g ps assign body => cond (inR || !(okX g)) none (rangeK (enterFrom E evn) t d h ps.toList assign body (rangeT (evalO t g) (h.next + 1)))
  | _ => none

noncomputable def ev (E : Env) (wrap : CallF → CallF) (n : Nat) : EvF :=
  Nat.rec (motive := fun _ => EvF) (fun _ _ _ _ _ _ => none) (fun n ih => evStep E wrap n ih) n

theorem roundsIn_mono {F : Fence} {n : Nat} {P : Program} {c : Code} {Q Q' : Exit → Act → World → Prop} (hq : ∀ e a w, Q e a w → Q' e a w) : ∀ (m : Nat) (a : Act) (w : World), Code.roundsIn F n P c Q m a w → Code.roundsIn F n P c Q' m a w
  | 0, _, _, h => h.elim
  | m + 1, a, w, h => by
    rw [roundsIn_succ] at h ⊢
    refine wpIn_mono h fun e a w he => ?_
    cases e with
    | normal => exact roundsIn_mono hq m a w he
    | _ => exact hq _ _ _ he

theorem loopF_sound {E : Env} {c : Code} {body : Frm → List Nat → AHeap → Option (List COut)} {ro : Option Nat}
    (hb : ∀ t d h outs, body t d h = some outs → ∀ R w a, Rel R h w → ActRel R t d a → c.wpIn (FW ro) 0 E.P (LandsC R h w outs) a w) :
    ∀ (n : Nat) (t : Frm) (d : List Nat) (h : AHeap) (outs : List COut), loopF body n t d h = some outs → ∀ R w a, Rel R h w → ActRel R t d a →
      Code.roundsIn (FW ro) 0 E.P c (LandsC R h w outs) n a w
  | 0, t, d, h, outs, hl, R, w, a, hr, ha => by cases hl
  | n + 1, t, d, h, outs, hl, R, w, a, hr, ha => by
    simp only [loopF] at hl
    split at hl
    · rename_i bouts hbo
      rw [roundsIn_succ]
      refine wpIn_mono (hb t d h bouts hbo R w a hr ha) ?_
      rintro e a1 w1 ⟨x, hx, R1, h1, h2, h3, rfl⟩
      obtain ⟨y, hy, hyy⟩ := bindL_mem hl x hx
      cases hxx : x.x with
      | normal =>
        rw [hxx] at hy
        have := loopF_sound hb n x.t x.d x.h y hy R1 w1 a1 h2 h3
        refine roundsIn_mono ?_ n a1 w1 this
        intro e a2 w2 hl2
        exact hl2.trans h1 hyy
      | exit id =>
        rw [hxx] at hy
        simp only [Option.some.injEq] at hy
        subst hy
        exact ⟨x, hyy x (List.mem_singleton.2 rfl), R1, h1, h2, h3, by rw [hxx]⟩
      | ret =>
        rw [hxx] at hy
        simp only [Option.some.injEq] at hy
        subst hy
        exact ⟨x, hyy x (List.mem_singleton.2 rfl), R1, h1, h2, h3, by rw [hxx]⟩
    · cases hl

theorem PostT_lands {R : Emb} {h : AHeap} {w : World} {a : Act} {d : List Nat} {l : List (Frm × AHeap)} (ha : subD R d = some a.defers) :
    PostT R h w l a.defers (LandsC R h w (l.map fun y => ⟨.normal, y.1, d, y.2⟩) .normal) := by
  intro x hx R1 w1 t1 h1 h2 h3
  exact ⟨_, List.mem_map.2 ⟨x, hx, rfl⟩, R1, h1, h2, ⟨h3, subD_mono h1.le ha⟩, rfl⟩

theorem range_enter {P : Program} {R : Emb} {h : AHeap} {w : World} {t : Frm} {tmps : Array Value} (hr : Rel R h w) (ht : subL R t = some tmps.toList) (fn : FuncId) (ps : Array Tmp) (assign body : Code) :
    ∃ L D W2 R2, (Instr.enterLoop fn tmps ps assign body none).run P w = .ok (L, [{ target := .collected D, args := #[] }]) W2 ∧ R2 (h.next + 1) = some (L, 0) ∧ R2 h.next = some (D, 0) ∧
      Rel R2 ((h.add (.deferred true)).add (.loop .ready t ps.toList assign body)) W2 ∧ Ext R h w R2 ((h.add (.deferred true)).add (.loop .ready t ps.toList assign body)) W2 := by
  obtain ⟨r1, x1⟩ := hr.alloc (ob := .deferred true) (o := .deferred (some [])) (x := 0) rfl
  obtain ⟨r2, x2⟩ := r1.alloc (ob := .loop .ready t ps.toList assign body) (o := .loop { state := .ready, pending := none, fn := fn, tmps := tmps, params := ps, assign := assign, body := body, defers := w.heap.size }) (x := 0)
    ⟨fn, tmps.toList, w.heap.size, subL_mono x1.le _ _ ht, by simp⟩
  refine ⟨_, _, _, _, ?_, Emb.ins_self _ _ _, x2.le _ _ (Emb.ins_self R h.next (w.heap.size, 0)), r2, x1.trans x2⟩
  simp only [Instr.enterLoop, newObj, Sem.run_bind, Sem.run, Result.andThen_ok, Sem.run_pure]

theorem evStep_ok {E : Env} (hE : E.Ok) {wrap : CallF → CallF} (hwrap : ∀ c, CallFOk E c → CallFOk E (wrap c)) (n : Nat) {evn : EvF} (ih : EvOk E evn) : EvOk E (evStep E wrap n evn) := by
    intro f inR c t d h outs hs hpl ro R w a hro hr ha
    have hent := enterFrom_ok hE ih
    have hcall : CallFOk E (wrap (callFrom E (enterFrom E evn))) := hwrap _ (callFrom_ok hE hent)
    have hround := roundFrom_ok ih
    have one : ∀ (x : X1), LandsC R h w [⟨x, t, d, h⟩] x.out a w := fun x => ⟨_, List.mem_singleton.2 rfl, R, Ext.refl _ _ _, hr, ha, rfl⟩
    unfold evStep at hs
    split at hs
    · simp only [Option.some.injEq] at hs; subst hs; exact wpIn_skip (one .normal)
    · simp only [Option.some.injEq] at hs; subst hs; exact wpIn_label (one .normal)
    · simp only [Option.some.injEq] at hs; subst hs; exact wpIn_exit (one (.exit _))
    · simp only [Option.some.injEq] at hs; subst hs; exact wpIn_ret (one .ret)
    · simp only [regK, Option.map_eq_some_iff] at hs
      obtain ⟨l, hl, rfl⟩ := hs
      replace hl := evL_all hl
      exact wpIn_region (evOps_sound hcall hround _ t h l hl R w a hr ha.tmps (PostT_lands ha.defers))
    · cases inR with
      | true => cases hs
      | false =>
        simp only [cond_false, planK] at hs
        split at hs
        · rename_i p hp
          simp only [regK, Option.map_eq_some_iff] at hs
          obtain ⟨l, hl, rfl⟩ := hs
          replace hp := hpl rfl p hp
          cases ro with
          | some l => cases hro
          | none =>
            refine evDraw_sound hE hcall hp hl ?_ hr ha.tmps (PostT_lands ha.defers)
            rintro c a w ⟨x, hx, R1, _, _, _, he⟩
            cases hxx : x.x <;> rw [hxx] at he <;> cases he
        · cases hs
    · unfold evBind at hs
      split at hs
      · rename_i outs1 h1
        refine wpIn_seq (wpIn_mono (ih f inR _ t d h outs1 h1 (fun hi => (hpl hi).1) ro R w a hro hr ha) ?_)
        rintro e a1 w1 ⟨x, hx, R1, k1, k2, k3, rfl⟩
        obtain ⟨y, hy, hyy⟩ := bindL_mem hs x hx
        unfold seqK at hy
        cases hxx : x.x with
        | normal =>
          rw [hxx] at hy
          exact wpIn_mono (ih f inR _ x.t x.d x.h y hy (fun hi => (hpl hi).2) ro R1 w1 a1 hro k2 k3) fun e a2 w2 hl2 => hl2.trans k1 hyy
        | exit id =>
          rw [hxx] at hy
          simp only [Option.some.injEq] at hy
          subst hy
          exact ⟨x, hyy x (List.mem_singleton.2 rfl), R1, k1, k2, k3, by rw [hxx]⟩
        | ret =>
          rw [hxx] at hy
          simp only [Option.some.injEq] at hy
          subst hy
          exact ⟨x, hyy x (List.mem_singleton.2 rfl), R1, k1, k2, k3, by rw [hxx]⟩
      · cases hs
    · rename_i c x y
      have hbool : ∀ b, evalO t c = .bool b → a.eval c = .bool b := by
        intro b hb
        cases c with
        | tmp i =>
          have := evalO_fits ha.tmps (x := .tmp i) rfl
          rw [hb] at this
          exact sub_bool this
        | const v => simpa [evalO, Act.eval] using hb
        | global g => simp [evalO] at hb
        | func f => simp [evalO] at hb
      unfold condK at hs
      split at hs
      · rename_i hb; exact wpIn_cond_true (hbool _ hb) (ih f inR _ t d h outs hs (fun hi => (hpl hi).1) ro R w a hro hr ha)
      · rename_i hb; exact wpIn_cond_false (hbool _ hb) (ih f inR _ t d h outs hs (fun hi => (hpl hi).2) ro R w a hro hr ha)
      · cases hs
    · rename_i id c
      simp only [Option.map_eq_some_iff] at hs
      obtain ⟨l, hl, rfl⟩ := hs
      refine wpIn_block (wpIn_mono (ih f inR _ t d h l hl (fun hi => hpl hi) ro R w a hro hr ha) ?_)
      rintro e a1 w1 ⟨x, hx, R1, k1, k2, k3, rfl⟩
      have hm : catchX id x ∈ l.map (catchX id) := List.mem_map.2 ⟨x, hx, rfl⟩
      cases hxx : x.x with
      | normal => exact ⟨_, hm, R1, by unfold catchX; rw [hxx]; exact ⟨k1, k2, k3, by rw [hxx]⟩⟩
      | ret => exact ⟨_, hm, R1, by unfold catchX; rw [hxx]; exact ⟨k1, k2, k3, by rw [hxx]⟩⟩
      | exit i =>
        simp only [X1.out, Exit.inBlock]
        by_cases hi : i = id
        · rw [if_pos hi]
          refine ⟨_, hm, R1, ?_⟩
          unfold catchX
          rw [hxx]
          subst hi
          simp only [Nat.beq_refl, cond_true]
          exact ⟨k1, k2, k3, rfl⟩
        · rw [if_neg hi]
          refine ⟨_, hm, R1, ?_⟩
          unfold catchX
          rw [hxx]
          have : Nat.beq i id = false := Bool.eq_false_iff.2 fun e => hi (Nat.eq_of_beq_eq_true e)
          simp only [this, cond_false]
          exact ⟨k1, k2, k3, by rw [hxx]; rfl⟩
    · rename_i c
      exact wpIn_loop_rounds n (loopF_sound (fun t d h outs hb R w a hr ha => ih f inR c t d h outs hb (fun hi => hpl hi) ro R w a hro hr ha) n t d h outs hs R w a hr ha)
    · cases inR with
      | true => cases hs
      | false =>
        cases ro with
        | some l => cases hro
        | none =>
          have h1 := ih f false _ t d h outs hs (fun hi => hpl hi) none R w a rfl hr ha
          refine wpIn_wide.2 (wp_scope_straight ((wpIn_wide (n := 0)).1 (wpIn_mono h1 ?_)))
          intro e a1 w1 hl
          cases e with
          | goto g =>
            obtain ⟨x, hx, R1, _, _, _, he⟩ := hl
            cases hxx : x.x <;> rw [hxx] at he <;> cases he
          | _ => exact hl
    · rename_i g ps assign body
      cases inR with
      | true => cases hs
      | false =>
        cases ro with
        | some l => cases hro
        | none =>
          cases hok : okX g with
          | false => rw [hok] at hs; cases hs
          | true =>
            rw [hok] at hs
            simp only [Bool.not_true, Bool.or_self, cond_false, rangeK] at hs
            split at hs
            · rename_i fa hfa
              split at hs
              · rename_i vouts hv
                have hg := evalO_fits ha.tmps hok
                unfold rangeT at hfa
                split at hfa
                · rename_i gf b1 b2 hgv
                  simp only [Option.some.injEq] at hfa
                  subst hfa
                  rw [hgv] at hg
                  simp only [sub, subFn, Option.bind_some, Option.map_eq_some_iff, Option.bind_eq_some_iff] at hg
                  obtain ⟨a1', ha1, a2', ha2, hgg⟩ := hg
                  refine wpIn_rangeFunc ?_
                  intro fn _
                  obtain ⟨L, D, W2, R2, hen, hR2, hD, r2, hx12⟩ := range_enter (P := E.P) hr ha.tmps fn ps assign body
                  have hargs : subL R2 (b1.toList ++ (Value.func (.yield (h.next + 1)) #[] #[] :: b2.toList)) = some (a1'.toList ++ (Value.func (.yield L) #[] #[] :: a2'.toList)) :=
                    subL_append (subL_mono hx12.le _ _ (subA_toList ha1)) (subL_cons (by simp [sub, subFn, subA, subL, hR2]) (subL_mono hx12.le _ _ (subA_toList ha2)))
                  obtain ⟨hent1, hent2⟩ := hent gf _ _ vouts hv R2 _ _ r2 hargs
                  have hinv : ∀ (y : Value) (w : World), (invoke (.fn (.func gf) a2') (a1' ++ #[y])).run E.P w = (callFunc gf ⟨a1'.toList ++ (y :: a2'.toList)⟩).run E.P w := by
                    intro y w
                    simp only [invoke]
                    congr 1
                    congr 1
                    apply Array.ext'
                    simp
                  refine ⟨L, [{ target := .collected D, args := #[] }], W2, ⟨.fn (.func gf) a2', a1' ++ #[.func (.yield L) #[] #[]]⟩, W2, gf, _, W2, hen, ?_, ?_, (hinv _ _).trans hent1, ?_, ?_⟩
                  rotate_left 3
                  · refine CallsIn.mono (callsIn_wide.2 hent2) ?_
                    rintro e w3 ⟨v, rfl, out, hout, R3, k1, k2, k3⟩
                    obtain ⟨y, hy, hyy⟩ := bindL_mem hs out hout
                    unfold rangeEnd at hy
                    split at hy
                    · rename_i ts2 ps2 a2 b2 hg2
                      simp only [Option.some.injEq] at hy
                      subst hy
                      obtain ⟨w4, hb4, hx4, hr4⟩ := run_endLoop (P := E.P) k2 (k1.le _ _ hR2) hg2
                      have hle : Emb.le R R3 := fun i e he => k1.le _ _ (hx12.le _ _ he)
                      refine ⟨none, w4, hb4, _, hyy _ (List.mem_singleton.2 rfl), R3, (hx12.trans k1).trans hx4, hr4, ⟨subL_mono hle _ _ ha.tmps, ?_⟩, rfl⟩
                      have hd' := subD_mono hle ha.defers
                      simp only [subD, k1.le _ _ hD, hd', Option.bind_some, Option.map_some, List.cons_append, List.nil_append]
                    · cases hy
                  · have hm : Array.map a.eval #[Operand.const (Value.func (Fn.yield L) #[] #[])] = #[Value.func (Fn.yield L) #[] #[]] := by simp [Act.eval]
                    simp only [resolve, ← hgg, Deferred.ofValue, Sem.run_pure, hm]
                  · intro f' _; trivial
                  · intro hd; cases hd
                · cases hfa
              · cases hs
            · cases hs
    · cases hs

theorem ev_ok {E : Env} (hE : E.Ok) {wrap : CallF → CallF} (hwrap : ∀ c, CallFOk E c → CallFOk E (wrap c)) : ∀ n, EvOk E (ev E wrap n)
  | 0 => fun f inR c t d h outs hs => by cases hs
  | n + 1 => evStep_ok hE hwrap n (ev_ok hE hwrap n)
end Ev
end Go.Proofs.YthckkbhjocjmkaaGreatDoor
