/- The abstract run of a region that draws its order. -/
import Derived.Test.YthckkbhjocjmkaaGreatDoorEvG
import Derived.ControlIn
namespace Go.Proofs.YthckkbhjocjmkaaGreatDoor
namespace Ev

/-- A load that was taken first: its place in the region, its type, the pointer, what it gave. -/
structure Fact where
  k : Nat
  t : TypeId
  p : Value
  v : Value

/-- By its edges d waits for k. -/
def reach (ops : Array Oper) : Nat → Nat → Nat → Bool
  | 0, _, _ => false
  | n + 1, d, k => match ops[d]? with
    | some o => o.after.toList.any fun e => Region.binds .any e && (Nat.beq e.on k || reach ops n e.on k)
    | none => false

theorem reach_closed {ops : Array Oper} {L : Array Bool} (hC : Closed ops L) : ∀ (n d k : Nat), reach ops n d k = true → L.getD d false = true → L.getD k false = true
  | 0, _, _, h, _ => by cases h
  | n + 1, d, k, h, hl => by
    simp only [reach] at h
    split at h
    · rename_i o ho
      simp only [List.any_eq_true, Bool.and_eq_true, Bool.or_eq_true] at h
      obtain ⟨e, he, hb, h | h⟩ := h
      · have := hC d o ho hl e (by simpa using he) hb
        rw [← Nat.eq_of_beq_eq_true h]; exact this
      · exact reach_closed hC n _ k h (hC d o ho hl e (by simpa using he) hb)
    · cases h

structure CFact where
  k : Nat
  t : TypeId
  a : Addr
  v : Value

def CFact.holds (P : Program) (f : CFact) (w : World) : Prop := (loadVar f.t f.a).run P w = .ok f.v w

/-- Every load that was taken first still gives what it gave, or has been carried out. -/
def SF (P : Program) (ops : Array Oper) (cf : List CFact) (L : Array Bool) (w : World) : Prop :=
  ∀ f ∈ cf, (∃ d n, brkAt ops d = true ∧ L.getD d false = true ∧ reach ops n d f.k = true) ∨ f.holds P w

def FactRel (R : Emb) (f : Fact) (g : CFact) : Prop := g.k = f.k ∧ g.t = f.t ∧ sub R f.p = some (.pointer (some g.a)) ∧ sub R f.v = some g.v

inductive FactsRel (R : Emb) : List Fact → List CFact → Prop where
  | nil : FactsRel R [] []
  | cons {f g l m} : FactRel R f g → FactsRel R l m → FactsRel R (f :: l) (g :: m)

theorem FactsRel.mono {R R' : Emb} (h : Emb.le R R') {l : List Fact} {m : List CFact} (hl : FactsRel R l m) : FactsRel R' l m := by
  induction hl with
  | nil => exact .nil
  | cons hf _ ih => exact .cons ⟨hf.1, hf.2.1, sub_mono h _ _ hf.2.2.1, sub_mono h _ _ hf.2.2.2⟩ ih
theorem FactsRel.mem {R : Emb} {l : List Fact} {m : List CFact} (hl : FactsRel R l m) : ∀ g ∈ m, ∃ f ∈ l, FactRel R f g := by
  induction hl with
  | nil => intro g hg; cases hg
  | cons hf _ ih =>
    intro g hg
    rcases List.mem_cons.1 hg with rfl | hg
    · exact ⟨_, List.mem_cons_self, hf⟩
    · obtain ⟨f, hf, h⟩ := ih g hg
      exact ⟨f, List.mem_cons_of_mem _ hf, h⟩

def factHolds (P : Program) (h : AHeap) (f : Fact) : Bool :=
  match eLoad P h f.t f.p with
  | some v => veq v f.v
  | none => false

/-- The facts that are still asked after step d. -/
def factOk (P : Program) (ops : Array Oper) (d : Nat) (h : AHeap) (f : Fact) : Bool :=
  cond (factHolds P h f) true (reach ops ops.size d f.k && brkAt ops d)

theorem factHolds_run {P : Program} {h : AHeap} {f : Fact} (hf : factHolds P h f = true) {R : Emb} {w : World} {g : CFact} (hr : Rel R h w) (hg : FactRel R f g) : g.holds P w := by
  unfold factHolds at hf
  split at hf
  · rename_i v hv
    have := veq_eq _ _ hf
    subst this
    obtain ⟨hk, ht, hp, hvv⟩ := hg
    cases hpp : f.p with
    | pointer p =>
      rw [hpp] at hv hp
      obtain _ | ⟨i, off, _ | s⟩ := p
      · simp [eLoad] at hv
      · simp only [sub, Option.map_eq_some_iff] at hp
        obtain ⟨e, he, hp⟩ := hp
        obtain ⟨v', hrun, hs⟩ := loadVar_run hr he hv
        rw [hvv] at hs
        cases hs
        simp only [Value.pointer.injEq, Option.some.injEq] at hp
        unfold CFact.holds
        rw [ht, ← hp]
        exact hrun
      · simp [eLoad] at hv
    | _ => rw [hpp] at hv; simp [eLoad] at hv
  · cases hf

section
variable {P : Program} {ops : Array Oper}

theorem SF.set {cf : List CFact} {L : Array Bool} {w : World} {i : Nat} (h : SF P ops cf L w) : SF P ops cf (L.setIfInBounds i true) w := by
  intro f hf
  rcases h f hf with ⟨d, n, h1, h2, h3⟩ | h
  · exact .inl ⟨d, n, h1, getD_set_true h2, h3⟩
  · exact .inr h
theorem SF.set_iff {cf : List CFact} {i : Nat} (hb : brkAt ops i = false) (L : Array Bool) (w : World) : SF P ops cf (L.setIfInBounds i true) w ↔ SF P ops cf L w := by
  refine ⟨fun h f hf => ?_, SF.set⟩
  rcases h f hf with ⟨d, n, h1, h2, h3⟩ | h
  · refine .inl ⟨d, n, h1, ?_, h3⟩
    rcases getD_set_self' h2 with rfl | h2
    · rw [hb] at h1; cases h1
    · exact h2
  · exact .inr h
theorem SF.tail {g : CFact} {cf : List CFact} {L : Array Bool} {w : World} (h : SF P ops (g :: cf) L w) : SF P ops cf L w := fun f hf => h f (List.mem_cons_of_mem _ hf)
end


/-! ### What is taken first -/
def take1 (E : Env) (ops : Array Oper) (j : Nat) (o : Oper) (fs : List Fact) (t : Frm) (h : AHeap) : Option (List Fact × Value) :=
  cond (Region.wanted o (yieldedL ops t))
    (cond (okOps o)
      (match pop E.P (evalO t) o with
      | some v => some (fs, v)
      | none => match o.op with
        | .load ty x => match eLoad E.P h ty (evalO t x) with
          | some v => some (⟨j, ty, evalO t x, v⟩ :: fs, v)
          | none => none
        | _ => none) none)
    (some (fs, undef))

theorem take1_sound {E : Env} {ops : Array Oper} {j : Nat} {o : Oper} {fs fs' : List Fact} {t : Frm} {h : AHeap} {v : Value} (he : take1 E ops j o fs t h = some (fs', v)) {R : Emb} {w : World} {a : Act} {cf : List CFact}
    {L : Array Bool} (hr : Rel R h w) (ht : subL R t = some a.tmps.toList) (hf : FactsRel R fs cf) (hS : SF E.P ops cf L w) :
    ∃ cf' v', sub R v = some v' ∧ FactsRel R fs' cf' ∧ SF E.P ops cf' L w ∧ (∀ L w, SF E.P ops cf' L w → SF E.P ops cf L w) ∧ YieldsIf E.P ops (fun w => ∀ g ∈ cf', g.k = j → g.holds E.P w) o v' a := by
  unfold take1 at he
  cases hw : Region.wanted o (yieldedL ops t) with
  | false =>
    rw [hw] at he
    simp only [cond_false, Option.some.injEq, Prod.mk.injEq] at he
    obtain ⟨rfl, rfl⟩ := he
    exact ⟨cf, undef, rfl, hf, hS, fun _ _ h => h, .inr ⟨by rw [yielded_eq ht]; exact hw, rfl⟩⟩
  | true =>
    rw [hw] at he
    simp only [cond_true] at he
    have hw' : Region.wanted o (yielded ops a.tmps) = true := by rw [yielded_eq ht]; exact hw
    cases hok : okOps o with
    | false => rw [hok] at he; cases he
    | true =>
      rw [hok] at he
      simp only [cond_true] at he
      have hfit := fits_of ht hok
      split at he
      · rename_i v hpv
        simp only [Option.some.injEq, Prod.mk.injEq] at he
        obtain ⟨rfl, rfl⟩ := he
        obtain ⟨v', hrun, hsub⟩ := (pop_sound hpv).run hfit
        exact ⟨cf, v', hsub, hf, hS, fun _ _ h => h, .inl ⟨hw', fun w _ => hrun w⟩⟩
      · split at he
        · rename_i ty x hop
          split at he
          · rename_i v hl
            simp only [Option.some.injEq, Prod.mk.injEq] at he
            obtain ⟨rfl, rfl⟩ := he
            obtain ⟨dst, op, oty, pos, after, guard⟩ := o
            simp only at hop
            subst hop
            have ha := hfit x (by simp [Op.operands])
            cases hv : evalO t x with
            | pointer q =>
              rw [hv] at ha hl
              obtain _ | ⟨b, off, _ | s⟩ := q
              · simp [eLoad] at hl
              · have ha0 := ha
                simp only [sub, Option.map_eq_some_iff] at ha
                obtain ⟨e, heR, ha⟩ := ha
                obtain ⟨v', hrun, hs⟩ := loadVar_run hr heR hl
                refine ⟨⟨j, ty, ⟨e.1, off, none⟩, v'⟩ :: cf, v', hs, .cons ⟨rfl, rfl, ?_, hs⟩ hf, ?_, fun _ _ h => h.tail, .inl ⟨hw', ?_⟩⟩
                · rw [ha0, ← ha]
                · intro f hff
                  rcases List.mem_cons.1 hff with rfl | hff
                  · exact .inr hrun
                  · exact hS f hff
                · intro w hh
                  have hrun' : (loadVar ty ⟨e.1, off, none⟩).run E.P w = .ok v' w := hh _ List.mem_cons_self rfl
                  simp only [execOp, Instr.loadAt, ← ha, Instr.sureAddr, Sem.run_bind, Sem.run_pure, Result.andThen_ok, hrun']
              · simp [eLoad] at hl
            | _ => rw [hv] at hl; simp [eLoad] at hl
          · cases he
        · cases he

/-- One operation is taken first; a value may already stand in a temporary that it has nothing to do with. -/
theorem take_step {P : Program} {ops : Array Oper} (hns : Region.noSelect ops = true) {Q : Exit → Act → World → Prop} (hQ0 : ∀ c a w, ¬ Q (.panic c) a w) {cf cf' : List CFact} {n : Nat} {L : Array Bool} {b : Act} {w : World}
    {j : Nat} {o : Oper} {v' vx : Value} {dx : Option Tmp} (ho : ops[j]? = some o) (hCl : Closed ops L) (hj : j ∈ Region.ready .any ops L) (hbrk : brkAt ops j = false) (hfree : Region.free .any ops L j = true)
    (hd1 : ∀ d, dx = some d → d ∉ o.looksAt ops) (hd2 : ∀ d, dx = some d → o.dst ≠ some d)
    (hS : SF P ops cf' L w) (hmono : ∀ L w, SF P ops cf' L w → SF P ops cf L w) (hy : YieldsIf P ops (fun w => ∀ g ∈ cf', g.k = j → g.holds P w) o v' b)
    (h : wpAnyS P ops Q (SF P ops cf') n (L.setIfInBounds j true) ((b.put o.dst v').put dx vx) w) : wpAnyS P ops Q (SF P ops cf) (n + 1) L (b.put dx vx) w := by
  refine wpAnyS_mono hmono _ _ _ _ ?_
  have hsel : ∀ cs k, o.op ≠ .select cs k := fun cs k => Region.noSelect_spec hns j o cs k ho
  have hy' : YieldsIf P ops (fun w => ∀ g ∈ cf', g.k = j → g.holds P w) o v' (b.put dx vx) :=
    hy.of_same (execOp_put o hsel b dx vx hd1) (wanted_put o b dx vx hd1)
  refine wpAnyS_first ho (Region.noSelect_spec hns) (fun c a w h => absurd h (hQ0 c _ w)) (fun L w => SF.set_iff hbrk L w) ?_ n L _ w hCl (Region.free_spec ho hfree) hj hy' hS ?_
  · intro L w hCl hLj hS g hg hk
    rcases hS g hg with ⟨d, m, h1, h2, h3⟩ | h
    · have h4 := reach_closed hCl m d g.k h3 h2
      rw [hk] at h4
      exfalso
      rcases Nat.lt_or_ge j L.size with h' | h'
      · simp [h'] at hLj h4; rw [h4] at hLj; cases hLj
      · simp [Array.getElem?_eq_none h'] at h4
    · exact h
  · rw [Act.put_comm b vx v' hd2]; exact h

def evMid (E : Env) (ops : Array Oper) : List Nat → List Fact → Frm → AHeap → Option (List Fact × Frm)
  | [], fs, t, _ => some (fs, t)
  | j :: ms, fs, t, h => match ops[j]? with
    | none => none
    | some o => match take1 E ops j o fs t h with
      | some x => evMid E ops ms x.1 (putL t o.dst x.2) h
      | none => none

theorem mid_sound {E : Env} {ops : Array Oper} (hns : Region.noSelect ops = true) {Q : Exit → Act → World → Prop} (hQ0 : ∀ c a w, ¬ Q (.panic c) a w) {oi : Oper} {dx : Option Tmp} {vx : Value} (hdx : ∀ d, dx = some d → oi.dst = some d)
    {h : AHeap} {R : Emb} {w : World} (hr : Rel R h w) {n : Nat} : ∀ (ms : List Nat) (L L' : Array Bool), midOk ops oi ms L = some L' → Closed ops L → ∀ (fs fs' : List Fact) (t t' : Frm), evMid E ops ms fs t h = some (fs', t') →
      ∀ (b : Act) (cf : List CFact), subL R t = some b.tmps.toList → FactsRel R fs cf → SF E.P ops cf L w →
      (∀ (b' : Act) (cf' : List CFact), subL R t' = some b'.tmps.toList → b'.defers = b.defers → FactsRel R fs' cf' → SF E.P ops cf' L' w → Closed ops L' → wpAnyS E.P ops Q (SF E.P ops cf') n L' (b'.put dx vx) w) →
      wpAnyS E.P ops Q (SF E.P ops cf) (n + ms.length) L (b.put dx vx) w
  | [], L, L', hm, hCl, fs, fs', t, t', he, b, cf, ht, hf, hS, hK => by
    simp only [midOk, Option.some.injEq] at hm
    simp only [evMid, Option.some.injEq, Prod.mk.injEq] at he
    obtain ⟨rfl, rfl⟩ := he
    subst hm
    exact hK b cf ht rfl hf hS hCl
  | j :: ms, L, L', hm, hCl, fs, fs', t, t', he, b, cf, ht, hf, hS, hK => by
    simp only [midOk] at hm
    split at hm
    · rename_i o ho
      cases hb : ((Region.ready .any ops L).contains j && (Region.free .any ops L j && (!(brkAt ops j) && oi.apart ops o))) with
      | false => rw [hb] at hm; cases hm
      | true =>
        rw [hb] at hm
        simp only [cond_true] at hm
        simp only [Bool.and_eq_true, Bool.not_eq_true', List.contains_iff_mem] at hb
        obtain ⟨hj, hfree, hbrk, hap⟩ := hb
        simp only [evMid, ho] at he
        split at he
        · rename_i x hx
          obtain ⟨h1, h2, h3⟩ := Oper.apart_spec hap
          obtain ⟨cf1, v', hv, hf1, hS1, hmono, hy⟩ := take1_sound (E := E) (fs' := x.1) (v := x.2) hx hr ht hf hS
          have e : n + (j :: ms).length = (n + ms.length) + 1 := by simp only [List.length_cons]; omega
          rw [e]
          refine take_step hns hQ0 ho hCl hj hbrk hfree (fun d hd => h1 d (hdx d hd)) (fun d hd => h2 d (hdx d hd)) hS1 hmono hy ?_
          refine mid_sound hns hQ0 hdx hr ms _ L' hm (hCl.set hj) x.1 fs' _ t' he (b.put o.dst v') cf1 (putL_sub ht hv o.dst) hf1 ((SF.set_iff hbrk L w).2 hS1) ?_
          intro b' cf' k1 k2 k3 k4 k5
          exact hK b' cf' k1 (k2.trans (put_defers b o.dst v')) k3 k4 k5
        · cases he
    · cases hm

/-! ### A block whose number was kept free -/
/-- One more number is kept free. -/
def AHeap.skip (h : AHeap) : AHeap := { h with next := h.next + 1 }
theorem AHeap.get_skip (h : AHeap) (i : Nat) : h.skip.get i = h.get i := rfl
theorem Rel.skip {R : Emb} {h : AHeap} {w : World} (hr : Rel R h w) : Rel R h.skip w := ⟨hr.dom, hr.inj, fun i e he => Nat.lt_succ_of_lt (hr.fresh i e he)⟩

theorem Rel.allocAt {R : Emb} {h : AHeap} {w : World} (hr : Rel R h w) {r : Nat} (hRr : R r = none) (hg : h.get r = none) (hlt : r < h.next) {ob : AObj} {o : Obj} {x : Nat} (ho : ObjRel R x ob o) :
    Rel (R.ins r (w.heap.size, x)) (h.put r (some ob)) { w with heap := w.heap.push o } := by
  have hle : Emb.le R (R.ins r (w.heap.size, x)) := Emb.le_ins hRr
  have old : ∀ i oi e, h.get i = some oi → R i = some e → e.1 < w.heap.size := fun i oi e hi he => by
    obtain ⟨e', o', he', hw, _⟩ := hr.dom _ _ hi
    rw [he] at he'; cases he'
    exact (Array.getElem?_eq_some_iff.1 hw).1
  refine ⟨?_, ?_, ?_⟩
  · intro i oi hi
    rw [AHeap.get_put] at hi
    by_cases hin : i = r
    · subst hin
      rw [if_pos rfl] at hi; cases hi
      exact ⟨_, o, Emb.ins_self _ _ _, by simp, ho.mono hle⟩
    · rw [if_neg hin] at hi
      obtain ⟨e, o', he, hw, hob⟩ := hr.dom _ _ hi
      refine ⟨e, o', hle _ _ he, ?_, hob.mono hle⟩
      have := old i oi e hi he
      simp only [Array.getElem?_push]
      rw [if_neg (by omega)]; exact hw
  · intro i j e f oi oj hi hj he hf hef
    rw [AHeap.get_put] at hi hj
    by_cases hin : i = r
    · by_cases hjn : j = r
      · rw [hin, hjn]
      · rw [if_neg hjn] at hj
        rw [hin, Emb.ins_self] at he; cases he
        rw [Emb.ins_ne _ _ hjn] at hf
        have := old j oj f hj hf
        simp only at hef; omega
    · rw [if_neg hin] at hi
      rw [Emb.ins_ne _ _ hin] at he
      by_cases hjn : j = r
      · rw [hjn, Emb.ins_self] at hf; cases hf
        have := old i oi e hi he
        simp only at hef; omega
      · rw [if_neg hjn] at hj
        rw [Emb.ins_ne _ _ hjn] at hf
        exact hr.inj i j e f oi oj hi hj he hf hef
  · intro i e he
    by_cases hin : i = r
    · subst hin; exact hlt
    · rw [Emb.ins_ne _ _ hin] at he
      exact hr.fresh _ _ he

/-- A new block that has a number, and of which nothing is known yet. -/
theorem Rel.pushed {R : Emb} {h : AHeap} {w : World} (hr : Rel R h w) (o : Obj) (x : Nat) : Rel (R.ins h.next (w.heap.size, x)) h.skip { w with heap := w.heap.push o } := by
  have hle : Emb.le R (R.ins h.next (w.heap.size, x)) := Emb.le_ins hr.none_next
  have ne : ∀ {i oi}, h.get i = some oi → i ≠ h.next := fun {i oi} hi hin => by rw [hin, hr.none_get] at hi; cases hi
  refine ⟨?_, ?_, ?_⟩
  · intro i oi hi
    obtain ⟨e, o', he, hw, hob⟩ := hr.dom _ _ hi
    have hlt := (Array.getElem?_eq_some_iff.1 hw).1
    refine ⟨e, o', hle _ _ he, ?_, hob.mono hle⟩
    simp only [Array.getElem?_push]
    rw [if_neg (by omega)]; exact hw
  · intro i j e f oi oj hi hj he hf hef
    rw [Emb.ins_ne _ _ (ne hi)] at he
    rw [Emb.ins_ne _ _ (ne hj)] at hf
    exact hr.inj i j e f oi oj hi hj he hf hef
  · intro i e he
    by_cases hin : i = h.next
    · subst hin; exact Nat.lt_succ_self _
    · rw [Emb.ins_ne _ _ hin] at he
      exact Nat.lt_succ_of_lt (hr.fresh _ _ he)

/-- A block that no number of h stands for is taken in. -/
theorem Rel.adopt {R : Emb} {h : AHeap} {w : World} (hr : Rel R h w) {r : Nat} {e : Nat × Nat} (hR : R r = some e) (hno : ∀ j oj f, h.get j = some oj → R j = some f → f.1 ≠ e.1) {ob : AObj} {o : Obj}
    (hw : w.heap[e.1]? = some o) (ho : ObjRel R e.2 ob o) : Rel R (h.put r (some ob)) w := by
  refine ⟨?_, ?_, hr.fresh⟩
  · intro i oi hi
    rw [AHeap.get_put] at hi
    by_cases hin : i = r
    · subst hin
      rw [if_pos rfl] at hi; cases hi
      exact ⟨e, o, hR, hw, ho⟩
    · rw [if_neg hin] at hi; exact hr.dom _ _ hi
  · intro i j f g oi oj hi hj hf hg hfg
    rw [AHeap.get_put] at hi hj
    by_cases hin : i = r
    · by_cases hjn : j = r
      · rw [hin, hjn]
      · rw [if_neg hjn] at hj
        rw [hin, hR] at hf; cases hf
        exact absurd hfg.symm (hno j oj g hj hg)
    · rw [if_neg hin] at hi
      by_cases hjn : j = r
      · rw [hjn, hR] at hg; cases hg
        exact absurd hfg (hno i oi f hi hf)
      · rw [if_neg hjn] at hj
        exact hr.inj i j f g oi oj hi hj hf hg hfg

def zeroRow (P : Program) (elem : TypeId) : Option (List Value) :=
  match (P.info? elem).bind (·.zero) with
  | some z => cond (clo z) (some z.cells.toList) none
  | none => none

theorem zeroRow_run {P : Program} {elem : TypeId} {cs : List Value} (hz : zeroRow P elem = some cs) {dst : Option Tmp} {ty : TypeId} {pos : String} {after : Array Edge} {guard : Option (Nat × Bool)} (ρ : Operand → Value) (w : World) :
    (∀ R, subL R cs = some cs) ∧ (execOp ρ ⟨dst, .alloc elem, ty, pos, after, guard⟩).run P w = .ok (.value (.pointer (some ⟨w.heap.size, 0, none⟩))) { w with heap := w.heap.push (.cells ⟨cs⟩ elem (0, 0)) } := by
  unfold zeroRow at hz
  split at hz
  · rename_i z hzz
    cases hc : clo z with
    | false => rw [hc] at hz; cases hz
    | true =>
      rw [hc] at hz
      simp only [cond_true, Option.some.injEq] at hz
      subst hz
      refine ⟨fun R => subA_toList (sub_cells (sub_clo R z hc)), ?_⟩
      have hz' : (zeroValue elem).run P w = .ok z w := qv_run (by rw [qv_zeroValue]; exact hzz) w
      simp only [execOp, Instr.alloc, Sem.run_bind, hz', Result.andThen_ok, newVar, newRow, run_newObj, Sem.run_pure]
  · cases hz

/-! ### The plan is gone through -/
def evPlan (E : Env) (callF : CallF) (ops : Array Oper) : List PStep → List Fact → Frm → AHeap → Option (List (Frm × AHeap))
  | [], _, t, h => some [(t, h)]
  | .take j :: ps, fs, t, h => match ops[j]? with
    | none => none
    | some o => match take1 E ops j o fs t h with
      | some x => evPlan E callF ops ps x.1 (putL t o.dst x.2) h
      | none => none
  | .go i :: ps, fs, t, h => match ops[i]? with
    | none => none
    | some o => cond (Region.wanted o (yieldedL ops t))
      (match stepOp E callF (fun _ _ _ => none) t h o with
      | some outs => bindL outs fun x => cond (fs.all (factOk E.P ops i x.2)) (evPlan E callF ops ps fs (putL t o.dst x.1) x.2) none
      | none => none)
      (evPlan E callF ops ps fs (putL t o.dst undef) h)
  | .duo c i ms :: ps, fs, t, h => match ops[c]?, ops[i]? with
    | some oc, some oi => match oi.op with
      | .alloc elem => match zeroRow E.P elem with
        | some cs => cond (Region.wanted oc (yieldedL ops t) && fs.all (factOk E.P ops i h.skip))
          (match stepOp E callF (fun _ _ _ => none) t h.skip oc with
          | some outs => bindL outs fun x => cond (fs.all (factOk E.P ops c x.2))
            (match x.2.get h.next with
            | some _ => none
            | none => match evMid E ops ms fs (putL t oc.dst x.1) x.2 with
              | some y => cond (y.1.all (factOk E.P ops i (x.2.put h.next (some (.row cs elem 0)))))
                (evPlan E callF ops ps y.1 (putL y.2 oi.dst (.pointer (some ⟨h.next, 0, none⟩))) (x.2.put h.next (some (.row cs elem 0)))) none
              | none => none) none
          | none => none) none
        | none => none
      | _ => none
    | _, _ => none

theorem facts_hold {E : Env} {ops : Array Oper} {fs : List Fact} {cf : List CFact} {R : Emb} {h : AHeap} {w : World} {j : Nat} {L : Array Bool} (hf : FactsRel R fs cf) (hr : Rel R h w) (hfa : fs.all (factOk E.P ops j h) = true)
    (hj : j < L.size) : SF E.P ops cf (L.setIfInBounds j true) w := by
  intro g hg
  obtain ⟨f, hff, hfr⟩ := hf.mem g hg
  have h1 := List.all_eq_true.1 hfa f hff
  unfold factOk at h1
  cases hfh : factHolds E.P h f with
  | true => exact .inr (factHolds_run hfh hr hfr)
  | false =>
    rw [hfh] at h1
    simp only [cond_false, Bool.and_eq_true] at h1
    exact .inl ⟨j, ops.size, h1.2, by simp [hj], by rw [hfr.1]; exact h1.1⟩

theorem ready_lt {ops : Array Oper} {L : Array Bool} {j : Nat} (h : j ∈ Region.ready .any ops L) : j < L.size := by
  have hLj := (mem_ready.1 h).1
  rcases Nat.lt_or_ge j L.size with h' | h'
  · exact h'
  · simp [Array.getElem?_eq_none h'] at hLj

theorem evPlan_sound {E : Env} {callF : CallF} (hC : CallFOk E callF) {ops : Array Oper} (hns : Region.noSelect ops = true) {Q : Exit → Act → World → Prop} (hQ0 : ∀ c a w, ¬ Q (.panic c) a w) :
    ∀ (n : Nat) (L : Array Bool) (p : List PStep), planGo ops n L = some p → Closed ops L → ∀ (N : Nat), weight p ≤ N → ∀ (fs : List Fact) (t : Frm) (h : AHeap) (outs : List (Frm × AHeap)), evPlan E callF ops p fs t h = some outs →
      ∀ (R : Emb) (w : World) (a : Act) (cf : List CFact), Rel R h w → subL R t = some a.tmps.toList → FactsRel R fs cf → SF E.P ops cf L w →
      PostT R h w outs a.defers (Q .normal) → wpAnyS E.P ops Q (SF E.P ops cf) N L a w := by
  have hno : RoundFOk E false (fun _ _ _ => none) := by intro l args h outs hh; cases hh
  intro n
  induction n with
  | zero =>
    intro L p hp hCl N hN fs t h outs he R w a cf hr ht hf hS hQ
    rcases planGo_spec hp with ⟨rfl, hre⟩ | ⟨m, i, p', hn, _⟩ | ⟨m, i, p', hn, _⟩ | ⟨m, c, i, ms, L', p', hn, _⟩
    · simp only [evPlan, Option.some.injEq] at he
      subst he
      have hq := hQ _ (List.mem_singleton.2 rfl) R w a.tmps (Ext.refl _ _ _) hr ht
      cases N with
      | zero => exact ⟨hre, hq⟩
      | succ N => exact ⟨fun _ => hq, by rw [hre]; intro i hi; cases hi⟩
    all_goals cases hn
  | succ n ih =>
    intro L p hp hCl N hN fs t h outs he R w a cf hr ht hf hS hQ
    rcases planGo_spec hp with ⟨rfl, hre⟩ | ⟨m, i, p', hn, rfl, hi, hbrk, hfree, hp'⟩ | ⟨m, i, p', hn, rfl, hi, hp'⟩ | ⟨m, c, i, ms, L', p', hn, rfl, hi, hduo, hp'⟩
    · simp only [evPlan, Option.some.injEq] at he
      subst he
      have hq := hQ _ (List.mem_singleton.2 rfl) R w a.tmps (Ext.refl _ _ _) hr ht
      cases N with
      | zero => exact ⟨hre, hq⟩
      | succ N => exact ⟨fun _ => hq, by rw [hre]; intro i hi; cases hi⟩
    · cases hn
      obtain ⟨N, rfl⟩ : ∃ N', N = N' + 1 := ⟨N - 1, by simp only [weight] at hN; omega⟩
      have hN' : weight p' ≤ N := by simp only [weight] at hN; omega
      obtain ⟨hLi, o, ho, hall⟩ := mem_ready.1 hi
      simp only [evPlan, ho] at he
      split at he
      · rename_i x hx
        obtain ⟨cf', v', hv, hf', hS', hmono, hy⟩ := take1_sound (E := E) (fs' := x.1) (v := x.2) hx hr ht hf hS
        refine take_step (dx := none) (vx := undef) hns hQ0 ho hCl hi hbrk hfree (fun d hd => by cases hd) (fun d hd => by cases hd) hS' hmono hy ?_
        refine ih _ p' hp' (hCl.set hi) N hN' x.1 _ h outs he R w (a.put o.dst v') cf' hr (putL_sub ht hv o.dst) hf' ((SF.set_iff hbrk L w).2 hS') ?_
        rw [put_defers]; exact hQ
      · cases he
    · cases hn
      obtain ⟨N, rfl⟩ : ∃ N', N = N' + 1 := ⟨N - 1, by simp only [weight] at hN; omega⟩
      have hN' : weight p' ≤ N := by simp only [weight] at hN; omega
      have hi' : i ∈ Region.ready .any ops L := by rw [hi]; exact List.mem_singleton.2 rfl
      obtain ⟨hLi, o, ho, hall⟩ := mem_ready.1 hi'
      simp only [evPlan, ho] at he
      refine ⟨fun h => (by rw [hi] at h; cases h), fun j hj => ?_⟩
      rw [hi] at hj
      obtain rfl := List.mem_singleton.1 hj
      unfold wpOp
      simp only [ho, yielded_eq ht]
      cases hw : Region.wanted o (yieldedL ops t) with
      | false =>
        rw [hw] at he
        simp only [cond_false] at he
        simp only [Bool.false_eq_true, if_false]
        refine ⟨hS.set, ih _ p' hp' (hCl.set hi') N hN' fs _ h outs he R w (a.put o.dst undef) cf hr (putL_sub ht rfl o.dst) hf hS.set ?_⟩
        rw [put_defers]; exact hQ
      | true =>
        rw [hw] at he
        simp only [cond_true] at he
        simp only [if_true]
        split at he
        · rename_i souts hs
          refine .inl (wp_of_res (stepOp_sound (rb := false) hC hno hs hr ht) ?_)
          rintro v' w' ⟨x, hx, R', hext, hrel, hsub⟩
          obtain ⟨y, hy, hyy⟩ := bindL_mem he x hx
          cases hfa : fs.all (factOk E.P ops j x.2) with
          | false => rw [hfa] at hy; cases hy
          | true =>
            rw [hfa] at hy
            simp only [cond_true] at hy
            have hf' := hf.mono hext.le
            have hS' := facts_hold (L := L) hf' hrel hfa (ready_lt hi')
            refine ⟨hS', ih _ p' hp' (hCl.set hi') N hN' fs _ _ y hy R' w' (a.put o.dst v') cf hrel (putL_sub (subL_mono hext.le _ _ ht) hsub o.dst) hf' hS' ?_⟩
            intro z hz R1 w1 t1 h1 h2 h3
            rw [put_defers]
            exact hQ z (hyy z hz) R1 w1 t1 (hext.trans h1) h2 h3
        · cases he
    · cases hn
      obtain ⟨N, rfl⟩ : ∃ N', N = N' + ms.length + 2 := ⟨N - (ms.length + 2), by simp only [weight] at hN; omega⟩
      have hN' : weight p' ≤ N := by simp only [weight] at hN; omega
      obtain ⟨oc, oi, LU, hoc, hoi, hal, hcb, hap, hmU, hmX, hrU, hrX, hLL⟩ := duoOk_spec hduo
      have hci : c ∈ Region.ready .any ops L := (hi c).2 (.inl rfl)
      have hii : i ∈ Region.ready .any ops L := (hi i).2 (.inr rfl)
      simp only [evPlan, hoc, hoi] at he
      split at he
      rotate_left
      · cases he
      rename_i elem hop
      split at he
      rotate_left
      · cases he
      rename_i cs hcs
      cases hwf : (Region.wanted oc (yieldedL ops t) && fs.all (factOk E.P ops i h.skip)) with
      | false => rw [hwf] at he; cases he
      | true =>
        rw [hwf] at he
        simp only [cond_true] at he
        simp only [Bool.and_eq_true] at hwf
        obtain ⟨hwc, hfi⟩ := hwf
        split at he
        rotate_left
        · cases he
        rename_i souts hs
        obtain ⟨ha1, ha2, ha3⟩ := Oper.apart_spec hap
        have hgi : oi.guard = none := by
          unfold isAlloc at hal
          split at hal
          · assumption
          · cases hal
        have hwi : ∀ y, Region.wanted oi y = true := fun y => by simp [Region.wanted, hgi]
        have hselc : ∀ cs k, oc.op ≠ .select cs k := fun cs k => Region.noSelect_spec hns c oc cs k hoc
        refine ⟨fun h0 => (by rw [h0] at hci; cases hci), fun j hj => ?_⟩
        rcases (hi j).1 hj with rfl | rfl
        · -- the call first
          unfold wpOp
          simp only [hoc, yielded_eq ht, hwc, if_true]
          refine .inl (wp_of_res (stepOp_sound (rb := false) hC hno hs hr.skip ht) ?_)
          rintro v' w' ⟨x, hx, R', hext, hrel, hsub⟩
          obtain ⟨y, hy, hyy⟩ := bindL_mem he x hx
          cases hfa : fs.all (factOk E.P ops j x.2) with
          | false => rw [hfa] at hy; cases hy
          | true =>
            rw [hfa] at hy
            simp only [cond_true] at hy
            split at hy
            · cases hy
            · rename_i hgn
              split at hy
              rotate_left
              · cases hy
              rename_i z hz
              cases hfz : z.1.all (factOk E.P ops i (x.2.put h.next (some (.row cs elem 0)))) with
              | false => rw [hfz] at hy; cases hy
              | true =>
                rw [hfz] at hy
                simp only [cond_true] at hy
                have hf' := hf.mono hext.le
                have hS' := facts_hold (L := L) hf' hrel hfa (ready_lt hci)
                have hRr : R' h.next = none := by
                  cases hh : R' h.next with
                  | none => rfl
                  | some e =>
                    rcases hext.new _ _ hh with h1 | h1
                    · rw [hr.none_next] at h1; cases h1
                    · exact absurd h1 (Nat.not_succ_le_self _)
                refine ⟨hS', ?_⟩
                have e1 : N + ms.length + 1 = (N + 1) + ms.length := by omega
                rw [e1]
                have hmid := mid_sound (E := E) (Q := Q) (n := N + 1) hns hQ0 (oi := oi) (dx := none) (vx := undef) (fun d hd => by cases hd) hrel ms _ LU hmU (hCl.set hci) fs z.1 _ z.2 hz (a.put oc.dst v') cf
                  (putL_sub (subL_mono hext.le _ _ ht) hsub oc.dst) hf' hS'
                refine hmid ?_
                intro b' cf' k1 k2 k3 k4 k5
                refine ⟨fun h0 => (by rw [hrU] at h0; cases h0), fun j' hj' => ?_⟩
                rw [hrU] at hj'
                obtain rfl := List.mem_singleton.1 hj'
                have hj'' : j' ∈ Region.ready .any ops LU := by rw [hrU]; exact List.mem_singleton.2 rfl
                unfold wpOp
                simp only [hoi, hwi, if_true]
                refine .inl ?_
                obtain ⟨dst, op, oty, pos, after, guard⟩ := oi
                simp only at hop
                subst hop
                obtain ⟨hcl, hrun⟩ := zeroRow_run (P := E.P) hcs (dst := dst) (ty := oty) (pos := pos) (after := after) (guard := guard) (Act.eval (b'.put none undef)) w'
                unfold Oper.wp
                rw [hrun]
                simp only [Oper.upon]
                have hnx : h.next < x.2.next := Nat.lt_of_lt_of_le (Nat.lt_succ_self _) hext.next
                have hrel2 := hrel.allocAt hRr hgn hnx (ob := .row cs elem 0) (o := .cells ⟨cs⟩ elem (0, 0)) (x := 0) ⟨cs, [], hcl _, rfl, by simp⟩
                have hle2 : Emb.le R' (R'.ins h.next (w'.heap.size, 0)) := Emb.le_ins hRr
                have k3' := k3.mono hle2
                have hS2 := facts_hold (E := E) (ops := ops) (L := LU) k3' hrel2 hfz (ready_lt hj'')
                refine ⟨hS2, ?_⟩
                have hext2 : Ext R h w (R'.ins h.next (w'.heap.size, 0)) (x.2.put h.next (some (.row cs elem 0))) { w' with heap := w'.heap.push (.cells ⟨cs⟩ elem (0, 0)) } := by
                  have hsz : w.heap.size ≤ w'.heap.size := hext.size
                  refine ⟨fun i e hh => hle2 _ _ (hext.le _ _ hh), Nat.le_trans (Nat.le_succ _) hext.next, by simp; omega, ?_, ?_, hext.os, hext.output, hext.tape, ?_⟩
                  · rintro b ⟨q, oq, f, hq, hfq, rfl⟩
                    rw [AHeap.get_put] at hq
                    by_cases hqn : q = h.next
                    · rw [hqn, Emb.ins_self] at hfq; cases hfq; exact .inl hsz
                    · rw [if_neg hqn] at hq
                      rw [Emb.ins_ne _ _ hqn] at hfq
                      exact hext.own _ ⟨q, oq, f, hq, hfq, rfl⟩
                  · intro b hb hn
                    simp only [Array.getElem?_push]
                    rw [if_neg (by omega)]
                    exact hext.same b hb hn
                  · intro q f hq
                    by_cases hqn : q = h.next
                    · exact .inr (Nat.le_of_eq hqn.symm)
                    · rw [Emb.ins_ne _ _ hqn] at hq
                      rcases hext.new _ _ hq with h1 | h1
                      · exact .inl h1
                      · exact .inr (Nat.le_trans (Nat.le_succ _) h1)
                rw [hLL] at hS2 ⊢
                have hCl' : Closed ops L' := hLL ▸ k5.set hj''
                refine ih L' p' hp' hCl' N hN' z.1 _ _ y hy _ _ _ cf' hrel2 (putL_sub (v := .pointer (some ⟨h.next, 0, none⟩)) (v' := .pointer (some ⟨w'.heap.size, 0, none⟩)) (a := b'.put none undef) (subL_mono hle2 _ _ k1) (by simp [sub, Emb.ins_self]) dst) k3' hS2 ?_
                intro u hu R1 w1 t1 h1 h2 h3
                rw [put_defers]
                have := hQ u (hyy u hu) R1 w1 t1 (hext2.trans h1) h2 h3
                rw [show (b'.put none undef).defers = a.defers from k2.trans (put_defers a oc.dst v')]
                exact this
        · -- the new block first
          unfold wpOp
          simp only [hoi, hwi, if_true]
          refine .inl ?_
          have hoi' : oi = ⟨oi.dst, .alloc elem, oi.type, oi.pos, oi.after, oi.guard⟩ := by rw [← hop]
          obtain ⟨hcl, hrun0⟩ := zeroRow_run (P := E.P) hcs (dst := oi.dst) (ty := oi.type) (pos := oi.pos) (after := oi.after) (guard := oi.guard) a.eval w
          rw [← hoi'] at hrun0
          unfold Oper.wp
          rw [hrun0]
          simp only [Oper.upon]
          have hle1 : Emb.le R (R.ins h.next (w.heap.size, 0)) := Emb.le_ins hr.none_next
          have hrel1 := hr.pushed (.cells ⟨cs⟩ elem (0, 0)) 0
          have hold : ∀ q oq e, h.get q = some oq → R q = some e → e.1 < w.heap.size := fun q oq e hq he => by
            obtain ⟨e', o', he', hw, _⟩ := hr.dom _ _ hq
            rw [he] at he'; cases he'
            exact (Array.getElem?_eq_some_iff.1 hw).1
          have hnq : ∀ {q oq}, h.get q = some oq → q ≠ h.next := fun {q oq} hq hqn => by rw [hqn, hr.none_get] at hq; cases hq
          have hf1 := hf.mono hle1
          have hS1 := facts_hold (E := E) (ops := ops) (L := L) hf1 hrel1 hfi (ready_lt hii)
          refine ⟨hS1, ?_⟩
          refine ⟨fun h0 => (by rw [hrX] at h0; cases h0), fun j' hj' => ?_⟩
          have hcX : c ∈ Region.ready .any ops (L.setIfInBounds j true) := by rw [hrX]; exact List.mem_singleton.2 rfl
          rw [hrX] at hj'
          obtain rfl := List.mem_singleton.1 hj'
          unfold wpOp
          simp only [hoc, wanted_put oc a oi.dst _ ha1, yielded_eq ht, hwc, if_true]
          have ht1 := subL_mono hle1 _ _ ht
          have hop1 := stepOp_sound (rb := false) hC hno hs hrel1 ht1
          rw [← execOp_put oc hselc a oi.dst (.pointer (some ⟨w.heap.size, 0, none⟩)) ha1] at hop1
          refine .inl (wp_of_res hop1 ?_)
          rintro v' w' ⟨x, hx, R', hext, hrel, hsub⟩
          obtain ⟨y, hy, hyy⟩ := bindL_mem he x hx
          cases hfa : fs.all (factOk E.P ops j' x.2) with
          | false => rw [hfa] at hy; cases hy
          | true =>
            rw [hfa] at hy
            simp only [cond_true] at hy
            split at hy
            · cases hy
            · rename_i hgn
              split at hy
              rotate_left
              · cases hy
              rename_i z hz
              cases hfz : z.1.all (factOk E.P ops j (x.2.put h.next (some (.row cs elem 0)))) with
              | false => rw [hfz] at hy; cases hy
              | true =>
                rw [hfz] at hy
                simp only [cond_true] at hy
                have hf' := hf1.mono hext.le
                have hS' := facts_hold (L := L.setIfInBounds j true) hf' hrel hfa (ready_lt hcX)
                refine ⟨hS', ?_⟩
                rw [Act.put_comm a _ v' ha2]
                have hmid := mid_sound (E := E) (Q := Q) (n := N) hns hQ0 (oi := oi) (dx := oi.dst) (vx := .pointer (some ⟨w.heap.size, 0, none⟩)) (fun d hd => hd) hrel ms _ L' hmX ((hCl.set hii).set hcX) fs z.1 _ z.2 hz (a.put oc.dst v') cf
                  (putL_sub (subL_mono hext.le _ _ ht1) hsub oc.dst) hf' hS'
                refine hmid ?_
                intro b' cf' k1 k2 k3 k4 k5
                have hRr : R' h.next = some (w.heap.size, 0) := hext.le _ _ (Emb.ins_self _ _ _)
                have hnoOwn : ¬ Owns (R.ins h.next (w.heap.size, 0)) h.skip w.heap.size := by
                  rintro ⟨q, oq, f, hq, hfq, hff⟩
                  have hq' : h.get q = some oq := hq
                  rw [Emb.ins_ne _ _ (hnq hq')] at hfq
                  have := hold q oq f hq' hfq
                  omega
                have hb1 : w.heap.size < (w.heap.push (Obj.cells ⟨cs⟩ elem (0, 0))).size := by simp
                have hblk : w'.heap[w.heap.size]? = some (.cells ⟨cs⟩ elem (0, 0)) := by
                  rw [hext.same w.heap.size hb1 hnoOwn]; simp
                have hrel2 : Rel R' (x.2.put h.next (some (.row cs elem 0))) w' := by
                  refine hrel.adopt hRr ?_ hblk ⟨cs, [], hcl _, rfl, by simp⟩
                  intro q oq f hq hfq hff
                  rcases hext.own f.1 ⟨q, oq, f, hq, hfq, rfl⟩ with h1 | h1
                  · rw [hff] at h1
                    exact absurd h1 (Nat.not_le_of_lt hb1)
                  · rw [hff] at h1
                    exact hnoOwn h1
                have hext2 : Ext R h w R' (x.2.put h.next (some (.row cs elem 0))) w' := by
                  have hsz : (w.heap.push (Obj.cells ⟨cs⟩ elem (0, 0))).size ≤ w'.heap.size := hext.size
                  have hsz' : w.heap.size + 1 ≤ w'.heap.size := by simpa using hsz
                  refine ⟨fun i e hh => hext.le _ _ (hle1 _ _ hh), Nat.le_trans (Nat.le_succ _) hext.next, by omega, ?_, ?_, hext.os, hext.output, hext.tape, ?_⟩
                  · rintro b ⟨q, oq, f, hq, hfq, rfl⟩
                    rw [AHeap.get_put] at hq
                    by_cases hqn : q = h.next
                    · rw [hqn, hRr] at hfq; cases hfq; exact .inl (Nat.le_refl _)
                    · rw [if_neg hqn] at hq
                      rcases hext.own _ ⟨q, oq, f, hq, hfq, rfl⟩ with h1 | ⟨q2, oq2, f2, hq2, hf2, hff2⟩
                      · exact .inl (Nat.le_trans (Nat.le_of_lt hb1) h1)
                      · have hq2' : h.get q2 = some oq2 := hq2
                        rw [Emb.ins_ne _ _ (hnq hq2')] at hf2
                        exact .inr ⟨q2, oq2, f2, hq2', hf2, hff2⟩
                  · intro b hb hn
                    have : (w.heap.push (Obj.cells ⟨cs⟩ elem (0, 0)))[b]? = w.heap[b]? := by
                      simp only [Array.getElem?_push]
                      rw [if_neg (by omega)]
                    rw [← this]
                    refine hext.same b (Nat.lt_trans hb hb1) ?_
                    rintro ⟨q2, oq2, f2, hq2, hf2, hff2⟩
                    have hq2' : h.get q2 = some oq2 := hq2
                    rw [Emb.ins_ne _ _ (hnq hq2')] at hf2
                    exact hn ⟨q2, oq2, f2, hq2', hf2, hff2⟩
                  · intro q f hq
                    rcases hext.new _ _ hq with h1 | h1
                    · exact new_ins _ _ _ h1
                    · exact .inr (Nat.le_trans (Nat.le_succ _) h1)
                refine ih L' p' hp' k5 N hN' z.1 _ _ y hy R' w' _ cf' hrel2 (putL_sub (v := .pointer (some ⟨h.next, 0, none⟩)) (v' := .pointer (some ⟨w.heap.size, 0, none⟩)) (a := b') k1 (by simp [sub, hRr]) oi.dst) k3 k4 ?_
                intro u hu R1 w1 t1 h1 h2 h3
                rw [put_defers, k2, put_defers]
                exact hQ u (hyy u hu) R1 w1 t1 (hext2.trans h1) h2 h3

/-- A region that draws, outside rounds. -/
theorem evDraw_sound {E : Env} (hE : E.Ok) {callF : CallF} (hC : CallFOk E callF) {ops : Array Oper} {p : List PStep} (hp : plan ops = some p) {t : Frm} {h : AHeap} {outs : List (Frm × AHeap)}
    (he : evPlan E callF ops p [] t h = some outs) {Q : Exit → Act → World → Prop} (hQ0 : ∀ c a w, ¬ Q (.panic c) a w) {R : Emb} {w : World} {a : Act} {id n : Nat} (hr : Rel R h w) (ht : subL R t = some a.tmps.toList)
    (hQ : PostT R h w outs a.defers (Q .normal)) : (Code.region id ops true).wpIn Fence.wide n E.P Q a w := by
  refine wpIn_wide.2 (wp_region_any hE.mixed (wpAnyS_any _ _ _ _ (S := SF E.P ops []) ?_))
  unfold plan at hp
  cases hns : Region.noSelect ops with
  | false => rw [hns] at hp; cases hp
  | true =>
    rw [hns] at hp
    simp only [cond_true] at hp
    split at hp
    rotate_left
    · cases hp
    rename_i p1 hp1
    cases hwt : Nat.ble (weight p1) ops.size with
    | false => rw [hwt] at hp; cases hp
    | true =>
    rw [hwt] at hp
    simp only [cond_true, Option.some.injEq] at hp
    subst hp
    obtain ⟨hr', hx'⟩ := hr.drawn (w.drawn + 1)
    refine evPlan_sound hC hns hQ0 ops.size _ p1 hp1 ?_ ops.size (Nat.le_of_ble_eq_true hwt) [] t h outs he R _ a [] hr' ht .nil (fun f hf => by cases hf) ?_
    · intro j oj _ hl
      simp only [Array.getD_eq_getD_getElem?, Array.getElem?_replicate] at hl
      split at hl <;> cases hl
    · intro z hz R1 w1 t1 h1 h2 h3
      exact hQ z hz R1 w1 t1 (hx'.trans h1) h2 h3
end Ev
end Go.Proofs.YthckkbhjocjmkaaGreatDoor
