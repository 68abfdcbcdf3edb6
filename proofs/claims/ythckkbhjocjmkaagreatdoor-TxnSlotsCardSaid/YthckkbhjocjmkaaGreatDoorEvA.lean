/- The operations of the abstract run on maps and iterators. -/
import Derived.Test.YthckkbhjocjmkaaGreatDoorEv9
namespace Go.Proofs.YthckkbhjocjmkaaGreatDoor
namespace Ev

/-- How many bytes a key of this type has, if it is an array of bytes. -/
def keyT? (P : Program) (kt : TypeId) : Option Nat :=
  match P.underlying kt with
  | some (.array n e) => match P.underlying e, P.info? e with
    | some (.int .u8), some i => cond (Nat.beq i.size 1) (some n) none
    | _, _ => none
  | _ => none
theorem keyT?_spec {P : Program} {kt : TypeId} {n : Nat} (h : keyT? P kt = some n) : ∃ e i, KeyT P kt n e i := by
  unfold keyT? at h
  split at h
  · rename_i m e ha
    split at h
    · rename_i i he hi
      cases hb : Nat.beq i.size 1 with
      | false => rw [hb] at h; cases h
      | true =>
        rw [hb] at h
        simp only [cond_true, Option.some.injEq] at h
        subst h
        exact ⟨e, i, ha, he, hi, Nat.eq_of_beq_eq_true hb⟩
    · cases h
  · cases h

theorem subEs_get {R : Emb} : ∀ {l l' : List MapEntry} (_ : subEs R l = some l') (i : Nat), (∀ x, l[i]? = some x → ∃ x', l'[i]? = some x' ∧ subE R x = some x') ∧ (l[i]? = none → l'[i]? = none)
  | [], l', h, i => by simp only [subEs, Option.some.injEq] at h; subst h; exact ⟨fun x hx => by simp at hx, fun h => h⟩
  | y :: l, l', h, i => by
    simp only [subEs, Option.map_eq_some_iff, Option.bind_eq_some_iff] at h
    obtain ⟨y', hy, l'', hl, rfl⟩ := h
    cases i with
    | zero => exact ⟨fun x hx => by simp only [List.getElem?_cons_zero, Option.some.injEq] at hx; subst hx; exact ⟨y', rfl, hy⟩, fun h => by simp at h⟩
    | succ i => simpa using subEs_get hl i
theorem subE_born {R : Emb} {x x' : MapEntry} (h : subE R x = some x') : x'.born = x.born := by
  simp only [subE, Option.map_eq_some_iff, Option.bind_eq_some_iff] at h
  obtain ⟨k, hk, v, hv, rfl⟩ := h
  rfl
theorem subEs_filter {R : Emb} (p : Nat → Bool) : ∀ {l l' : List MapEntry}, subEs R l = some l' → subEs R (l.filter fun x => p x.born) = some (l'.filter fun x => p x.born)
  | [], l', h => by simp only [subEs, Option.some.injEq] at h; subst h; rfl
  | y :: l, l', h => by
    simp only [subEs, Option.map_eq_some_iff, Option.bind_eq_some_iff] at h
    obtain ⟨y', hy, l'', hl, rfl⟩ := h
    have hb := subE_born hy
    simp only [List.filter_cons, hb]
    split
    · simp only [subEs, hy, Option.bind_some, subEs_filter p hl, Option.map_some]
    · exact subEs_filter p hl
theorem subEs_all {R : Emb} (p : Nat → Bool) : ∀ {l l' : List MapEntry}, subEs R l = some l' → (l'.all fun x => p x.born) = l.all fun x => p x.born
  | [], l', h => by simp only [subEs, Option.some.injEq] at h; subst h; rfl
  | y :: l, l', h => by
    simp only [subEs, Option.map_eq_some_iff, Option.bind_eq_some_iff] at h
    obtain ⟨y', hy, l'', hl, rfl⟩ := h
    simp only [List.all_cons, subE_born hy, subEs_all p hl]
theorem subEs_find {R : Emb} (p : Nat → Bool) : ∀ {l l' : List MapEntry} {x : MapEntry}, subEs R l = some l' → (l.find? fun x => p x.born) = some x → ∃ x', (l'.find? fun x => p x.born) = some x' ∧ subE R x = some x'
  | [], l', x, h, hx => by simp at hx
  | y :: l, l', x, h, hx => by
    simp only [subEs, Option.map_eq_some_iff, Option.bind_eq_some_iff] at h
    obtain ⟨y', hy, l'', hl, rfl⟩ := h
    simp only [List.find?_cons, subE_born hy] at hx ⊢
    split at hx
    · simp only [Option.some.injEq] at hx; subst hx; exact ⟨y', rfl, hy⟩
    · exact subEs_find p hl hx
theorem subEs_append {R : Emb} : ∀ {a a' b b' : List MapEntry}, subEs R a = some a' → subEs R b = some b' → subEs R (a ++ b) = some (a' ++ b')
  | [], a', b, b', ha, hb => by simp only [subEs, Option.some.injEq] at ha; subst ha; simpa using hb
  | y :: a, a', b, b', ha, hb => by
    simp only [subEs, Option.map_eq_some_iff, Option.bind_eq_some_iff] at ha
    obtain ⟨y', hy, l'', hl, rfl⟩ := ha
    simp only [List.cons_append, subEs, hy, Option.bind_some, subEs_append hl hb, Option.map_some]
theorem subEs_isEmpty {R : Emb} {l l' : List MapEntry} (h : subEs R l = some l') : l'.isEmpty = l.isEmpty := by
  have := subEs_length h
  cases l <;> cases l' <;> simp_all

/-- What lies at a known number that is no row. -/
theorem Rel.map {P : Program} {R : Emb} {h : AHeap} {w : World} (hr : Rel R h w) {r : Nat} {e : Nat × Nat} (he : R r = some e) {es : List MapEntry} {k : Nat} (hg : h.get r = some (.map es k)) :
    ∃ es', subEs R es = some es' ∧ w.heap[e.1]? = some (.map ⟨es'⟩ k) ∧ (getObj e.1).run P w = .ok (.map ⟨es'⟩ k) w := by
  obtain ⟨e', o, he', hw, hob⟩ := hr.dom _ _ hg
  rw [he] at he'; cases he'
  obtain ⟨es', hs, rfl⟩ := hob
  exact ⟨es', hs, hw, by simp only [getObj, Sem.run, hw]⟩
theorem Rel.mapIter {P : Program} {R : Emb} {h : AHeap} {w : World} (hr : Rel R h w) {r : Nat} {e : Nat × Nat} (he : R r = some e) {m : Option Nat} {a b : Nat} {s : List Nat} (hg : h.get r = some (.mapIter m a s b)) :
    ∃ m', subNat? R m = some m' ∧ w.heap[e.1]? = some (.mapIter m' a ⟨s⟩ b) ∧ (getObj e.1).run P w = .ok (.mapIter m' a ⟨s⟩ b) w := by
  obtain ⟨e', o, he', hw, hob⟩ := hr.dom _ _ hg
  rw [he] at he'; cases he'
  obtain ⟨m', hs, rfl⟩ := hob
  exact ⟨m', hs, hw, by simp only [getObj, Sem.run, hw]⟩
theorem Rel.stringIter {P : Program} {R : Emb} {h : AHeap} {w : World} (hr : Rel R h w) {r : Nat} {e : Nat × Nat} (he : R r = some e) {s : ByteArray} {p : Nat} (hg : h.get r = some (.stringIter s p)) :
    w.heap[e.1]? = some (.stringIter s p) ∧ (getObj e.1).run P w = .ok (.stringIter s p) w := by
  obtain ⟨e', o, he', hw, hob⟩ := hr.dom _ _ hg
  rw [he] at he'; cases he'
  simp only [ObjRel] at hob
  subst hob
  exact ⟨hw, by simp only [getObj, Sem.run, hw]⟩
def noCells : Obj → Bool
  | .cells .. => false
  | _ => true
theorem run_setObj {P : Program} {w : World} {b : Nat} {o o' : Obj} (hw : w.heap[b]? = some o) (ho : noCells o = true) :
    ∃ w', (setObj b o').run P w = .ok () w' ∧ Turned w w' b o' := by
  have hlt := (Array.getElem?_eq_some_iff.1 hw).1
  refine ⟨{ w with heap := w.heap.setIfInBounds b o' }, ?_, ⟨by simp, by simp [hlt], fun k hk => by simp [Array.getElem?_setIfInBounds_ne (Ne.symm hk)], rfl, rfl, rfl⟩⟩
  cases o <;> simp [noCells] at ho <;> simp only [setObj, Sem.run, hw]

section
variable {P : Program} {ρ : Operand → Value} {dst : Option Tmp} {ty : TypeId} {pos : String} {after : Array Edge} {guard : Option (Nat × Bool)} {h : AHeap}

/-! ### Looking a key up -/
def eLookup (P : Program) (h : AHeap) (t : TypeId) (x k : Value) (ok : Bool) : Option Value :=
  match P.underlying t with
  | some (.map kt et) =>
    match keyT? P kt, keyOf1 k with
    | some n, some ns =>
      match (match x with
        | .map none => some ([] : List MapEntry)
        | .map (some r) => match h.get r with
          | some (.map es _) => some es
          | _ => none
        | _ => none) with
      | some es =>
        cond (Nat.beq ns.length n) (match findE n ns es 0 with
          | some (some (_, v)) => some (if ok then .tuple #[v, .bool true] else v)
          | some none => match (P.info? et).bind (·.zero) with
            | some z => cond (clo z) (some (if ok then .tuple #[z, .bool false] else z)) none
            | none => none
          | none => none) none
      | none => none
    | _, _ => none
  | _ => none

theorem eff_lookup {t : TypeId} {x k : Operand} {ok : Bool} {v : Value} (hl : eLookup P h t (ρ x) (ρ k) ok = some v) : Eff P ⟨dst, .lookup t x k ok, ty, pos, after, guard⟩ ρ h [(some v, h)] := by
  intro R ρ' w hf hr
  have hx := hf x (by simp [Op.operands])
  have hk := hf k (by simp [Op.operands])
  refine ⟨_, List.mem_singleton.2 rfl, R, w, Ext.refl _ _ _, hr, ?_⟩
  unfold eLookup at hl
  split at hl
  · rename_i kt et hu
    split at hl
    · rename_i n ns hkt hns
      obtain ⟨e, i, K⟩ := keyT?_spec hkt
      have hke := keyOf1_eq hns
      have hk' := sub_key hns hk
      split at hl
      · rename_i es hes
        cases hb : Nat.beq ns.length n with
        | false => rw [hb] at hl; cases hl
        | true =>
          rw [hb] at hl
          simp only [cond_true] at hl
          have hlen := Nat.eq_of_beq_eq_true hb
          -- the entries
          have hents : ∃ es' : List MapEntry, subEs R es = some es' ∧ ((ρ' x = .map none ∧ es' = []) ∨ ∃ b clock, ρ' x = .map (some b) ∧ (getObj b).run P w = .ok (.map ⟨es'⟩ clock) w) := by
            split at hes
            · rename_i hxv
              rw [hxv] at hx
              simp only [sub, Option.some.injEq] at hx hes
              subst hes
              exact ⟨[], rfl, .inl ⟨hx.symm, rfl⟩⟩
            · rename_i r hxv
              rw [hxv] at hx
              simp only [sub, Option.map_eq_some_iff] at hx
              obtain ⟨e0, he0, hx⟩ := hx
              split at hes
              · rename_i es0 kk hg
                simp only [Option.some.injEq] at hes
                subst hes
                obtain ⟨es', hs, _, hrun⟩ := hr.map (P := P) he0 hg
                exact ⟨es', hs, .inr ⟨_, _, hx.symm, hrun⟩⟩
              · cases hes
            · cases hes
          obtain ⟨es', hs, hcases⟩ := hents
          have hck := fun em => run_checkKey_bytes (w := w) K em hlen
          split at hl
          · rename_i j u hfe
            obtain ⟨r', hfk, hrel⟩ := findKey_run (w := w) K hlen hs hfe
            obtain ⟨u', rfl, hu'⟩ := hrel
            simp only [Option.some.injEq] at hl
            subst hl
            refine ⟨if ok then .tuple #[u', .bool true] else u', ?_, ?_⟩
            · rcases hcases with ⟨hxe, rfl⟩ | ⟨b, clock, hxe, hrun⟩
              · simp only [execOp, Instr.lookup, Sem.run_bind, run_underlying hu, Result.andThen_ok, hxe, Sem.run_pure]
                rw [hk', hke]
                simp only [hck, Result.andThen_ok, hfk, Sem.run_pure, Sem.run_bind]
              · simp only [execOp, Instr.lookup, Sem.run_bind, run_underlying hu, Result.andThen_ok, hxe, hrun]
                rw [hk', hke]
                simp only [Sem.run_pure, Sem.run_bind, hck, Result.andThen_ok, hfk]
            · cases ok
              · exact hu'
              · simp [sub, subA, subL, hu']
          · rename_i hfe
            obtain ⟨r', hfk, hrel⟩ := findKey_run (w := w) K hlen hs hfe
            simp only [FindRel] at hrel
            subst hrel
            split at hl
            · rename_i z hz
              cases hc : clo z with
              | false => rw [hc] at hl; cases hl
              | true =>
                rw [hc] at hl
                simp only [cond_true, Option.some.injEq] at hl
                subst hl
                have hzv : (zeroValue et).run P w = .ok z w := qv_run (by rw [qv_zeroValue]; exact hz) w
                refine ⟨if ok then .tuple #[z, .bool false] else z, ?_, ?_⟩
                · rcases hcases with ⟨hxe, rfl⟩ | ⟨b, clock, hxe, hrun⟩
                  · simp only [execOp, Instr.lookup, Sem.run_bind, run_underlying hu, Result.andThen_ok, hxe, Sem.run_pure]
                    rw [hk', hke]
                    simp only [hck, Result.andThen_ok, hfk, hzv, Sem.run_pure, Sem.run_bind]
                  · simp only [execOp, Instr.lookup, Sem.run_bind, run_underlying hu, Result.andThen_ok, hxe, hrun]
                    rw [hk', hke]
                    simp only [Sem.run_pure, Sem.run_bind, hck, Result.andThen_ok, hfk, hzv]
                · cases ok
                  · exact sub_clo R z hc
                  · simp [sub, subA, subL, sub_clo R z hc]
            · cases hl
          · cases hl
      · cases hl
    · cases hl
  · cases hl

/-! ### Storing under a key -/
theorem sameBits_bytes (d : Nat) (ns : List Int) : Instr.sameBits (d + 2) (.agg ⟨ns.map (Value.int .u8)⟩) (.agg ⟨ns.map (Value.int .u8)⟩) = true := by
  rw [show d + 2 = (d + 1) + 1 from rfl, Instr.sameBits]
  simp only [BEq.rfl, Bool.true_and]
  induction ns with
  | nil => rfl
  | cons n ns ih => simp only [List.map_cons, List.zip_cons_cons, List.all_cons, Instr.sameBits, BEq.rfl, Bool.and_self, Bool.true_and]; exact ih

def eMapUpdate (P : Program) (h : AHeap) (t : TypeId) (m k v : Value) : Option AHeap :=
  match P.underlying t, m with
  | some (.map kt _), .map (some r) =>
    match keyT? P kt, keyOf1 k, h.get r with
    | some n, some ns, some (.map es clock) =>
      cond (Nat.beq ns.length n) (match findE n ns es 0 with
        | some (some (j, _)) => some (h.put r (some (.map (es.modify j fun x => { x with key := k, val := v }) clock)))
        | some none => some (h.put r (some (.map (es ++ [{ key := k, val := v, born := clock }]) (clock + 1))))
        | none => none) none
    | _, _, _ => none
  | _, _ => none

theorem findE_at {n : Nat} {ns : List Int} : ∀ {es : List MapEntry} {j k : Nat} {v : Value}, findE n ns es j = some (some (k, v)) → ∃ x, es[k - j]? = some x ∧ j ≤ k ∧ keyOf1 x.key = some ns
  | [], j, k, v, h => by simp [findE] at h
  | x :: es, j, k, v, h => by
    simp only [findE] at h
    split at h
    · rename_i ms hms
      cases hb : Nat.beq ms.length n with
      | false => rw [hb] at h; cases h
      | true =>
        rw [hb] at h
        simp only [cond_true] at h
        by_cases he : ns = ms
        · rw [if_pos he] at h
          simp only [Option.some.injEq, Prod.mk.injEq] at h
          obtain ⟨rfl, _⟩ := h
          exact ⟨x, by simp, Nat.le_refl _, he ▸ hms⟩
        · rw [if_neg he] at h
          obtain ⟨y, hy, hle, hk⟩ := findE_at h
          refine ⟨y, ?_, by omega, hk⟩
          rw [show k - j = (k - (j + 1)) + 1 from by omega]
          simpa using hy
    · cases h

theorem subEs_modify {R : Emb} {k k' v v' : Value} (hk : sub R k = some k') (hv : sub R v = some v') : ∀ {l l' : List MapEntry} (_ : subEs R l = some l') (j : Nat),
    subEs R (l.modify j fun x => { x with key := k, val := v }) = some (l'.modify j fun x => { x with key := k', val := v' })
  | [], l', h, j => by simp only [subEs, Option.some.injEq] at h; subst h; cases j <;> rfl
  | y :: l, l', h, j => by
    simp only [subEs, Option.map_eq_some_iff, Option.bind_eq_some_iff] at h
    obtain ⟨y', hy, l'', hl, rfl⟩ := h
    cases j with
    | zero => simp only [List.modify_zero_cons, subEs, subE, hk, hv, Option.bind_some, Option.map_some, hl, subE_born hy]
    | succ j => simp only [List.modify_succ_cons, subEs, hy, Option.bind_some, subEs_modify hk hv hl j, Option.map_some]

theorem eff_mapUpdate {t : TypeId} {m k v : Operand} {h' : AHeap} (hl : eMapUpdate P h t (ρ m) (ρ k) (ρ v) = some h') : Eff P ⟨dst, .mapUpdate t m k v, ty, pos, after, guard⟩ ρ h [(none, h')] := by
  intro R ρ' w hf hr
  have hm := hf m (by simp [Op.operands])
  have hk := hf k (by simp [Op.operands])
  have hv := hf v (by simp [Op.operands])
  refine ⟨_, List.mem_singleton.2 rfl, R, ?_⟩
  unfold eMapUpdate at hl
  split at hl
  · rename_i kt et r hu hmv
    rw [hmv] at hm
    simp only [sub, Option.map_eq_some_iff] at hm
    obtain ⟨e0, he0, hm⟩ := hm
    split at hl
    · rename_i n ns es clock hkt hns hg
      obtain ⟨e, i, K⟩ := keyT?_spec hkt
      have hke := keyOf1_eq hns
      have hk' := sub_key hns hk
      cases hb : Nat.beq ns.length n with
      | false => rw [hb] at hl; cases hl
      | true =>
        rw [hb] at hl
        simp only [cond_true] at hl
        have hlen := Nat.eq_of_beq_eq_true hb
        obtain ⟨es', hs, hwb, hrun⟩ := hr.map (P := P) he0 hg
        have hck := fun em => run_checkKey_bytes (w := w) K em hlen
        split at hl
        · rename_i j u hfe
          obtain ⟨r', hfk, hrel⟩ := findKey_run (w := w) K hlen hs hfe
          obtain ⟨u', rfl, hu'⟩ := hrel
          obtain ⟨x, hx, _, hxk⟩ := findE_at hfe
          simp only [Nat.sub_zero] at hx
          obtain ⟨x', hx', hxs⟩ := (subEs_get hs j).1 x hx
          have hxk' : x'.key = .agg ⟨ns.map (Value.int .u8)⟩ := by
            simp only [subE, Option.map_eq_some_iff, Option.bind_eq_some_iff] at hxs
            obtain ⟨kk, hkk, vv, _, rfl⟩ := hxs
            rw [sub_key hxk hkk]; exact keyOf1_eq hxk
          simp only [Option.some.injEq] at hl
          subst hl
          obtain ⟨w', hset, ht⟩ := run_setObj (P := P) (o' := .map ⟨es'.modify j fun x => { x with key := ρ' k, val := ρ' v }⟩ clock) hwb rfl
          have hres := hr.turn hg he0 ht (ob' := .map (es.modify j fun x => { x with key := ρ k, val := ρ v }) clock) ⟨_, subEs_modify hk hv hs j, rfl⟩
          refine ⟨w', hres.2, hres.1, ?_⟩
          have hset' : (setObj e0.1 (.map (Array.modify ⟨es'⟩ j fun x => { x with key := .agg ⟨ns.map (Value.int .u8)⟩, val := ρ' v }) clock)).run P w = .ok () w' := by
            rw [← hset, hk', hke]; simp [List.modify_toArray]
          simp only [execOp, Instr.mapUpdate, Sem.run_bind, run_underlying hu, Result.andThen_ok, ← hm, hrun]
          rw [hk', hke]
          simp only [hck, Result.andThen_ok, hfk, Instr.keyThatStays, List.getElem?_toArray, hx', Option.map_some, Option.getD_some, hxk']
          have hsb : Instr.sameBits 10000 (.agg ⟨ns.map (Value.int .u8)⟩) (.agg ⟨ns.map (Value.int .u8)⟩) = true := sameBits_bytes 9998 ns
          simp only [hsb, if_true, Sem.run_pure, Sem.run_bind, Result.andThen_ok, hset']
        · rename_i hfe
          obtain ⟨r', hfk, hrel⟩ := findKey_run (w := w) K hlen hs hfe
          simp only [FindRel] at hrel
          subst hrel
          simp only [Option.some.injEq] at hl
          subst hl
          obtain ⟨w', hset, ht⟩ := run_setObj (P := P) (o' := .map ⟨es' ++ [{ key := ρ' k, val := ρ' v, born := clock }]⟩ (clock + 1)) hwb rfl
          have hres := hr.turn hg he0 ht (ob' := .map (es ++ [{ key := ρ k, val := ρ v, born := clock }]) (clock + 1))
            ⟨_, subEs_append hs (by simp only [subEs, subE, hk, hv, Option.bind_some, Option.map_some]), rfl⟩
          refine ⟨w', hres.2, hres.1, ?_⟩
          have hset' : (setObj e0.1 (.map (Array.push ⟨es'⟩ { key := .agg ⟨ns.map (Value.int .u8)⟩, val := ρ' v, born := clock }) (clock + 1))).run P w = .ok () w' := by
            rw [← hset, hk', hke]; simp
          simp only [execOp, Instr.mapUpdate, Sem.run_bind, run_underlying hu, Result.andThen_ok, ← hm, hrun]
          rw [hk', hke]
          simp only [hck, Result.andThen_ok, hfk, hset', Sem.run_pure]
        · cases hl
    · cases hl
  · cases hl
end
end Ev
end Go.Proofs.YthckkbhjocjmkaaGreatDoor
