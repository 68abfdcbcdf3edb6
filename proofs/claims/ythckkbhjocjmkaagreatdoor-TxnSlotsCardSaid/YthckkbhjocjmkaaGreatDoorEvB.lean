/- The operations of the abstract run on iterators. -/
import Derived.Test.YthckkbhjocjmkaaGreatDoorEvA
namespace Go.Proofs.YthckkbhjocjmkaaGreatDoor
namespace Ev

section
variable {P : Program} {ρ : Operand → Value} {dst : Option Tmp} {ty : TypeId} {pos : String} {after : Array Edge} {guard : Option (Nat × Bool)} {h : AHeap}

/-! ### range -/
def eRange (P : Program) (h : AHeap) (t : TypeId) (x : Value) : Option EOut :=
  match P.underlying t, x with
  | some .string, .string s => some (some (.pointer (some ⟨h.next, 0, none⟩)), h.add (.stringIter s 0))
  | some (.map _ _), .map none => some (some (.pointer (some ⟨h.next, 0, none⟩)), h.add (.mapIter none 0 [] 0))
  | some (.map _ _), .map (some m) => match h.get m with
    | some (.map _ clock) => some (some (.pointer (some ⟨h.next, 0, none⟩)), h.add (.mapIter (some m) clock [] clock))
    | _ => none
  | _, _ => none

theorem eff_range {t : TypeId} {x : Operand} {out : EOut} (hl : eRange P h t (ρ x) = some out) : Eff P ⟨dst, .range t x, ty, pos, after, guard⟩ ρ h [out] := by
  intro R ρ' w hf hr
  have hx := hf x (by simp [Op.operands])
  refine ⟨_, List.mem_singleton.2 rfl, ?_⟩
  unfold eRange at hl
  split at hl
  · rename_i s hu hxv
    rw [hxv] at hx
    simp only [sub, Option.some.injEq] at hx hl
    subst hl
    have := hr.alloc (ob := .stringIter s 0) (o := .stringIter s 0) (x := 0) rfl
    refine ⟨_, _, this.2, this.1, .pointer (some ⟨w.heap.size, 0, none⟩), ?_, by simp [sub, Emb.ins_self]⟩
    simp only [execOp, Instr.range, Sem.run_bind, run_underlying hu, Result.andThen_ok, ← hx, Sem.run_pure, run_newObj]
  · rename_i kt et hu hxv
    rw [hxv] at hx
    simp only [sub, Option.some.injEq] at hx hl
    subst hl
    have := hr.alloc (ob := .mapIter none 0 [] 0) (o := .mapIter none 0 #[] 0) (x := 0) ⟨none, rfl, rfl⟩
    refine ⟨_, _, this.2, this.1, .pointer (some ⟨w.heap.size, 0, none⟩), ?_, by simp [sub, Emb.ins_self]⟩
    simp only [execOp, Instr.range, Sem.run_bind, run_underlying hu, Result.andThen_ok, ← hx, Sem.run_pure, run_newObj]
  · rename_i kt et m hu hxv
    rw [hxv] at hx
    simp only [sub, Option.map_eq_some_iff] at hx
    obtain ⟨e0, he0, hx⟩ := hx
    split at hl
    · rename_i es clock hg
      simp only [Option.some.injEq] at hl
      subst hl
      obtain ⟨es', hs, hwb, hrun⟩ := hr.map (P := P) he0 hg
      have := hr.alloc (ob := .mapIter (some m) clock [] clock) (o := .mapIter (some e0.1) clock #[] clock) (x := 0) ⟨some e0.1, by simp [subNat?, he0], rfl⟩
      refine ⟨_, _, this.2, this.1, .pointer (some ⟨w.heap.size, 0, none⟩), ?_, by simp [sub, Emb.ins_self]⟩
      simp only [execOp, Instr.range, Sem.run_bind, run_underlying hu, Result.andThen_ok, ← hx, hrun, Sem.run_pure, run_newObj]
    · cases hl
  · cases hl

/-! ### The next character of a string -/
def eNextStr (h : AHeap) (it : Value) : Option EOut :=
  match it with
  | .pointer (some ⟨r, 0, none⟩) => match h.get r with
    | some (.stringIter s p) =>
      if p < s.size then some (some (.tuple #[.bool true, goInt p, .int .i32 (Utf8.decode s p).1]), h.put r (some (.stringIter s (p + (Utf8.decode s p).2))))
      else some (some (.tuple #[.bool false]), h)
    | _ => none
  | _ => none

theorem eff_nextStr {x : Operand} {out : EOut} (hl : eNextStr h (ρ x) = some out) : Eff P ⟨dst, .next x true, ty, pos, after, guard⟩ ρ h [out] := by
  intro R ρ' w hf hr
  have hx := hf x (by simp [Op.operands])
  refine ⟨_, List.mem_singleton.2 rfl, ?_⟩
  unfold eNextStr at hl
  split at hl
  · rename_i r hxv
    rw [hxv] at hx
    simp only [sub, Option.map_eq_some_iff] at hx
    obtain ⟨e0, he0, hx⟩ := hx
    split at hl
    · rename_i s p hg
      obtain ⟨hwb, hrun⟩ := hr.stringIter (P := P) he0 hg
      by_cases hp : p < s.size
      · rw [if_pos hp] at hl
        simp only [Option.some.injEq] at hl
        subst hl
        obtain ⟨w', hset, ht⟩ := run_setObj (P := P) (o' := .stringIter s (p + (Utf8.decode s p).2)) hwb rfl
        have hres := hr.turn hg he0 ht (ob' := .stringIter s (p + (Utf8.decode s p).2)) rfl
        refine ⟨R, w', hres.2, hres.1, _, ?_, sub_clo R _ rfl⟩
        simp only [execOp, Instr.next, Sem.run_bind, ← hx, hrun, Result.andThen_ok, hp, if_true, hset, Sem.run_pure]
      · rw [if_neg hp] at hl
        simp only [Option.some.injEq] at hl
        subst hl
        refine ⟨R, w, Ext.refl _ _ _, hr, _, ?_, sub_clo R _ rfl⟩
        simp only [execOp, Instr.next, Sem.run_bind, ← hx, hrun, Result.andThen_ok, hp, if_false, Sem.run_pure]
    · cases hl
  · cases hl

/-! ### The next entry of a map -/
/-- The entries that may come next; none: the end. -/
def cands (es : List MapEntry) (since : Nat) (seen : List Nat) : List (Option MapEntry) :=
  let left := es.filter fun x => !(seen.contains x.born)
  let old := left.filter fun x => decide (x.born < since)
  let new := left.filter fun x => decide (x.born ≥ since)
  (if old.isEmpty then [none] else []) ++ (old ++ new).map some

def stale (es : List MapEntry) (seen : List Nat) (last : Nat) : Bool := !seen.isEmpty && !es.isEmpty && es.all fun x => decide (x.born ≥ last)

def eNextMap (h : AHeap) (it : Value) : Option (List EOut) :=
  match it with
  | .pointer (some ⟨r, 0, none⟩) => match h.get r with
    | some (.mapIter none _ _ _) => some [(some (.tuple #[.bool false]), h)]
    | some (.mapIter (some m) since seen last) => match h.get m with
      | some (.map es clock) => cond (stale es seen last) none (some ((cands es since seen).map fun
        | some x => (some (.tuple #[.bool true, x.key, x.val]), h.put r (some (.mapIter (some m) since (seen ++ [x.born]) clock)))
        | none => (some (.tuple #[.bool false]), h)))
      | _ => none
    | _ => none
  | _ => none

theorem subEs_get' {R : Emb} {l l' : List MapEntry} (h : subEs R l = some l') {i : Nat} {x' : MapEntry} (hx : l'[i]? = some x') : ∃ x, l[i]? = some x ∧ subE R x = some x' := by
  cases hl : l[i]? with
  | none => rw [(subEs_get h i).2 hl] at hx; cases hx
  | some x =>
    obtain ⟨x'', h1, h2⟩ := (subEs_get h i).1 x hl
    rw [hx] at h1; cases h1
    exact ⟨x, rfl, h2⟩

def CandRel (R : Emb) : Option MapEntry → Option MapEntry → Prop
  | none, none => True
  | some x, some x' => subE R x = some x'
  | _, _ => False

theorem cands_sub {R : Emb} {es es' : List MapEntry} (hs : subEs R es = some es') (since : Nat) (seen : List Nat) {k : Nat} {c' : Option MapEntry} (hk : (cands es' since seen)[k]? = some c') :
    ∃ c, c ∈ cands es since seen ∧ CandRel R c c' := by
  have h1 := subEs_filter (fun b => !(seen.contains b)) hs
  have h2 := subEs_filter (fun b => decide (b < since)) h1
  have h3 := subEs_filter (fun b => decide (b ≥ since)) h1
  have h4 := subEs_append h2 h3
  have he := subEs_isEmpty h2
  unfold cands at hk ⊢
  dsimp only at hk ⊢
  rw [he] at hk
  have hfront : ∀ x ∈ (if (List.filter (fun x => decide (x.born < since)) (List.filter (fun x => !seen.contains x.born) es)).isEmpty = true then [(none : Option MapEntry)] else []), x = none := fun x hx => by
    split at hx
    · simpa using hx
    · cases hx
  revert hfront hk
  generalize (if (List.filter (fun x => decide (x.born < since)) (List.filter (fun x => !seen.contains x.born) es)).isEmpty = true then [(none : Option MapEntry)] else []) = front
  intro hk hfront
  rw [List.getElem?_append] at hk
  by_cases hlt : k < front.length
  · rw [if_pos hlt] at hk
    have hm := List.mem_of_getElem? hk
    have : c' = none := hfront _ hm
    subst this
    exact ⟨none, List.mem_append_left _ hm, trivial⟩
  · rw [if_neg hlt, List.getElem?_map] at hk
    simp only [Option.map_eq_some_iff] at hk
    obtain ⟨x', hx', rfl⟩ := hk
    obtain ⟨x, hx, hsx⟩ := subEs_get' h4 hx'
    exact ⟨some x, List.mem_append_right _ (List.mem_map.2 ⟨x, List.mem_of_getElem? hx, rfl⟩), hsx⟩

theorem cands_ne (es : List MapEntry) (since : Nat) (seen : List Nat) : 0 < (cands es since seen).length := by
  unfold cands
  dsimp only
  generalize List.filter (fun x => decide (x.born < since)) (List.filter (fun x => !(seen.contains x.born)) es) = l
  cases l with
  | nil => simp
  | cons y l => simp

theorem stale_sub {R : Emb} {es es' : List MapEntry} (hs : subEs R es = some es') (seen : List Nat) (last : Nat) : stale es' seen last = stale es seen last := by
  unfold stale
  rw [subEs_isEmpty hs, subEs_all (fun b => decide (b ≥ last)) hs]

/-- What the model reckons, over lists. -/
theorem cands_toArray (es : List MapEntry) (since : Nat) (seen : List Nat) :
    (if (Array.filter (fun x => decide (x.born < since)) (Array.filter (fun e => !(#[] ++ (⟨seen⟩ : Array Nat)).contains e.born) (⟨es⟩ : Array MapEntry))).isEmpty then #[none] else #[]) ++
      (Array.filter (fun x => decide (x.born < since)) (Array.filter (fun e => !(#[] ++ (⟨seen⟩ : Array Nat)).contains e.born) (⟨es⟩ : Array MapEntry)) ++
       Array.filter (fun x => decide (x.born ≥ since)) (Array.filter (fun e => !(#[] ++ (⟨seen⟩ : Array Nat)).contains e.born) (⟨es⟩ : Array MapEntry))).map some = ⟨cands es since seen⟩ := by
  apply Array.ext'
  simp only [cands]
  split <;> rename_i hh <;> simp_all

theorem run_next {w : World} {b m since last clock : Nat} {seen : List Nat} {es' : List MapEntry} {d : TypeId} (hi : (getObj b).run P w = .ok (.mapIter (some m) since ⟨seen⟩ last) w)
    (hm : (getObj m).run P w = .ok (.map ⟨es'⟩ clock) w) (hst : stale es' seen last = false) : ∃ (k n : Nat), k < (cands es' since seen).length ∧
      (Instr.next (.pointer (some ⟨b, 0, none⟩)) false d).run P w =
        match (cands es' since seen)[k]? with
        | some (some e) => ((setObj b (.mapIter (some m) since ⟨seen ++ [e.born]⟩ clock)).run P { w with drawn := n }).andThen fun _ w' => .ok (.tuple #[.bool true, e.key, e.val]) w'
        | some none => .ok (.tuple #[.bool false]) { w with drawn := n }
        | none => .halt (.stuck "Next: no such candidate") { w with drawn := n } := by
  have hst' : (!(⟨seen⟩ : Array Nat).isEmpty && !(⟨es'⟩ : Array MapEntry).isEmpty && (⟨es'⟩ : Array MapEntry).all fun x => decide (x.born ≥ last)) = false := by
    rw [← hst]; simp [stale]
  have hc := cands_toArray es' since seen
  simp only [Array.empty_append] at hc
  have hn := cands_ne es' since seen
  obtain ⟨k, n, hk, hch⟩ : ∃ k n, k < (cands es' since seen).length ∧ (choose (.mapNext (cands es' since seen).length)).run P w = .ok k { w with drawn := n } := by
    rw [run_choose]
    split
    · exact ⟨0, w.drawn, hn, rfl⟩
    · exact ⟨_, w.drawn + 1, Nat.mod_lt _ hn, rfl⟩
  refine ⟨k, n, hk, ?_⟩
  unfold Instr.next
  simp only [Sem.run_bind, hi, hm, Result.andThen_ok, hst', Bool.false_eq_true, if_false]
  rw [hc]
  simp only [List.size_toArray, hch, Result.andThen_ok, List.getElem?_toArray]
  have : (cands es' since seen)[k]? = some (cands es' since seen)[k] := List.getElem?_eq_getElem hk
  rw [this]
  cases (cands es' since seen)[k] with
  | none => simp
  | some e => simp

theorem eff_nextMap {x : Operand} {outs : List EOut} (hl : eNextMap h (ρ x) = some outs) : Eff P ⟨dst, .next x false, ty, pos, after, guard⟩ ρ h outs := by
  intro R ρ' w hf hr
  have hx := hf x (by simp [Op.operands])
  unfold eNextMap at hl
  split at hl
  · rename_i r hxv
    rw [hxv] at hx
    simp only [sub, Option.map_eq_some_iff] at hx
    obtain ⟨e0, he0, hx⟩ := hx
    split at hl
    · rename_i a s b hg
      simp only [Option.some.injEq] at hl
      subst hl
      obtain ⟨m', hm', hwb, hrun⟩ := hr.mapIter (P := P) he0 hg
      simp only [subNat?, Option.some.injEq] at hm'
      subst hm'
      refine ⟨_, List.mem_singleton.2 rfl, R, w, Ext.refl _ _ _, hr, _, ?_, sub_clo R _ rfl⟩
      simp only [execOp, Instr.next, Sem.run_bind, ← hx, hrun, Result.andThen_ok, Sem.run_pure]
    · rename_i m since seen last hg
      split at hl
      · rename_i es clock hgm
        cases hst : stale es seen last with
        | true => rw [hst] at hl; cases hl
        | false =>
          rw [hst] at hl
          simp only [cond_false, Option.some.injEq] at hl
          obtain ⟨m', hm', hwb, hrun⟩ := hr.mapIter (P := P) he0 hg
          simp only [subNat?, Option.map_eq_some_iff] at hm'
          obtain ⟨e1, he1, rfl⟩ := hm'
          obtain ⟨es', hs, _, hrunm⟩ := hr.map (P := P) he1 hgm
          obtain ⟨k, n, hk, hnx⟩ := run_next (P := P) (d := ty) hrun hrunm (by rw [stale_sub hs]; exact hst)
          have hck : (cands es' since seen)[k]? = some (cands es' since seen)[k] := List.getElem?_eq_getElem hk
          obtain ⟨c, hc, hrel⟩ := cands_sub hs since seen hck
          have hrd := hr.drawn n
          rw [hck] at hnx
          generalize (cands es' since seen)[k] = c' at hnx hrel
          cases c with
          | none =>
            cases c' with
            | some _ => exact hrel.elim
            | none =>
              refine ⟨(some (.tuple #[.bool false]), h), ?_, R, _, hrd.2, hrd.1, _, ?_, sub_clo R _ rfl⟩
              · rw [← hl]; exact List.mem_map.2 ⟨none, hc, rfl⟩
              · simp only [execOp, Sem.run_bind, ← hx, hnx, Result.andThen_ok, Sem.run_pure]
          | some x =>
            cases c' with
            | none => exact hrel.elim
            | some x' =>
              have hxb := subE_born (show subE R x = some x' from hrel)
              simp only [CandRel, subE, Option.map_eq_some_iff, Option.bind_eq_some_iff] at hrel
              obtain ⟨k', hk', v', hv', hxe⟩ := hrel
              obtain ⟨w', hset, ht⟩ := run_setObj (P := P) (w := { w with drawn := n }) (o' := .mapIter (some e1.1) since ⟨seen ++ [x'.born]⟩ clock) hwb rfl
              have hres := hrd.1.turn hg he0 ht (ob' := .mapIter (some m) since (seen ++ [x.born]) clock) ⟨some e1.1, by simp [subNat?, he1], by rw [hxb]⟩
              refine ⟨(some (.tuple #[.bool true, x.key, x.val]), h.put r (some (.mapIter (some m) since (seen ++ [x.born]) clock))), ?_, R, w', hrd.2.trans hres.2, hres.1, .tuple #[.bool true, x'.key, x'.val], ?_, ?_⟩
              · rw [← hl]; exact List.mem_map.2 ⟨some x, hc, rfl⟩
              · simp only [execOp, Sem.run_bind, ← hx, hnx, Result.andThen_ok, Sem.run_pure, hset]
              · rw [← hxe]; simp [sub, subA, subL, hk', hv']
      · cases hl
    · cases hl
  · cases hl

/-! ### The entry of a step -/
def eEntry (h : AHeap) (it : Value) : Option Value :=
  match it with
  | .pointer (some ⟨r, 0, none⟩) => match h.get r with
    | some (.mapIter (some m) _ seen stepped) => match seen.getLast?, h.get m with
      | some stamp, some (.map es clock) => cond (Nat.beq clock stepped) (match es.find? fun x => x.born == stamp with
        | some x => some (.tuple #[x.key, x.val])
        | none => none) none
      | _, _ => none
    | _ => none
  | _ => none

theorem eff_entry {x : Operand} {v : Value} (hl : eEntry h (ρ x) = some v) : Eff P ⟨dst, .entry x, ty, pos, after, guard⟩ ρ h [(some v, h)] := by
  intro R ρ' w hf hr
  have hx := hf x (by simp [Op.operands])
  refine ⟨_, List.mem_singleton.2 rfl, R, w, Ext.refl _ _ _, hr, ?_⟩
  unfold eEntry at hl
  split at hl
  · rename_i r hxv
    rw [hxv] at hx
    simp only [sub, Option.map_eq_some_iff] at hx
    obtain ⟨e0, he0, hx⟩ := hx
    split at hl
    · rename_i m a seen stepped hg
      split at hl
      · rename_i stamp es clock hlast hgm
        cases hb : Nat.beq clock stepped with
        | false => rw [hb] at hl; cases hl
        | true =>
          rw [hb] at hl
          simp only [cond_true] at hl
          have hcl := Nat.eq_of_beq_eq_true hb
          split at hl
          · rename_i y hy
            simp only [Option.some.injEq] at hl
            subst hl
            obtain ⟨m', hm', hwb, hrun⟩ := hr.mapIter (P := P) he0 hg
            simp only [subNat?, Option.map_eq_some_iff] at hm'
            obtain ⟨e1, he1, rfl⟩ := hm'
            obtain ⟨es', hs, _, hrunm⟩ := hr.map (P := P) he1 hgm
            obtain ⟨y', hy', hsy⟩ := subEs_find (fun b => b == stamp) hs hy
            simp only [subE, Option.map_eq_some_iff, Option.bind_eq_some_iff] at hsy
            obtain ⟨k', hk', v', hv', rfl⟩ := hsy
            refine ⟨.tuple #[k', v'], ?_, by simp [sub, subA, subL, hk', hv']⟩
            have hbk : (⟨seen⟩ : Array Nat).back? = some stamp := by simp [hlast]
            have hfind : (⟨es'⟩ : Array MapEntry).find? (fun x => x.born == stamp) = some { key := k', val := v', born := y.born } := by simp [hy']
            simp only [execOp, Instr.entry, Sem.run_bind, ← hx, hrun, Result.andThen_ok, hbk, hrunm, hcl, bne_self_eq_false, Bool.false_eq_true, if_false, hfind, Sem.run_pure]
          · cases hl
      · cases hl
    · cases hl
  · cases hl
end
end Ev
end Go.Proofs.YthckkbhjocjmkaaGreatDoor
