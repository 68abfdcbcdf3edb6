/- The operations of the abstract run that read or write memory, first part: loads, stores, new blocks. -/
import Derived.Test.YthckkbhjocjmkaaGreatDoorEv6
namespace Go.Proofs.YthckkbhjocjmkaaGreatDoor
namespace Ev

/-- One way in which an operation may come out: its value, or none, and memory. -/
abbrev EOut := Option Value × AHeap

def Comes1 (P : Program) (R : Emb) (h : AHeap) (w : World) (s : Sem Next) (out : EOut) : Prop :=
  ∃ R' w', Ext R h w R' out.2 w' ∧ Rel R' out.2 w' ∧
    match out.1 with
    | some v => ∃ v', s.run P w = .ok (.value v') w' ∧ sub R' v = some v'
    | none => s.run P w = .ok .skip w'

/-- What is claimed of an operation on memory. -/
def Eff (P : Program) (o : Oper) (ρ : Operand → Value) (h : AHeap) (outs : List EOut) : Prop :=
  ∀ (R : Emb) (ρ' : Operand → Value) (w : World), Fits R ρ ρ' o.op.operands.toList → Rel R h w → ∃ out ∈ outs, Comes1 P R h w (execOp ρ' o) out

/-! ### Rows that are read and written -/
def aload (h : AHeap) (i off n : Nat) : Option (List Value) :=
  match h.get i with
  | some (.row c _ _) => let l := (c.drop off).take n; cond (Nat.beq l.length n) (some l) none
  | _ => none

theorem aload_run {R : Emb} {h : AHeap} {w : World} {i off n : Nat} {l : List Value} {e : Nat × Nat} (hr : Rel R h w) (he : R i = some e) (hl : aload h i off n = some l) :
    ∃ l', subL R l = some l' ∧ l'.length = n ∧ (∀ j v, l'[j]? = some v → w.cell? ⟨e.1, off + j, none⟩ = some v) := by
  unfold aload at hl
  split at hl
  · rename_i c el s hg
    obtain ⟨e', o, he', hw, hob⟩ := hr.dom _ _ hg
    rw [he] at he'; cases he'
    obtain ⟨c', rest, hc, _, rfl⟩ := hob
    dsimp only at hl
    cases hlen : Nat.beq ((c.drop off).take n).length n with
    | false => rw [hlen] at hl; cases hl
    | true =>
      rw [hlen] at hl
      simp only [cond_true, Option.some.injEq] at hl
      subst hl
      have hs := subL_take (subL_drop hc off) n
      refine ⟨_, hs, ?_, ?_⟩
      · rw [subL_length hs]; exact Nat.eq_of_beq_eq_true hlen
      · intro j v hj
        have hj' : c'[off + j]? = some v := by
          rw [List.getElem?_take] at hj
          split at hj
          · rwa [List.getElem?_drop] at hj
          · cases hj
        have hlt := (List.getElem?_eq_some_iff.1 hj').1
        simp only [World.cell?, hw]
        simp [List.getElem?_append_left hlt, hj']
  · cases hl

theorem run_cells {P : Program} {w : World} {b off n : Nat} {l' : List Value} (hn : l'.length = n) (h : ∀ j v, l'[j]? = some v → w.cell? ⟨b, off + j, none⟩ = some v) :
    (loadCells ⟨b, off, none⟩ n).run P w = .ok ⟨l'⟩ w := by
  subst hn
  exact run_loadCells_list w _ l' (fun j v hj => by rw [addr_add]; exact h j v hj)

theorem sub_oneB {R : Emb} {v v' : Value} (h : sub R v = some v') : oneB v' = oneB v := by
  cases v with
  | pointer a =>
    obtain _ | ⟨b, off, _ | s⟩ := a
    · simp only [sub, Option.some.injEq] at h; subst h; rfl
    · simp only [sub, Option.map_eq_some_iff] at h; obtain ⟨e, he, rfl⟩ := h; rfl
    · simp [sub] at h
  | slice a n c =>
    obtain _ | ⟨b, off, _ | s⟩ := a
    · simp only [sub, Option.some.injEq] at h; subst h; rfl
    · simp only [sub, Option.map_eq_some_iff] at h; obtain ⟨e, he, rfl⟩ := h; rfl
    · simp [sub] at h
  | map r =>
    cases r with
    | none => simp only [sub, Option.some.injEq] at h; subst h; rfl
    | some r => simp only [sub, Option.map_eq_some_iff] at h; obtain ⟨e, he, rfl⟩ := h; rfl
  | chan r =>
    cases r with
    | none => simp only [sub, Option.some.injEq] at h; subst h; rfl
    | some r => simp [sub] at h
  | func fn a b =>
    simp only [sub, Option.map_eq_some_iff, Option.bind_eq_some_iff] at h
    obtain ⟨fn', hf, a', ha, b', hb, rfl⟩ := h; rfl
  | iface t u => simp only [sub, Option.map_eq_some_iff] at h; obtain ⟨e, he, rfl⟩ := h; rfl
  | tuple a => simp only [sub, Option.map_eq_some_iff] at h; obtain ⟨e, he, rfl⟩ := h; rfl
  | agg a => simp only [sub, Option.map_eq_some_iff] at h; obtain ⟨e, he, rfl⟩ := h; rfl
  | _ => simp only [sub, Option.some.injEq] at h; subst h; rfl
theorem subL_oneB {R : Emb} : ∀ {l l' : List Value}, subL R l = some l' → l.all oneB = true → ∀ v ∈ l', oneB v = true
  | [], l', h, _, v, hv => by simp [subL] at h; subst h; cases hv
  | x :: l, l', h, ha, v, hv => by
    obtain ⟨x', l'', rfl, hx, hl⟩ := subL_cons_inv h
    simp only [List.all_cons, Bool.and_eq_true] at ha
    rcases List.mem_cons.1 hv with rfl | hv
    · rw [sub_oneB hx]; exact ha.1
    · exact subL_oneB hl ha.2 v hv

def astore (h : AHeap) (i off : Nat) (vs : List Value) : Option AHeap :=
  match h.get i with
  | some (.row c el s) => cond (Nat.ble (off + vs.length) c.length && vs.all oneB) (some (h.put i (some (.row (c.take off ++ (vs ++ c.drop (off + vs.length))) el s)))) none
  | _ => none

theorem astore_run {P : Program} {R : Emb} {h h' : AHeap} {w : World} {i off : Nat} {vs vs' : List Value} {e : Nat × Nat} (hr : Rel R h w) (he : R i = some e) (hs : astore h i off vs = some h')
    (hv : subL R vs = some vs') : ∃ w', (storeCells ⟨e.1, off, none⟩ vs').run P w = .ok () w' ∧ Ext R h w R h' w' ∧ Rel R h' w' := by
  unfold astore at hs
  split at hs
  · rename_i c el s hg
    cases hc : (Nat.ble (off + vs.length) c.length && vs.all oneB) with
    | false => rw [hc] at hs; cases hs
    | true =>
      rw [hc] at hs
      simp only [cond_true, Option.some.injEq] at hs
      subst hs
      simp only [Bool.and_eq_true, Nat.ble_eq] at hc
      obtain ⟨e', o, he', hw, hob⟩ := hr.dom _ _ hg
      rw [he] at he'; cases he'
      have hob0 := hob
      obtain ⟨c', rest, hcs, hrest, rfl⟩ := hob
      have e1 := subL_length hcs
      have e2 := subL_length hv
      obtain ⟨w', hrun, ht⟩ := run_storeCells (P := P) vs' (c' ++ rest) off 0 w hw (by simp; omega) (subL_oneB hv hc.2)
      refine ⟨w', hrun, ?_⟩
      have := hr.turn hg he ht (ob' := .row (c.take off ++ (vs ++ c.drop (off + vs.length))) el s)
        ⟨c'.take off ++ (vs' ++ c'.drop (off + vs.length)), rest, subL_append (subL_take hcs off) (subL_append hv (subL_drop hcs _)), hrest, by
          congr 2
          rw [Nat.add_zero, List.take_append_of_le_length (by omega), List.drop_append_of_le_length (by omega), e2]
          simp⟩
      exact ⟨this.2, this.1⟩
  · cases hs

section
variable {P : Program} {ρ : Operand → Value} {dst : Option Tmp} {ty : TypeId} {pos : String} {after : Array Edge} {guard : Option (Nat × Bool)} {h : AHeap}

/-! ### Load -/
def eLoad (P : Program) (h : AHeap) (t : TypeId) (a : Value) : Option Value :=
  match a with
  | .pointer (some ⟨i, off, none⟩) =>
    match qv P (isAgg t), (P.info? t).map (·.size) with
    | some true, some n => (aload h i off n).map fun l => .agg ⟨l⟩
    | some false, _ => match aload h i off 1 with
      | some [v] => some v
      | _ => none
    | _, _ => none
  | _ => none

theorem loadVar_run {R : Emb} {w : World} {t : TypeId} {i off : Nat} {e : Nat × Nat} {v : Value} (hr : Rel R h w) (he : R i = some e) (hl : eLoad P h t (.pointer (some ⟨i, off, none⟩)) = some v) :
    ∃ v', (loadVar t ⟨e.1, off, none⟩).run P w = .ok v' w ∧ sub R v = some v' := by
  simp only [eLoad] at hl
  split at hl
  · rename_i n hq hn
    cases ha : aload h i off n with
    | none => rw [ha] at hl; cases hl
    | some l =>
      rw [ha] at hl
      simp only [Option.map_some, Option.some.injEq] at hl
      subst hl
      obtain ⟨l', hs, hlen, hc⟩ := aload_run hr he ha
      refine ⟨.agg ⟨l'⟩, ?_, by simp [sub, subA, hs]⟩
      have h2 : (sizeOf t).run P w = .ok n w := qv_run (by rw [qv_sizeOf]; exact hn) w
      simp only [loadVar, Sem.run_bind, qv_run hq w, Result.andThen_ok, if_true, h2, run_cells hlen hc, Sem.run_pure]
  · rename_i hq
    split at hl
    · rename_i u ha
      simp only [Option.some.injEq] at hl
      subst hl
      obtain ⟨l', hs, hlen, hc⟩ := aload_run hr he ha
      obtain ⟨u', l'', rfl, hu, hl2⟩ := subL_cons_inv hs
      refine ⟨u', ?_, hu⟩
      have h1 := hc 0 u' rfl
      simp only [Nat.add_zero] at h1
      simp only [loadVar, Sem.run_bind, qv_run hq w, Result.andThen_ok, Bool.false_eq_true, if_false, run_load, h1]
    · cases hl
  · cases hl

theorem eff_load {t : TypeId} {a : Operand} {v : Value} (hl : eLoad P h t (ρ a) = some v) : Eff P ⟨dst, .load t a, ty, pos, after, guard⟩ ρ h [(some v, h)] := by
  intro R ρ' w hf hr
  have ha := hf a (by simp [Op.operands])
  cases hv : ρ a with
  | pointer p =>
    rw [hv] at ha hl
    obtain _ | ⟨i, off, _ | s⟩ := p
    · simp [eLoad] at hl
    · simp only [sub, Option.map_eq_some_iff] at ha
      obtain ⟨e, he, ha⟩ := ha
      obtain ⟨v', hrun, hs⟩ := loadVar_run hr he hl
      refine ⟨_, List.mem_singleton.2 rfl, R, w, Ext.refl _ _ _, hr, v', ?_, hs⟩
      simp only [execOp, Instr.loadAt, ← ha, Instr.sureAddr, Sem.run_bind, Sem.run_pure, Result.andThen_ok, hrun]
    · simp [eLoad] at hl
  | _ => rw [hv] at hl; simp [eLoad] at hl

/-! ### Store -/
def eStore (P : Program) (h : AHeap) (t : TypeId) (a v : Value) : Option AHeap :=
  match a with
  | .pointer (some ⟨i, off, none⟩) =>
    match (P.info? t).map (·.size) with
    | some n => cond (Nat.beq v.cells.size n) (astore h i off v.cells.toList) none
    | none => none
  | _ => none

theorem subA_toList {R : Emb} {a a' : Array Value} (h : subA R a = some a') : subL R a.toList = some a'.toList := by
  obtain ⟨l⟩ := a
  simp only [subA, Option.map_eq_some_iff] at h
  obtain ⟨l', hl, rfl⟩ := h
  exact hl

theorem eff_store {t : TypeId} {a x : Operand} {h' : AHeap} (hs : eStore P h t (ρ a) (ρ x) = some h') : Eff P ⟨dst, .store t a x, ty, pos, after, guard⟩ ρ h [(none, h')] := by
  intro R ρ' w hf hr
  have ha := hf a (by simp [Op.operands])
  have hx := hf x (by simp [Op.operands])
  cases hv : ρ a with
  | pointer p =>
    rw [hv] at ha hs
    obtain _ | ⟨i, off, _ | s⟩ := p
    · simp [eStore] at hs
    · simp only [sub, Option.map_eq_some_iff] at ha
      obtain ⟨e, he, ha⟩ := ha
      simp only [eStore] at hs
      split at hs
      · rename_i n hn
        cases hb : Nat.beq (ρ x).cells.size n with
        | false => rw [hb] at hs; cases hs
        | true =>
          rw [hb] at hs
          simp only [cond_true] at hs
          have hc := sub_cells hx
          obtain ⟨w', hrun, hext, hrel⟩ := astore_run (P := P) hr he hs (subA_toList hc)
          refine ⟨_, List.mem_singleton.2 rfl, R, w', hext, hrel, ?_⟩
          have hsz : (ρ' x).cells.size = n := by rw [subA_size hc]; exact Nat.eq_of_beq_eq_true hb
          have h2 : (sizeOf t).run P w = .ok n w := qv_run (by rw [qv_sizeOf]; exact hn) w
          simp only [execOp, Instr.storeAt, ← ha, Instr.sureAddr, Sem.run_bind, Sem.run_pure, Result.andThen_ok, storeVar, h2, hsz, ne_eq, not_true_eq_false, if_false, hrun]
      · cases hs
    · simp [eStore] at hs
  | _ => rw [hv] at hs; simp [eStore] at hs

/-! ### New blocks -/
/-- A new row that is told whole. -/
def addRow (h : AHeap) (elem : TypeId) (cs : List Value) : EOut := (some (.pointer (some ⟨h.next, 0, none⟩)), h.add (.row cs elem 0))

theorem newRow_run {R : Emb} {w : World} (hr : Rel R h w) {elem : TypeId} {cs cs' : List Value} (hs : subL R cs = some cs') :
    ∃ R' w', (newRow elem ⟨cs'⟩).run P w = .ok ⟨w.heap.size, 0, none⟩ w' ∧ Ext R h w R' (h.add (.row cs elem 0)) w' ∧ Rel R' (h.add (.row cs elem 0)) w' ∧ R' h.next = some (w.heap.size, 0) := by
  have := hr.alloc (ob := .row cs elem 0) (o := .cells ⟨cs'⟩ elem (0, 0)) (x := 0) ⟨cs', [], hs, rfl, by simp⟩
  exact ⟨_, _, by simp only [newRow, Sem.run_bind, run_newObj, Result.andThen_ok, Sem.run_pure], this.2, this.1, Emb.ins_self _ _ _⟩

def eAlloc (P : Program) (h : AHeap) (elem : TypeId) : Option EOut :=
  match (P.info? elem).bind (·.zero) with
  | some z => cond (clo z) (some (addRow h elem z.cells.toList)) none
  | none => none

theorem eff_alloc {elem : TypeId} {out : EOut} (ha : eAlloc P h elem = some out) : Eff P ⟨dst, .alloc elem, ty, pos, after, guard⟩ ρ h [out] := by
  intro R ρ' w hf hr
  unfold eAlloc at ha
  split at ha
  · rename_i z hz
    cases hc : clo z with
    | false => rw [hc] at ha; cases ha
    | true =>
      rw [hc] at ha
      simp only [cond_true, Option.some.injEq] at ha
      subst ha
      have hs := subA_toList (sub_cells (sub_clo R z hc))
      obtain ⟨R', w', hrun, hext, hrel, hn⟩ := newRow_run (P := P) hr (elem := elem) hs
      refine ⟨_, List.mem_singleton.2 rfl, R', w', hext, hrel, .pointer (some ⟨w.heap.size, 0, none⟩), ?_, by simp [sub, hn]⟩
      have hz' : (zeroValue elem).run P w = .ok z w := qv_run (by rw [qv_zeroValue]; exact hz) w
      simp only [execOp, Instr.alloc, Sem.run_bind, hz', Result.andThen_ok, newVar]
      rw [show z.cells = ⟨z.cells.toList⟩ from rfl, hrun]
      rfl
  · cases ha

theorem eff_box {elem : TypeId} {x : Operand} : Eff P ⟨dst, .box elem x, ty, pos, after, guard⟩ ρ h [addRow h elem (ρ x).cells.toList] := by
  intro R ρ' w hf hr
  have hx := hf x (by simp [Op.operands])
  obtain ⟨R', w', hrun, hext, hrel, hn⟩ := newRow_run (P := P) hr (elem := elem) (subA_toList (sub_cells hx))
  refine ⟨_, List.mem_singleton.2 rfl, R', w', hext, hrel, .pointer (some ⟨w.heap.size, 0, none⟩), ?_, by simp [sub, hn]⟩
  simp only [execOp, Instr.box, Sem.run_bind, newVar]
  rw [show (ρ' x).cells = ⟨(ρ' x).cells.toList⟩ from rfl, hrun]
  rfl

def eMakeMap (h : AHeap) : EOut := (some (.map (some h.next)), h.add (.map [] 0))
theorem eff_makeMap {t : TypeId} : Eff P ⟨dst, .makeMap t none, ty, pos, after, guard⟩ ρ h [eMakeMap h] := by
  intro R ρ' w hf hr
  have := hr.alloc (ob := .map [] 0) (o := .map #[] 0) (x := 0) ⟨[], rfl, rfl⟩
  refine ⟨_, List.mem_singleton.2 rfl, _, _, this.2, this.1, .map (some w.heap.size), ?_, by simp [sub, Emb.ins_self]⟩
  simp only [execOp, Instr.makeMap, Option.map_none, Sem.run_bind, newObj, Sem.run, Result.andThen_ok, Sem.run_pure]

abbrev zRow (z : Array Value) (n : Nat) : Array Value := (Array.range n).map (z[· % z.size]!)
def eBuildSlice (P : Program) (h : AHeap) (ρ : Operand → Value) (t : TypeId) (n : Nat) (parts : Array (Nat × Operand)) : Option EOut :=
  match P.underlying t with
  | some (.slice elem) =>
    match P.info? elem with
    | some i =>
      match i.zero with
      | some z =>
        cond (clo z && (Nat.ble (n * i.size) 16777216 && Nat.blt n mark))
          (match Instr.fill (fun k => some (k * i.size, i.size)) (zRow z.cells (n * i.size)) (parts.map fun (k, x) => (k, ρ x)).toList with
          | some cs => some (some (.slice (some ⟨h.next, 0, none⟩) n n), h.add (.row cs.toList elem 0))
          | none => none) none
      | none => none
    | none => none
  | _ => none

theorem clo_getD {z : Value} : ∀ {l : List Value}, cloL l = true → ∀ j, clo (l.getD j z) = true ∨ l.length ≤ j
  | [], _, j => .inr (Nat.zero_le _)
  | x :: l, h, j => by
    simp only [cloL, Bool.and_eq_true] at h
    cases j with
    | zero => exact .inl h.1
    | succ j =>
      rcases clo_getD (z := z) h.2 j with h1 | h1
      · exact .inl (by simpa using h1)
      · exact .inr (by simp; omega)
theorem clo_cells {v : Value} (h : clo v = true) : cloL v.cells.toList = true := by
  cases v with
  | agg a => obtain ⟨l⟩ := a; exact h
  | _ => simp only [Value.cells, cloL, Bool.and_true]; exact h
theorem cloL_map_range {z : Value} (hz : clo z = true) (n : Nat) : ∀ (l : List Nat), cloL (l.map fun i => (z.cells[i % z.cells.size]! : Value)) = true
  | [] => rfl
  | i :: l => by
    simp only [List.map_cons, cloL, cloL_map_range hz n l, Bool.and_true]
    have hc := clo_cells hz
    by_cases hs : z.cells.size = 0
    · rw [getElem!_neg z.cells (i % z.cells.size) (by omega)]; rfl
    · have hlt : i % z.cells.size < z.cells.size := Nat.mod_lt _ (by omega)
      rw [getElem!_pos z.cells (i % z.cells.size) hlt]
      rcases clo_getD (z := undef) hc (i % z.cells.size) with h1 | h1
      · simpa [List.getD, List.getElem?_eq_getElem (show i % z.cells.size < z.cells.toList.length by simpa using hlt)] using h1
      · simp at h1; omega

theorem eff_buildSlice {t : TypeId} {n : Nat} {parts : Array (Nat × Operand)} {out : EOut} (hb : eBuildSlice P h ρ t n parts = some out) :
    Eff P ⟨dst, .buildSlice t n parts, ty, pos, after, guard⟩ ρ h [out] := by
  intro R ρ' w hf hr
  unfold eBuildSlice at hb
  split at hb
  · rename_i elem hu
    split at hb
    · rename_i i hi
      split at hb
      · rename_i z hz
        cases hc : (clo z && (Nat.ble (n * i.size) 16777216 && Nat.blt n mark)) with
        | false => rw [hc] at hb; cases hb
        | true =>
          rw [hc] at hb
          simp only [cond_true] at hb
          simp only [Bool.and_eq_true, Nat.ble_eq, Nat.blt_eq] at hc
          obtain ⟨hcz, h1, h3⟩ := hc
          split at hb
          · rename_i cs hfl
            simp only [Option.some.injEq] at hb
            subst hb
            have hzc : subA R (zRow z.cells (n * i.size)) = some (zRow z.cells (n * i.size)) := by
              apply subA_clo
              have := cloL_map_range hcz 0 (List.range (n * i.size))
              have e : zRow z.cells (n * i.size) = ⟨(List.range (n * i.size)).map fun k => (z.cells[k % z.cells.size]! : Value)⟩ := by
                apply Array.ext'; simp
              rw [e]; exact this
            have hp : PartsRel R (parts.map fun (i, x) => (i, ρ x)).toList (parts.map fun (i, x) => (i, ρ' x)).toList := by
              simp only [Array.toList_map]
              exact partsRel_map fun p hp => hf p.2 (by simp only [Op.operands]; exact List.mem_map.2 ⟨p, hp, rfl⟩)
            obtain ⟨out', h', ho⟩ := fill_sub hp hzc hfl
            obtain ⟨R', w', hrun, hext, hrel, hn⟩ := newRow_run (P := P) hr (elem := elem) (subA_toList ho)
            refine ⟨_, List.mem_singleton.2 rfl, R', w', hext, hrel, .slice (some ⟨w.heap.size, 0, none⟩) n n, ?_, by simp [sub, hn, capOf, h3]⟩
            have hs : (sizeOf elem).run P w = .ok i.size w := qv_run (by rw [qv_sizeOf, hi]; rfl) w
            have hzv : (zeroValue elem).run P w = .ok z w := qv_run (by rw [qv_zeroValue, hi]; exact hz) w
            have hun : (underlying t).run P w = .ok (.slice elem) w := qv_run (by rw [qv_underlying]; exact hu) w
            have h1' : ¬ (n * i.size > 2 ^ 24) := by omega
            have hrun' : (newRow elem out').run P w = .ok ⟨w.heap.size, 0, none⟩ w' := hrun
            by_cases h2' : n * i.size = 0
            · have e0 : ∀ y : Array Value, (Array.range (n * i.size)).map (fun x => (y[x % y.size]! : Value)) = #[] := fun y => by rw [h2']; simp
              rw [show zRow z.cells (n * i.size) = #[] from e0 _] at h'
              simp only [execOp, Instr.buildSlice, Sem.run_bind, hun, Result.andThen_ok, hs, h1', if_false, if_pos h2', Sem.run_pure, e0, h', hrun']
            · simp only [execOp, Instr.buildSlice, Sem.run_bind, hun, Result.andThen_ok, hs, h1', if_false, h2', hzv, Sem.run_pure, h', hrun']
          · cases hb
      · cases hb
    · cases hb
  · cases hb
end
end Ev
end Go.Proofs.YthckkbhjocjmkaaGreatDoor
