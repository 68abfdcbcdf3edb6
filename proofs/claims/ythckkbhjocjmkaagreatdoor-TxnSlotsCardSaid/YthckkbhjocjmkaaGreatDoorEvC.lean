/- The operations of the abstract run: make, copy, conversions, and the functions without a Go body. -/
import Derived.Test.YthckkbhjocjmkaaGreatDoorEv8
import Derived.Test.YthckkbhjocjmkaaGreatDoorEvB
import Derived.Laws.BytesString
namespace Go.Proofs.YthckkbhjocjmkaaGreatDoor
namespace Ev

section
variable {P : Program} {ρ : Operand → Value} {dst : Option Tmp} {ty : TypeId} {pos : String} {after : Array Edge} {guard : Option (Nat × Bool)} {h : AHeap}

/-! ### make([]T, l, c) -/
def eMakeSlice (P : Program) (h : AHeap) (t : TypeId) (l c : Value) : Option EOut :=
  match P.underlying t, l, c with
  | some (.slice elem), .int _ (.ofNat a), .int _ (.ofNat b) =>
    match P.info? elem with
    | some i => match i.zero with
      | some z => cond (clo z && (Nat.ble a b && (Nat.blt b mark && (Nat.ble (i.bytes * b) 281474976710656 && !(Nat.beq (b * i.size) 0)))))
          (some (some (.slice (some ⟨h.next, 0, none⟩) a b), h.add (.row (zRow z.cells (b * i.size)).toList elem 0))) none
      | none => none
    | none => none
  | _, _, _ => none

theorem wrap_small {a : Nat} (h : a < mark) : IntKind.i64.wrap (a : Int) = a := by
  unfold mark at h
  have h1 : (a : Int) % 2 ^ 64 = a := by omega
  simp only [IntKind.wrap, IntKind.bits, IntKind.signed, Bool.true_and, h1]
  rw [if_neg (by simp; omega)]

theorem zRow_clo {R : Emb} {z : Value} (hz : clo z = true) (n : Nat) : subA R (zRow z.cells n) = some (zRow z.cells n) := by
  apply subA_clo
  have := cloL_map_range hz 0 (List.range n)
  have e : zRow z.cells n = ⟨(List.range n).map fun k => (z.cells[k % z.cells.size]! : Value)⟩ := by
    apply Array.ext'; simp
  rw [e]; exact this

theorem eff_makeSlice {t : TypeId} {l c : Operand} {out : EOut} (hl : eMakeSlice P h t (ρ l) (ρ c) = some out) : Eff P ⟨dst, .makeSlice t l c, ty, pos, after, guard⟩ ρ h [out] := by
  intro R ρ' w hf hr
  have hlv := hf l (by simp [Op.operands])
  have hcv := hf c (by simp [Op.operands])
  unfold eMakeSlice at hl
  split at hl
  · rename_i elem k a k' b hu h1 h2
    rw [h1] at hlv
    rw [h2] at hcv
    have hl' := sub_int hlv
    have hc' := sub_int hcv
    split at hl
    · rename_i i hi
      split at hl
      · rename_i z hz
        cases hc : (clo z && (Nat.ble a b && (Nat.blt b mark && (Nat.ble (i.bytes * b) 281474976710656 && !(Nat.beq (b * i.size) 0))))) with
        | false => rw [hc] at hl; cases hl
        | true =>
          rw [hc] at hl
          simp only [cond_true, Option.some.injEq] at hl
          simp only [Bool.and_eq_true, Nat.ble_eq, Nat.blt_eq, Bool.not_eq_true'] at hc
          obtain ⟨hcz, hab, hbm, hby, hn0⟩ := hc
          have hn0' : ¬ (b * i.size = 0) := fun e => by rw [e] at hn0; cases hn0
          subst hl
          obtain ⟨R', w', hrun, hext, hrel, hn⟩ := newRow_run (P := P) hr (elem := elem) (subA_toList (zRow_clo (R := R) hcz (b * i.size)))
          refine ⟨_, List.mem_singleton.2 rfl, R', w', hext, hrel, .slice (some ⟨w.heap.size, 0, none⟩) a b, ?_, by simp [sub, hn, capOf, hbm]⟩
          have hinf : (typeInfo elem).run P w = .ok i w := qv_run (by rw [qv_typeInfo]; exact hi) w
          have hsz : (sizeOf elem).run P w = .ok i.size w := qv_run (by rw [qv_sizeOf, hi]; rfl) w
          have hzv : (zeroValue elem).run P w = .ok z w := qv_run (by rw [qv_zeroValue, hi]; exact hz) w
          have wa : IntKind.i64.wrap (a : Int) = a := wrap_small (by omega)
          have wb : IntKind.i64.wrap (b : Int) = b := wrap_small hbm
          have hby' : ((i.bytes : Int) * (b : Int)) ≤ 281474976710656 := by
            have : ((i.bytes * b : Nat) : Int) ≤ 281474976710656 := by omega
            rwa [Int.natCast_mul] at this
          have hcond : (((decide ((b : Int) < 0) || decide ((i.bytes : Int) * (b : Int) > 2 ^ 48)) || decide ((a : Int) < 0)) || decide ((a : Int) > (b : Int))) = false := by
            have h1 : ¬ ((b : Int) < 0) := by omega
            have h2 : ¬ ((i.bytes : Int) * (b : Int) > 2 ^ 48) := by omega
            have h3 : ¬ ((a : Int) < 0) := by omega
            have h4 : ¬ ((a : Int) > (b : Int)) := by omega
            simp only [h1, h2, h3, h4, decide_false, Bool.or_false]
          have hrun' : (newRow elem (zRow z.cells (b * i.size))).run P w = .ok ⟨w.heap.size, 0, none⟩ w' := hrun
          simp only [execOp, Instr.makeSlice, Sem.run_bind, run_underlying hu, Result.andThen_ok, hl', hc', asInt, asIntOf, Sem.run_pure, hinf, Int.ofNat_eq_natCast, wa, wb, hcond, Bool.false_eq_true, if_false,
            run_askRoom, hsz, Int.toNat_natCast, hn0', hzv, hrun']
      · cases hl
    · cases hl
  · cases hl

/-! ### append(nil, make([]T, n)...) -/
def eAppendZeros (P : Program) (h : AHeap) (ats : Array TypeId) (s x : Value) : Option EOut :=
  match ats, s, x with
  | ⟨[t, tx]⟩, .slice none 0 0, .int .i64 (.ofNat n) =>
    match P.underlying t, P.underlying tx with
    | some (.slice elem), some (.int _) =>
      match P.info? elem with
      | some i => match i.zero with
        | some z => cond (clo z && (Nat.beq z.cells.size i.size && (Nat.blt n mark && (Nat.ble (n * i.bytes) 140737488355328 && (!(Nat.beq n 0) && !(Nat.beq (n * i.size) 0))))))
            (some (grownRow h elem i.size n (Builtin.zeroCells z.cells n).toList)) none
        | none => none
      | none => none
    | _, _ => none
  | _, _, _ => none

theorem zeroCells_clo {R : Emb} {z : Value} (hz : clo z = true) (n : Nat) : subA R (Builtin.zeroCells z.cells n) = some (Builtin.zeroCells z.cells n) := zRow_clo hz _

theorem eff_appendZeros {ats : Array TypeId} {s x : Operand} {out : EOut} (ha : eAppendZeros P h ats (ρ s) (ρ x) = some out) :
    Eff P ⟨dst, .call ⟨.builtin .append, #[s, x], ats⟩, ty, pos, after, guard⟩ ρ h [out] := by
  refine eff_appendCall fun R s' x' w hs hx hr => ⟨out, List.mem_singleton.2 rfl, ?_⟩
  unfold eAppendZeros at ha
  split at ha
  · rename_i t tx n hsv hxv
    rw [hsv] at hs
    rw [hxv] at hx
    simp only [sub, Option.some.injEq] at hs hx
    subst hs hx
    split at ha
    · rename_i elem k ht htx
      split at ha
      · rename_i i hi
        split at ha
        · rename_i z hz
          cases hc : (clo z && (Nat.beq z.cells.size i.size && (Nat.blt n mark && (Nat.ble (n * i.bytes) 140737488355328 && (!(Nat.beq n 0) && !(Nat.beq (n * i.size) 0)))))) with
          | false => rw [hc] at ha; cases ha
          | true =>
            rw [hc] at ha
            simp only [cond_true, Option.some.injEq] at ha
            simp only [Bool.and_eq_true, Nat.beq_eq, Nat.ble_eq, Nat.blt_eq, Bool.not_eq_true'] at hc
            obtain ⟨hcz, hzs, hnm, hby, hn0, hns0⟩ := hc
            have hn0' : n ≠ 0 := fun e => by rw [e] at hn0; cases hn0
            have hns0' : ¬ (n * i.size = 0) := fun e => by rw [e] at hns0; cases hns0
            subst ha
            have wa : IntKind.i64.wrap (n : Int) = n := wrap_small hnm
            have hge : n ≤ grownCap w n 0 elem := Nat.le_add_right _ _
            obtain ⟨x', hx'⟩ : ∃ x', grownCap w n 0 elem = n + x' := ⟨grownCap w n 0 elem - n, by omega⟩
            have hrd := hr.drawn (w.drawn + 1)
            have hob : ObjRel R x' (.row (Builtin.zeroCells z.cells n).toList elem i.size) (.cells (Builtin.zeroCells z.cells n ++ Builtin.zeroCells z.cells (grownCap w n 0 elem - n)) elem) := by
              refine ⟨(Builtin.zeroCells z.cells n).toList, (Builtin.zeroCells z.cells x').toList, subA_toList (zeroCells_clo hcz n), by rw [zeroCells_length, hzs], ?_⟩
              rw [hx', Nat.add_sub_cancel_left]
              congr 1
              apply Array.ext'; simp
            have hal := hrd.1.alloc hob
            have h63' : ¬ (9223372036854775807 < (n : Int)) := by unfold mark at hnm; omega
            have hb1 : ¬ ((n : Int) * (i.bytes : Int) > 2 ^ 48) := by
              have : ((n * i.bytes : Nat) : Int) ≤ 140737488355328 := by omega
              rw [Int.natCast_mul] at this; omega
            have hb1' : ¬ (281474976710656 < (n : Int) * (i.bytes : Int)) := by omega
            have hb2 : ¬ (281474976710656 < n * i.bytes) := by omega
            have h0 : ¬ ((n : Int) < 0) := by omega
            refine ⟨_, _, hrd.2.trans hal.2, hal.1, _, .slice (some ⟨w.heap.size, 0, none⟩) n (grownCap w n 0 elem), rfl, ?_, by simp [sub, Emb.ins_self, capOf_open, hx']⟩
            simp [Builtin.append_, run_underlying ht, run_underlying htx, sizeOf, typeInfo, zeroValue, hi, hz, asInt, asIntOf, wa, h0, hb1', hb2, hn0', h63', hns0', nextslicecap_zero (Nat.pos_of_ne_zero hn0'), Question.forced,
              run_firstCells_none, newRow, grownCap]
            rfl
        · cases ha
      · cases ha
    · cases ha
  · cases ha

/-! ### copy(xs, s) -/
def eCopyStr (P : Program) (h : AHeap) (ats : Array TypeId) (d s : Value) : Option EOut :=
  match ats[0]?, d, s with
  | some t, .slice (some ⟨i, off, none⟩) n _, .string b =>
    match P.underlying t with
    | some (.slice elem) => match P.info? elem with
      | some _ => (astore h i off ((b.extract 0 (Nat.min b.size n)).data.map fun x => Value.int .u8 x.toNat).toList).map fun h' => (some (goInt (Nat.min b.size n)), h')
      | none => none
    | _ => none
  | _, _, _ => none

theorem clo_bytes {R : Emb} : ∀ (l : List UInt8), subL R (l.map fun x => Value.int .u8 x.toNat) = some (l.map fun x => Value.int .u8 x.toNat)
  | [] => rfl
  | x :: l => by simp only [List.map_cons]; exact subL_cons rfl (clo_bytes l)

theorem eff_copyStr {ats : Array TypeId} {d s : Operand} {out : EOut} (hl : eCopyStr P h ats (ρ d) (ρ s) = some out) :
    Eff P ⟨dst, .call ⟨.builtin .copy, #[d, s], ats⟩, ty, pos, after, guard⟩ ρ h [out] := by
  intro R ρ' w hf hr
  have hd := hf d (by simp [Op.operands, Call.operands])
  have hs := hf s (by simp [Op.operands, Call.operands])
  refine ⟨_, List.mem_singleton.2 rfl, R, ?_⟩
  unfold eCopyStr at hl
  split at hl
  · rename_i t i off n c b hat hdv hsv
    rw [hdv] at hd
    rw [hsv] at hs
    simp only [sub, Option.map_eq_some_iff, Option.some.injEq] at hd hs
    obtain ⟨e, he, hd⟩ := hd
    split at hl
    · rename_i elem hu
      split at hl
      · rename_i inf hi
        simp only [Option.map_eq_some_iff] at hl
        obtain ⟨h', hst, rfl⟩ := hl
        have hcl : subL R ((b.extract 0 (Nat.min b.size n)).data.map fun x => Value.int .u8 x.toNat).toList = some ((b.extract 0 (Nat.min b.size n)).data.map fun x => Value.int .u8 x.toNat).toList := by
          rw [Array.toList_map]; exact clo_bytes _
        obtain ⟨w', hrun, hext, hrel⟩ := astore_run (P := P) hr he hst hcl
        refine ⟨w', hext, hrel, goInt (Nat.min b.size n), ?_, rfl⟩
        have hsz : (sizeOf elem).run P w = .ok inf.size w := qv_run (by rw [qv_sizeOf, hi]; rfl) w
        simp only [execOp, resolve, Sem.run_bind, Sem.run_pure, Result.andThen_ok, invoke, builtin, List.map_toArray, List.map_cons, List.map_nil, Builtin.copy_, hat, List.getElem?_toArray, List.getElem?_cons_zero,
          List.getElem?_cons_succ, run_underlying hu, ← hd, ← hs, Builtin.lenOf, hsz, Builtin.firstCells, hrun]
      · cases hl
    · cases hl
  · cases hl

/-! ### string(bytes) -/
def eBytesStr (P : Program) (h : AHeap) (s d : TypeId) (x : Value) : Option Value :=
  match P.underlying s, P.underlying d, x with
  | some (.slice e), some .string, .slice (some ⟨i, off, none⟩) n _ =>
    match P.underlying e, (aload h i off n).bind keyNs with
    | some (.int .u8), some ns => some (.string (ns.foldl (fun r n => r.push (UInt8.ofNat n.toNat)) ByteArray.empty))
    | _, _ => none
  | _, _, _ => none

theorem eff_bytesStr {s d : TypeId} {x : Operand} {v : Value} (hl : eBytesStr P h s d (ρ x) = some v) : Eff P ⟨dst, .convert s d x, ty, pos, after, guard⟩ ρ h [(some v, h)] := by
  intro R ρ' w hf hr
  have hx := hf x (by simp [Op.operands])
  refine ⟨_, List.mem_singleton.2 rfl, R, w, Ext.refl _ _ _, hr, ?_⟩
  unfold eBytesStr at hl
  split at hl
  · rename_i e i off n c hs hd hxv
    rw [hxv] at hx
    simp only [sub, Option.map_eq_some_iff] at hx
    obtain ⟨e0, he0, hx⟩ := hx
    split at hl
    · rename_i ns he hns
      simp only [Option.bind_eq_some_iff] at hns
      obtain ⟨l, hal, hk⟩ := hns
      simp only [Option.some.injEq] at hl
      subst hl
      obtain ⟨l', hsl, hlen, hcells⟩ := aload_run hr he0 hal
      have hle := keyNs_eq hk
      rw [hle, subL_clo R _ (clo_keyNs ns)] at hsl
      simp only [Option.some.injEq] at hsl
      subst hsl
      have hload := run_cells (P := P) hlen hcells
      have hrun := run_bytesToString (P := P) w ⟨e0.1, off, none⟩ n (capOf e0.2 c) ns hload
      refine ⟨_, ?_, rfl⟩
      simp only [execOp, Sem.run_bind, convert, run_underlying hs, run_underlying hd, Result.andThen_ok, ← hx, run_underlying he, hrun, Sem.run_pure]
    · cases hl
  · cases hl
end
end Ev
end Go.Proofs.YthckkbhjocjmkaaGreatDoor
