/- The calls of the abstract run: which function is meant, and what the functions without a Go body do. -/
import Derived.Test.YthckkbhjocjmkaaGreatDoorEvC
namespace Go.Proofs.YthckkbhjocjmkaaGreatDoor
namespace Ev

/-- The functions without a Go body that are known here. -/
inductive ExtK where
  | no | cmp | count | index | clone

def ExtK.row : ExtK → Array Value → Sem Value
  | .no => fun _ => stuck ""
  | .cmp => Extern.BytealgCompare.compare
  | .count => Extern.BytealgCount.count
  | .index => Extern.BytealgIndexByte.indexByte
  | .clone => Extern.MapsClone.clone

structure ExtOk (P : Program) (f : FuncId) (row : Array Value → Sem Value) : Prop where
  at_ : ∃ fn, P.funcs[f]? = some fn ∧ (fn.name == "runtime.NumGoroutine") = false ∧ fn.body = none ∧ (Extern.findNext fn).isNone = true ∧ Extern.find fn = some row

theorem run_extern {P : Program} {f : FuncId} {row : Array Value → Sem Value} (E : ExtOk P f row) (args : Array Value) (w : World) :
    (callFunc f args).run P w = ((row args).run P w).andThen fun v w' => .ok (.value v) w' := by
  obtain ⟨fn, hf, hn, hb, hx, hr⟩ := E.at_
  have hx' : Extern.findNext fn = none := by simpa using hx
  simp only [callFunc, Sem.run_bind, run_program, Result.andThen_ok, hf, hn, Bool.false_eq_true, if_false, hb, Option.isNone_none, if_true, run_mark, hx', hr, Sem.run_pure]

/-! ### Bytes that are compared -/
def bytesNs : List Value → Option (List Nat)
  | [] => some []
  | .int .u8 (.ofNat n) :: l => cond (Nat.blt n 256) ((bytesNs l).map (n :: ·)) none
  | _ :: _ => none
theorem bytesNs_eq : ∀ {l : List Value} {ns : List Nat}, bytesNs l = some ns → l = ns.map (fun n => Value.int .u8 (Int.ofNat n)) ∧ ∀ n ∈ ns, n < 256
  | [], ns, h => by simp only [bytesNs, Option.some.injEq] at h; subst h; exact ⟨rfl, fun _ hn => by cases hn⟩
  | v :: l, ns, h => by
    cases v with
    | int k n =>
      cases k with
      | u8 =>
        cases n with
        | ofNat n =>
          simp only [bytesNs] at h
          cases hb : Nat.blt n 256 with
          | false => rw [hb] at h; cases h
          | true =>
            rw [hb] at h
            simp only [cond_true, Option.map_eq_some_iff] at h
            obtain ⟨ns', h', rfl⟩ := h
            obtain ⟨h1, h2⟩ := bytesNs_eq h'
            refine ⟨by rw [h1]; rfl, fun m hm => ?_⟩
            rcases List.mem_cons.1 hm with rfl | hm
            · exact Nat.le_of_ble_eq_true hb
            · exact h2 m hm
        | negSucc n => simp [bytesNs] at h
      | _ => simp [bytesNs] at h
    | _ => simp [bytesNs] at h
theorem clo_bytesNs : ∀ (ns : List Nat), cloL (ns.map (fun n => Value.int .u8 (Int.ofNat n))) = true
  | [] => rfl
  | n :: ns => by simp only [List.map_cons, cloL, clo_bytesNs ns, Bool.and_true]; rfl

def bytesV (ns : List Nat) : ByteArray := ⟨⟨ns.map Nat.toUInt8⟩⟩

theorem run_loadBytes {P : Program} {w : World} {b : Nat} : ∀ (ns : List Nat) (off : Nat) (acc : List UInt8), (∀ j v, (ns.map (fun n => Value.int .u8 (Int.ofNat n)))[j]? = some v → w.cell? ⟨b, off + j, none⟩ = some v) →
    (Extern.Bytes.loadBytes ⟨b, off, none⟩ ns.length ⟨⟨acc⟩⟩).run P w = .ok ⟨⟨acc ++ ns.map Nat.toUInt8⟩⟩ w
  | [], off, acc, _ => by simp [Extern.Bytes.loadBytes]
  | n :: ns, off, acc, h => by
    have h0 := h 0 (.int .u8 (Int.ofNat n)) rfl
    simp only [Nat.add_zero] at h0
    have ih := run_loadBytes (P := P) (w := w) ns (off + 1) (acc ++ [n.toUInt8]) (fun j v hj => by
      have := h (j + 1) v (by simpa using hj)
      rwa [show off + (j + 1) = off + 1 + j from by omega] at this)
    simp only [List.length_cons, Extern.Bytes.loadBytes, Sem.run_bind, run_load, h0, Result.andThen_ok, addr_add, Int.ofNat_eq_natCast, Int.toNat_natCast]
    have hp : (⟨⟨acc⟩⟩ : ByteArray).push n.toUInt8 = ⟨⟨acc ++ [n.toUInt8]⟩⟩ := by simp [ByteArray.push]
    rw [hp, ih]
    simp

/-- What a slice of bytes holds. -/
def aBytes (h : AHeap) (x : Value) : Option (List Nat) :=
  match x with
  | .slice (some ⟨i, off, none⟩) n _ => (aload h i off n).bind bytesNs
  | _ => none

theorem aBytes_run {P : Program} {R : Emb} {h : AHeap} {w : World} {x x' : Value} {ns : List Nat} (hr : Rel R h w) (hx : sub R x = some x') (hb : aBytes h x = some ns) :
    (Extern.Bytes.bytesOf x').run P w = .ok (bytesV ns) w ∧ ∀ n ∈ ns, n < 256 := by
  unfold aBytes at hb
  split at hb
  · rename_i i off n c
    simp only [sub, Option.map_eq_some_iff] at hx
    obtain ⟨e0, he0, rfl⟩ := hx
    simp only [Option.bind_eq_some_iff] at hb
    obtain ⟨l, hal, hk⟩ := hb
    obtain ⟨hle, hlt⟩ := bytesNs_eq hk
    obtain ⟨l', hsl, hlen, hcells⟩ := aload_run hr he0 hal
    rw [hle, subL_clo R _ (clo_bytesNs ns)] at hsl
    simp only [Option.some.injEq] at hsl
    subst hsl
    have hn : ns.length = n := by simpa using hlen
    refine ⟨?_, hlt⟩
    have := run_loadBytes (P := P) (w := w) ns off [] hcells
    simp only [List.nil_append, hn] at this
    exact this
  · cases hb

/-- Which one is greater: -1, 0, 1. -/
def cmpN : List Nat → List Nat → Int
  | [], [] => 0
  | [], _ :: _ => -1
  | _ :: _, [] => 1
  | x :: xs, y :: ys => cond (Nat.beq x y) (cmpN xs ys) (cond (Nat.blt x y) (-1) 1)

theorem bytesV_get (ns : List Nat) (i : Nat) : (bytesV ns)[i]! = (ns.map Nat.toUInt8).getD i 0 := by
  by_cases h : i < ns.length
  · have hs : i < (bytesV ns).size := by simpa [bytesV, ByteArray.size] using h
    rw [getElem!_pos (bytesV ns) i hs]
    simp [bytesV, ByteArray.getElem_eq_getElem_data, List.getD, h]
  · have hs : ¬ i < (bytesV ns).size := by simpa [bytesV, ByteArray.size] using h
    rw [getElem!_neg (bytesV ns) i hs]
    simp [List.getD, h]
    rfl

theorem toUInt8_inj {x y : Nat} (hx : x < 256) (hy : y < 256) : x.toUInt8 = y.toUInt8 ↔ x = y := by
  constructor
  · intro h
    have := congrArg UInt8.toNat h
    simp at this
    omega
  · rintro rfl; rfl
theorem toUInt8_lt {x y : Nat} (hx : x < 256) (hy : y < 256) : x.toUInt8 < y.toUInt8 ↔ x < y := by
  rw [UInt8.lt_iff_toNat_lt]
  simp
  omega

theorem bytesV_size (ns : List Nat) : (bytesV ns).size = ns.length := by simp [bytesV, ByteArray.size]

theorem cmp_eq : ∀ (xs ys : List Nat), (∀ x ∈ xs, x < 256) → (∀ y ∈ ys, y < 256) → Extern.BytealgCompare.cmp (bytesV xs) (bytesV ys) = cmpN xs ys
  | [], [], _, _ => by simp [Extern.BytealgCompare.cmp, bytesV_size, cmpN]
  | [], y :: ys, _, _ => by simp [Extern.BytealgCompare.cmp, bytesV_size, cmpN]
  | x :: xs, [], _, _ => by simp [Extern.BytealgCompare.cmp, bytesV_size, cmpN]
  | x :: xs, y :: ys, hx, hy => by
    have h1 := hx x (List.mem_cons_self ..)
    have h2 := hy y (List.mem_cons_self ..)
    have ih := cmp_eq xs ys (fun z hz => hx z (List.mem_cons_of_mem _ hz)) (fun z hz => hy z (List.mem_cons_of_mem _ hz))
    have s1 : (bytesV (x :: xs)).size = xs.length + 1 := by simp [bytesV, ByteArray.size]
    have s2 : (bytesV (y :: ys)).size = ys.length + 1 := by simp [bytesV, ByteArray.size]
    have t1 : (bytesV xs).size = xs.length := by simp [bytesV, ByteArray.size]
    have t2 : (bytesV ys).size = ys.length := by simp [bytesV, ByteArray.size]
    unfold Extern.BytealgCompare.cmp at ih ⊢
    simp only [s1, s2, t1, t2, bytesV_get] at ih ⊢
    rw [show min (xs.length + 1) (ys.length + 1) = min xs.length ys.length + 1 from by omega, List.range_succ_eq_map, List.find?_cons]
    simp only [List.map_cons, List.getD_cons_zero]
    by_cases he : x = y
    · subst he
      have hb : (x.toUInt8 != x.toUInt8) = false := by simp
      rw [hb]
      simp only [cmpN, Nat.beq_refl, cond_true]
      rw [← ih]
      rw [List.find?_map]
      simp only [Function.comp_def, List.getD_cons_succ]
      cases hf : List.find? (fun i => (List.map Nat.toUInt8 xs).getD i 0 != (List.map Nat.toUInt8 ys).getD i 0) (List.range (min xs.length ys.length)) with
      | none => simp
      | some i => simp
    · have hb : (x.toUInt8 != y.toUInt8) = true := by
        rw [bne_iff_ne, ne_eq, toUInt8_inj h1 h2]; exact he
      rw [hb]
      have hbe : Nat.beq x y = false := Bool.eq_false_iff.2 fun e => he (Nat.eq_of_beq_eq_true e)
      simp only [cmpN, hbe, cond_false, List.getD_cons_zero, toUInt8_lt h1 h2]
      by_cases hlt : x < y
      · have : Nat.blt x y = true := Nat.ble_eq_true_of_le hlt
        rw [if_pos hlt, this]; rfl
      · have : Nat.blt x y = false := Bool.eq_false_iff.2 fun e => hlt (Nat.le_of_ble_eq_true e)
        rw [if_neg hlt, this]; rfl

/-- What a function without a Go body does. -/
def eExt (P : Program) (h : AHeap) (k : ExtK) (args : List Value) : Option EOut :=
  match k with
  | .no => none
  | .cmp => match args with
    | [a, b] => match aBytes h a, aBytes h b with
      | some xs, some ys => some (some (.int .i64 (cmpN xs ys)), h)
      | _, _ => none
    | _ => none
  | .count => cond (cloL args) (match qv P (Extern.BytealgCount.count ⟨args⟩) with
    | some v => cond (clo v) (some (some v, h)) none
    | none => none) none
  | .index => cond (cloL args) (match qv P (Extern.BytealgIndexByte.indexByte ⟨args⟩) with
    | some v => cond (clo v) (some (some v, h)) none
    | none => none) none
  | .clone => match args with
    | [.iface t (.map (some r))] => match h.get r with
      | some (.map es c) => some (some (.iface t (.map (some h.next))), h.add (.map es c))
      | _ => none
    | _ => none

theorem eExt_sound {P : Program} {h : AHeap} {k : ExtK} {args args' : List Value} {out : EOut} {R : Emb} {w : World} (hr : Rel R h w) (ha : subL R args = some args') (hl : eExt P h k args = some out) :
    ∃ R' w' v v', Ext R h w R' out.2 w' ∧ Rel R' out.2 w' ∧ out.1 = some v ∧ (k.row ⟨args'⟩).run P w = .ok v' w' ∧ sub R' v = some v' := by
  have quiet : ∀ {row : Array Value → Sem Value}, (cond (cloL args) (match qv P (row ⟨args⟩) with
      | some v => cond (clo v) (some ((some v, h) : EOut)) none
      | none => none) none) = some out → ∃ R' w' v v', Ext R h w R' out.2 w' ∧ Rel R' out.2 w' ∧ out.1 = some v ∧ (row ⟨args'⟩).run P w = .ok v' w' ∧ sub R' v = some v' := fun {row} hq => by
    cases hc : cloL args with
    | false => rw [hc] at hq; cases hq
    | true =>
      rw [hc] at hq
      simp only [cond_true] at hq
      rw [subL_clo R args hc] at ha
      simp only [Option.some.injEq] at ha
      subst ha
      split at hq
      · rename_i v hv
        cases hcv : clo v with
        | false => rw [hcv] at hq; cases hq
        | true =>
          rw [hcv] at hq
          simp only [cond_true, Option.some.injEq] at hq
          subst hq
          exact ⟨R, w, v, v, Ext.refl _ _ _, hr, rfl, qv_run hv w, sub_clo R v hcv⟩
      · cases hq
  cases k with
  | no => cases hl
  | cmp =>
    simp only [eExt] at hl
    split at hl
    · rename_i a b
      obtain ⟨a', l1, rfl, ha', hl1⟩ := subL_cons_inv ha
      obtain ⟨b', l2, rfl, hb', hl2⟩ := subL_cons_inv hl1
      simp only [subL, Option.some.injEq] at hl2
      subst hl2
      split at hl
      · rename_i xs ys hxs hys
        simp only [Option.some.injEq] at hl
        subst hl
        obtain ⟨r1, b1⟩ := aBytes_run (P := P) hr ha' hxs
        obtain ⟨r2, b2⟩ := aBytes_run (P := P) hr hb' hys
        refine ⟨R, w, _, .int .i64 (cmpN xs ys), Ext.refl _ _ _, hr, rfl, ?_, rfl⟩
        have hrow : ExtK.cmp.row ⟨[a', b']⟩ = (do pure (goInt (Extern.BytealgCompare.cmp (← Extern.Bytes.bytesOf a') (← Extern.Bytes.bytesOf b')))) := rfl
        simp only [hrow, Sem.run_bind, r1, r2, Result.andThen_ok, Sem.run_pure, cmp_eq xs ys b1 b2, goInt]
      · cases hl
    · cases hl
  | count => exact quiet hl
  | index => exact quiet hl
  | clone =>
    simp only [eExt] at hl
    split at hl
    · rename_i t r
      obtain ⟨a', l1, rfl, ha', hl1⟩ := subL_cons_inv ha
      simp only [subL, Option.some.injEq] at hl1
      subst hl1
      simp only [sub, Option.map_map, Option.map_eq_some_iff, Function.comp] at ha'
      obtain ⟨e0, he0, rfl⟩ := ha'
      split at hl
      · rename_i es c hg
        simp only [Option.some.injEq] at hl
        subst hl
        obtain ⟨es', hs, hwb, hrun⟩ := hr.map (P := P) he0 hg
        have := hr.alloc (ob := .map es c) (o := .map ⟨es'⟩ c) (x := 0) ⟨es', hs, rfl⟩
        refine ⟨_, _, _, .iface t (.map (some w.heap.size)), this.2, this.1, rfl, ?_, by simp [sub, Emb.ins_self]⟩
        have hrow : ExtK.clone.row ⟨[.iface t (.map (some e0.1))]⟩ = (do
            let .map entries clock ← getObj e0.1 | stuck "maps.clone: a map expected"
            pure (.iface t (.map (some (← newObj (.map entries clock)))))) := rfl
        simp only [hrow, Sem.run_bind, hrun, Result.andThen_ok, run_newObj, Sem.run_pure]
      · cases hl
    · cases hl
end Ev
end Go.Proofs.YthckkbhjocjmkaaGreatDoor
