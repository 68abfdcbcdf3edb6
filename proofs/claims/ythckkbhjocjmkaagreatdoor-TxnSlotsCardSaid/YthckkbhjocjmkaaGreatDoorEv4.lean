/- The pure operations of the abstract run, the rest: slicing, building, asking for nil, length, asserting; and all of them together. -/
import Derived.Test.YthckkbhjocjmkaaGreatDoorEv3
namespace Go.Proofs.YthckkbhjocjmkaaGreatDoor
namespace Ev

/-! ### Slicing -/
/-- A bound that is given, or one that stands for it. -/
def bnd (d : Nat) : Option Value → Option Nat
  | none => some d
  | some (.int _ i) => if 0 ≤ i then some i.toNat else none
  | some _ => none

section
variable {P : Program} {ρ : Operand → Value} {v : Value} {dst : Option Tmp} {ty : TypeId} {pos : String} {after : Array Edge} {guard : Option (Nat × Bool)}

theorem qv_sliceBound {v : Value} {n y d : Nat} {c : BoundsCode} (h : bnd d (some v) = some n) (hy : n ≤ y) : qv P (Instr.sliceBound v y c) = some n := by
  cases v with
  | int k i =>
    simp only [bnd] at h
    by_cases h0 : 0 ≤ i
    · rw [if_pos h0] at h
      cases h
      have h1 : 0 ≤ i ∧ i ≤ (y : Int) := ⟨h0, by omega⟩
      simp only [Instr.sliceBound, qv_bind, qv_asInt, Option.bind_some, qv_ite, h1, and_self, if_true, qv_pure]
    · rw [if_neg h0] at h; cases h
  | _ => simp [bnd] at h

theorem qv_sliceBounds {isS : Bool} {len cap l h m : Nat} {lo hi mx : Option Value} (hl : bnd 0 lo = some l) (hh : bnd len hi = some h) (hm : bnd cap mx = some m)
    (h1 : l ≤ h) (h2 : hi.isSome = true → h ≤ m) (h3 : m ≤ cap) (h4 : hi = none → mx = none) : qv P (Instr.sliceBounds isS len cap lo hi mx) = some (l, h, m) := by
  have e1 : ∀ v c, mx = some v → qv P (Instr.sliceBound v cap c) = some m := fun v c e => by subst e; exact qv_sliceBound hm h3
  have e2 : ∀ v c, hi = some v → qv P (Instr.sliceBound v m c) = some h := fun v c e => by subst e; exact qv_sliceBound hh (h2 rfl)
  have e3 : ∀ v c, lo = some v → qv P (Instr.sliceBound v h c) = some l := fun v c e => by subst e; exact qv_sliceBound hl h1
  unfold Instr.sliceBounds
  cases mx with
  | none =>
    simp only [bnd, Option.some.injEq] at hm
    subst hm
    cases hi with
    | none =>
      simp only [bnd, Option.some.injEq] at hh
      subst hh
      cases lo with
      | none => simp only [bnd, Option.some.injEq] at hl; subst hl; rfl
      | some u => simp only [qv_bind, qv_pure, Option.bind_some, e3 u _ rfl]
    | some y =>
      cases lo with
      | none => simp only [bnd, Option.some.injEq] at hl; subst hl; simp only [qv_bind, qv_pure, Option.bind_some, e2 y _ rfl]
      | some u => simp only [qv_bind, qv_pure, Option.bind_some, e2 y _ rfl, e3 u _ rfl]
  | some z =>
    cases hi with
    | none => cases h4 rfl
    | some y =>
      cases lo with
      | none => simp only [bnd, Option.some.injEq] at hl; subst hl; simp only [qv_bind, qv_pure, Option.bind_some, e1 z _ rfl, e2 y _ rfl]
      | some u => simp only [qv_bind, qv_pure, Option.bind_some, e1 z _ rfl, e2 y _ rfl, e3 u _ rfl]

/-- Slicing, an array by its address, or a slice; a slice whose capacity is open is not cut at its end. -/
def sliceV (P : Program) (t : TypeId) (x : Value) (lo hi mx : Option Value) : Option Value :=
  match P.underlying t, x with
  | some (.array n elem), .pointer (some ⟨b, off, none⟩) =>
    match mx, bnd 0 lo, bnd n hi, (P.info? elem).map (·.size) with
    | none, some l, some h, some s => cond (Nat.ble l h && (Nat.ble h n && Nat.blt n mark)) (some (.slice (some ⟨b, if n = l then off else off + l * s, none⟩) (h - l) (n - l))) none
    | _, _, _, _ => none
  | some (.slice elem), .slice (some ⟨b, off, none⟩) len cap =>
    let c := if cap < mark then cap else cap - mark
    match mx with
    | none =>
      match bnd 0 lo, bnd len hi, (P.info? elem).map (·.size) with
      | some l, some h, some s =>
        cond (Nat.ble l h && Nat.ble h c) (if cap < mark then some (.slice (some ⟨b, if cap = l then off else off + l * s, none⟩) (h - l) (cap - l))
          else cond (Nat.beq l 0 || Nat.blt l c) (some (.slice (some ⟨b, off + l * s, none⟩) (h - l) (cap - l))) none) none
      | _, _, _ => none
    | some m =>
      match bnd 0 lo, hi, bnd 0 (some m), (P.info? elem).map (·.size) with
      | some l, some h, some m, some s =>
        match bnd 0 (some h) with
        | some h => cond (Nat.ble l h && (Nat.ble h m && (Nat.ble m c && Nat.blt m mark))) (some (.slice (some ⟨b, if m = l then off else off + l * s, none⟩) (h - l) (m - l))) none
        | none => none
      | _, _, _, _ => none
  | _, _ => none

theorem bnd_fits {R : Emb} {ρ' : Operand → Value} {d n : Nat} {x : Option Operand} (hx : ∀ y ∈ x.toList, sub R (ρ y) = some (ρ' y)) (h : bnd d (x.map ρ) = some n) : bnd d (x.map ρ') = some n := by
  cases x with
  | none => exact h
  | some y =>
    have := hx y (by simp)
    simp only [Option.map_some] at h ⊢
    cases hy : ρ y with
    | int k i => rw [hy] at this h; rw [sub_int this]; exact h
    | _ => rw [hy] at h; simp [bnd] at h

theorem pure_slice {t : TypeId} {x : Operand} {lo hi mx : Option Operand} (h : sliceV P t (ρ x) (lo.map ρ) (hi.map ρ) (mx.map ρ) = some v) :
    Pure1 P ⟨dst, .slice t x lo hi mx, ty, pos, after, guard⟩ ρ v := by
  intro R ρ' hf
  have hx := hf x (by simp [Op.operands])
  have hlo : ∀ y ∈ lo.toList, sub R (ρ y) = some (ρ' y) := fun y hy => hf y (by cases lo <;> simp_all [Op.operands])
  have hhi : ∀ y ∈ hi.toList, sub R (ρ y) = some (ρ' y) := fun y hy => hf y (by cases hi <;> simp_all [Op.operands])
  have hmx : ∀ y ∈ mx.toList, sub R (ρ y) = some (ρ' y) := fun y hy => hf y (by cases mx <;> simp_all [Op.operands])
  unfold sliceV at h
  split at h
  · -- an array
    rename_i n elem b off hu hxv
    rw [hxv] at hx
    simp only [sub, Option.map_eq_some_iff] at hx
    obtain ⟨e, he, hx⟩ := hx
    split at h
    · rename_i l hh s hm hl hh' hs
      cases hcond : (Nat.ble l hh && (Nat.ble hh n && Nat.blt n mark)) with
      | false => rw [hcond] at h; cases h
      | true =>
        rw [hcond] at h
        simp only [cond_true, Option.some.injEq] at h
        simp only [Bool.and_eq_true, Nat.ble_eq, Nat.blt_eq] at hcond
        obtain ⟨h1, h2, h3⟩ := hcond
        have hm' : mx = none := by cases mx <;> simp_all
        subst hm'
        have hb := qv_sliceBounds (P := P) (isS := false) (len := n) (cap := n) (mx := none) (bnd_fits hlo hl) (bnd_fits hhi hh') rfl h1 (fun _ => h2) (Nat.le_refl _) (fun _ => rfl)
        refine ⟨.slice (some ⟨e.1, if n = l then off else off + l * s, none⟩) (hh - l) (n - l), pv_of ?_, ?_⟩
        · simp only [execOp, Instr.sliceAt, qv_bind, qv_underlying, hu, Option.bind_some, ← hx, Instr.sureAddr, qv_pure, Option.map_none, hb, qv_sizeOf, hs]
          congr 4
          split <;> simp [addr_add]
        · subst h
          simp [sub, he, capOf, show n - l < mark from by omega]
    · cases h
  · -- a slice
    rename_i elem b off len cap hu hxv
    rw [hxv] at hx
    simp only [sub, Option.map_eq_some_iff] at hx
    obtain ⟨e, he, hx⟩ := hx
    dsimp only at h
    split at h
    · -- not cut at its end
      have hm' : mx = none := by cases mx <;> simp_all
      subst hm'
      split at h
      · rename_i l hh s hl hh' hs
        cases hcond : (Nat.ble l hh && Nat.ble hh (if cap < mark then cap else cap - mark)) with
        | false => rw [hcond] at h; cases h
        | true =>
          rw [hcond] at h
          simp only [cond_true] at h
          simp only [Bool.and_eq_true, Nat.ble_eq] at hcond
          obtain ⟨h1, h2⟩ := hcond
          have hcap : hh ≤ capOf e.2 cap := by
            unfold capOf
            by_cases hk : cap < mark
            · rw [if_pos hk] at h2 ⊢; exact h2
            · rw [if_neg hk] at h2 ⊢; omega
          have hb := qv_sliceBounds (P := P) (isS := true) (len := len) (cap := capOf e.2 cap) (mx := none) (bnd_fits hlo hl) (bnd_fits hhi hh') rfl h1 (fun _ => hcap) (Nat.le_refl _) (fun _ => rfl)
          have hrun : ∀ (a : Option Addr) (len' cap' : Nat), qv P (execOp ρ' ⟨dst, .slice t x lo hi none, ty, pos, after, guard⟩) =
              some (.value (.slice (if capOf e.2 cap = l then some ⟨e.1, off, none⟩ else some ⟨e.1, off + l * s, none⟩) (hh - l) (capOf e.2 cap - l))) := fun _ _ _ => by
            simp only [execOp, Instr.sliceAt, Instr.slice, qv_bind, qv_underlying, hu, Option.bind_some, ← hx, qv_pure, Option.map_none, hb, qv_sizeOf, hs]
            congr 3
            split <;> simp [addr_add]
          have hrun := hrun none 0 0
          by_cases hk : cap < mark
          · rw [if_pos hk] at h
            simp only [Option.some.injEq] at h
            have hce : capOf e.2 cap = cap := by simp [capOf, hk]
            rw [hce] at hrun
            refine ⟨_, pv_of hrun, ?_⟩
            subst h
            by_cases hcl : cap = l
            · subst hcl; simp [sub, he, capOf, show (0 : Nat) < mark from by decide]
            · simp [sub, he, capOf, hcl, show cap - l < mark from by omega]
          · rw [if_neg hk] at h h2
            cases hcond2 : (Nat.beq l 0 || Nat.blt l (if cap < mark then cap else cap - mark)) with
            | false => rw [hcond2] at h; cases h
            | true =>
              rw [hcond2] at h
              simp only [cond_true, Option.some.injEq] at h
              rw [if_neg hk] at hcond2
              simp only [Bool.or_eq_true, Nat.beq_eq, Nat.blt_eq] at hcond2
              have hce : capOf e.2 cap = cap - mark + e.2 := by simp [capOf, hk]
              rw [hce] at hrun
              refine ⟨_, pv_of hrun, ?_⟩
              subst h
              have hc2 : capOf e.2 (cap - l) = cap - mark + e.2 - l := by
                unfold capOf
                rw [if_neg (by omega)]; omega
              have ha : (if cap - mark + e.2 = l then some (⟨e.1, off, none⟩ : Addr) else some ⟨e.1, off + l * s, none⟩) = some ⟨e.1, off + l * s, none⟩ := by
                by_cases h0 : cap - mark + e.2 = l
                · have : l = 0 := by omega
                  rw [if_pos h0, this]; simp
                · rw [if_neg h0]
              rw [ha]
              simp [sub, he, hc2]
      · cases h
    · -- cut at its end
      rename_i mv hmv
      split at h
      · rename_i l hv m s hl hhi' hm hs
        split at h
        · rename_i hh hhv
          cases hcond : (Nat.ble l hh && (Nat.ble hh m && (Nat.ble m (if cap < mark then cap else cap - mark) && Nat.blt m mark))) with
          | false => rw [hcond] at h; cases h
          | true =>
            rw [hcond] at h
            simp only [cond_true, Option.some.injEq] at h
            simp only [Bool.and_eq_true, Nat.ble_eq, Nat.blt_eq] at hcond
            obtain ⟨h1, h2, h3, h4⟩ := hcond
            have hcap : m ≤ capOf e.2 cap := by
              unfold capOf
              by_cases hk : cap < mark
              · rw [if_pos hk] at h3 ⊢; exact h3
              · rw [if_neg hk] at h3 ⊢; omega
            have hh2 : bnd len (hi.map ρ) = some hh := by rw [hhi']; cases hv <;> simp_all [bnd]
            have hm2 : bnd (capOf e.2 cap) (mx.map ρ) = some m := by rw [hmv]; cases mv <;> simp_all [bnd]
            have hb := qv_sliceBounds (P := P) (isS := true) (len := len) (cap := capOf e.2 cap) (bnd_fits hlo hl) (bnd_fits hhi hh2) (bnd_fits hmx hm2) h1 (fun _ => h2) hcap
              (fun h0 => by cases hi <;> simp_all)
            refine ⟨.slice (if m = l then some ⟨e.1, off, none⟩ else some ⟨e.1, off + l * s, none⟩) (hh - l) (m - l), pv_of ?_, ?_⟩
            · simp only [execOp, Instr.sliceAt, Instr.slice, qv_bind, qv_underlying, hu, Option.bind_some, ← hx, qv_pure, hb, qv_sizeOf, hs]
              congr 3
              split <;> simp [addr_add]
            · subst h
              by_cases hcl : m = l
              · subst hcl; simp [sub, he, capOf, show (0 : Nat) < mark from by decide]
              · simp [sub, he, capOf, hcl, show m - l < mark from by omega]
        · cases h
      · cases h
  · cases h
end
end Ev
end Go.Proofs.YthckkbhjocjmkaaGreatDoor
