/- The operations of the abstract run on maps whose keys are arrays of bytes. -/
import Derived.Test.YthckkbhjocjmkaaGreatDoorEv7
import Derived.ChangeKeysEq
namespace Go.Proofs.YthckkbhjocjmkaaGreatDoor
namespace Ev

/-- The bytes of a key. -/
def keyNs : List Value → Option (List Int)
  | [] => some []
  | .int .u8 n :: l => (keyNs l).map (n :: ·)
  | _ :: _ => none
def keyOf1 : Value → Option (List Int)
  | .agg ⟨l⟩ => keyNs l
  | _ => none

theorem keyNs_eq : ∀ {l : List Value} {ns : List Int}, keyNs l = some ns → l = ns.map (Value.int .u8)
  | [], ns, h => by simp [keyNs] at h; subst h; rfl
  | v :: l, ns, h => by
    cases v with
    | int k n =>
      cases k with
      | u8 =>
        simp only [keyNs, Option.map_eq_some_iff] at h
        obtain ⟨ns', h', rfl⟩ := h
        rw [keyNs_eq h']; rfl
      | _ => simp [keyNs] at h
    | _ => simp [keyNs] at h
theorem keyOf1_eq {v : Value} {ns : List Int} (h : keyOf1 v = some ns) : v = .agg ⟨ns.map (Value.int .u8)⟩ := by
  cases v with
  | agg a => obtain ⟨l⟩ := a; rw [keyNs_eq h]
  | _ => simp [keyOf1] at h
theorem clo_keyNs : ∀ (ns : List Int), cloL (ns.map (Value.int .u8)) = true
  | [] => rfl
  | n :: ns => by simp only [List.map_cons, cloL, clo_keyNs ns, Bool.and_true]; rfl
theorem sub_key {R : Emb} {v v' : Value} {ns : List Int} (h : keyOf1 v = some ns) (hs : sub R v = some v') : v' = v := by
  have e := keyOf1_eq h
  rw [sub_clo R v (by rw [e]; exact clo_keyNs ns)] at hs
  exact (Option.some.inj hs).symm

/-- The key's type. -/
structure KeyT (P : Program) (kt : TypeId) (n : Nat) (e : TypeId) (i : TypeInfo) : Prop where
  arr : P.underlying kt = some (.array n e)
  elem : P.underlying e = some (.int .u8)
  info : P.info? e = some i
  size : i.size = 1

section
variable {P : Program} {w : World} {kt e : TypeId} {n : Nat} {i : TypeInfo}

theorem run_isAgg_int (he : P.underlying e = some (.int .u8)) : (isAgg e).run P w = .ok false w := by
  simp [isAgg, run_underlying he]
theorem run_part_byte (he : P.underlying e = some (.int .u8)) {ns : List Int} {j : Nat} (hj : j < ns.length) :
    (part e ⟨ns.map (Value.int .u8)⟩ j).run P w = .ok (.int .u8 ns[j]) w := by
  simp [part, run_isAgg_int he, hj]

theorem run_eqItems_bytes (K : KeyT P kt n e i) {ns ms : List Int} (d : Nat) : ∀ (is : List Nat), (∀ j ∈ is, j < ns.length ∧ j < ms.length) →
    (Op.eqItems (d + 1) e (P.cellsOf e) ⟨ns.map (Value.int .u8)⟩ ⟨ms.map (Value.int .u8)⟩ is).run P w = .ok (is.all fun j => ns.getD j 0 == ms.getD j 0) w
  | [], _ => by simp [Op.eqItems]
  | j :: is, h => by
    have hj := h j (List.mem_cons_self ..)
    have hc : P.cellsOf e = 1 := by simp [Program.cellsOf, K.info, K.size]
    have ih := run_eqItems_bytes K (ns := ns) (ms := ms) d is (fun k hk => h k (List.mem_cons_of_mem _ hk))
    rw [hc] at ih ⊢
    simp only [Op.eqItems, Sem.run_bind, Nat.mul_one, run_part_byte K.elem hj.1, run_part_byte K.elem hj.2, Result.andThen_ok]
    have heq : (Op.equalIn (d + 1) e (.int .u8 ns[j]) (.int .u8 ms[j])).run P w = .ok (ns[j] == ms[j]) w := by
      simp [Op.equalIn, run_underlying K.elem]
    rw [heq]
    simp only [Result.andThen_ok, List.all_cons, List.getD, List.getElem?_eq_getElem hj.1, List.getElem?_eq_getElem hj.2, Option.getD_some]
    cases hb : (ns[j] == ms[j]) with
    | true => simpa [List.getD] using ih
    | false => simp

theorem all_eq {ns ms : List Int} (h : ns.length = n) (hm : ms.length = n) : ((List.range n).all fun j => ns.getD j 0 == ms.getD j 0) = decide (ns = ms) := by
  rw [Bool.eq_iff_iff]
  simp only [List.all_eq_true, List.mem_range, beq_iff_eq, decide_eq_true_eq]
  constructor
  · intro hall
    apply List.ext_getElem (by omega)
    intro j h1 h2
    have := hall j (by omega)
    simpa [List.getD, List.getElem?_eq_getElem h1, List.getElem?_eq_getElem h2] using this
  · rintro rfl j _; rfl

theorem run_equal_key (K : KeyT P kt n e i) {ns ms : List Int} (h : ns.length = n) (hm : ms.length = n) :
    (Op.equal kt (.agg ⟨ns.map (Value.int .u8)⟩) (.agg ⟨ms.map (Value.int .u8)⟩)).run P w = .ok (decide (ns = ms)) w := by
  have h1 := run_equalIn_array (P := P) w 9999 ⟨ns.map (Value.int .u8)⟩ ⟨ms.map (Value.int .u8)⟩ K.arr K.info
  have h2 := run_eqItems_bytes (w := w) K (ns := ns) (ms := ms) 9998 (List.range n) (fun j hj => by simp at hj; omega)
  exact h1.trans (h2.trans (by rw [all_eq h hm]))

theorem run_checkKey_bytes' (K : KeyT P kt n e i) (em : Bool) (d : Nat) {ns : List Int} (h : ns.length = n) : (Instr.checkKey em (d + 2) kt (.agg ⟨ns.map (Value.int .u8)⟩)).run P w = .ok () w := by
  have hsz : (sizeOf e).run P w = .ok 1 w := qv_run (by rw [qv_sizeOf, K.info]; simp [K.size]) w
  rw [show d + 2 = (d + 1) + 1 from rfl, Instr.checkKey]
  simp only [Sem.run_bind, run_underlying K.arr, Result.andThen_ok]
  simp only [Std.Legacy.Range.forIn_eq_forIn_range', Std.Legacy.Range.size, Nat.sub_zero, Nat.add_one_sub_one, Nat.div_one]
  have hall : ∀ j ∈ List.range' 0 n, j < ns.length := fun j hj => by
    have := (List.mem_range'_1.1 hj).2
    omega
  revert hall
  generalize List.range' 0 n = is
  induction is with
  | nil => intro _; simp
  | cons j is ih =>
    intro hall
    have hj := hall j (List.mem_cons_self ..)
    have ih := ih (fun k hk => hall k (List.mem_cons_of_mem _ hk))
    have hc : (Instr.checkKey em (d + 1) e (.int .u8 ns[j])).run P w = .ok () w := by
      rw [Instr.checkKey]
      simp [run_underlying K.elem]
    simp only [List.forIn_cons, Sem.run_bind, hsz, Result.andThen_ok, Nat.mul_one, run_part_byte K.elem hj, hc]
    simpa using ih
theorem run_checkKey_bytes (K : KeyT P kt n e i) (em : Bool) {ns : List Int} (h : ns.length = n) : (Instr.checkKey em 10000 kt (.agg ⟨ns.map (Value.int .u8)⟩)).run P w = .ok () w :=
  run_checkKey_bytes' K em 9998 h
end

/-- Where a key stands among the entries: its place, and what stands there. -/
def findE (n : Nat) (ns : List Int) : List MapEntry → Nat → Option (Option (Nat × Value))
  | [], _ => some none
  | x :: es, j => match keyOf1 x.key with
    | some ms => cond (Nat.beq ms.length n) (if ns = ms then some (some (j, x.val)) else findE n ns es (j + 1)) none
    | none => none

def FindRel (R : Emb) : Option (Nat × Value) → Option (Nat × Value) → Prop
  | none, r' => r' = none
  | some (k, v), r' => ∃ v', r' = some (k, v') ∧ sub R v = some v'

theorem findE_run {P : Program} {w : World} {kt e : TypeId} {n : Nat} {i : TypeInfo} (K : KeyT P kt n e i) {R : Emb} {ns : List Int} (hn : ns.length = n) :
    ∀ {es es' : List MapEntry} {j : Nat} {r : Option (Nat × Value)}, subEs R es = some es' → findE n ns es j = some r →
      ∃ r', (Instr.findAsking kt (.agg ⟨ns.map (Value.int .u8)⟩) es' j).run P w = .ok r' w ∧ FindRel R r r'
  | [], es', j, r, hs, hf => by
    simp only [subEs, Option.some.injEq] at hs
    subst hs
    simp only [findE, Option.some.injEq] at hf
    subst hf
    exact ⟨none, by simp [Instr.findAsking], rfl⟩
  | x :: es, es', j, r, hs, hf => by
    simp only [subEs, Option.map_eq_some_iff, Option.bind_eq_some_iff] at hs
    obtain ⟨x', hx, es'', hes, rfl⟩ := hs
    simp only [subE, Option.map_eq_some_iff, Option.bind_eq_some_iff] at hx
    obtain ⟨k', hk, v', hv, rfl⟩ := hx
    simp only [findE] at hf
    split at hf
    · rename_i ms hms
      cases hb : Nat.beq ms.length n with
      | false => rw [hb] at hf; cases hf
      | true =>
        rw [hb] at hf
        simp only [cond_true] at hf
        have hml := Nat.eq_of_beq_eq_true hb
        have hk' := sub_key hms hk
        have hke := keyOf1_eq hms
        simp only [Instr.findAsking, Sem.run_bind]
        rw [hk', hke, run_equal_key K hn hml]
        simp only [Result.andThen_ok]
        by_cases he : ns = ms
        · rw [if_pos he] at hf
          cases hf
          simp only [he, decide_true, if_true]
          exact ⟨_, by simp, v', rfl, hv⟩
        · rw [if_neg he] at hf
          simp only [he, decide_false, Bool.false_eq_true, if_false]
          exact findE_run K hn hes hf
    · cases hf

theorem findKey_run {P : Program} {w : World} {kt e : TypeId} {n : Nat} {i : TypeInfo} (K : KeyT P kt n e i) {R : Emb} {ns : List Int} (hn : ns.length = n)
    {es es' : List MapEntry} {r : Option (Nat × Value)} (hs : subEs R es = some es') (hf : findE n ns es 0 = some r) :
      ∃ r', (Instr.findKey kt (.agg ⟨ns.map (Value.int .u8)⟩) es').run P w = .ok r' w ∧ FindRel R r r' := by
  obtain ⟨r', h1, h2⟩ := findE_run (w := w) K hn hs hf
  refine ⟨r', ?_, h2⟩
  unfold Instr.findKey
  simp only [Sem.run_bind, run_underlying K.arr, Result.andThen_ok]
  cases es' with
  | nil =>
    simp only [Instr.findNow]
    simpa [Instr.findAsking] using h1
  | cons x l =>
    have : Instr.findNow (.array n e) (.agg ⟨ns.map (Value.int .u8)⟩) (x :: l) 0 = none := by simp [Instr.findNow, Instr.sameNow]
    rw [this]
    exact h1

theorem subEs_length {R : Emb} : ∀ {l l' : List MapEntry}, subEs R l = some l' → l'.length = l.length
  | [], l', h => by simp [subEs] at h; simp [h]
  | x :: l, l', h => by
    simp only [subEs, Option.map_eq_some_iff, Option.bind_eq_some_iff] at h
    obtain ⟨x', hx, l'', hl, rfl⟩ := h
    simp [subEs_length hl]
end Ev
end Go.Proofs.YthckkbhjocjmkaaGreatDoor
