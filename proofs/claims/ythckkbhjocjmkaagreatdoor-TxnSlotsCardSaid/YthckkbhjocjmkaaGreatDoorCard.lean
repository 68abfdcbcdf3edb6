/- Proved: for every slot (any 64-bit integer) wainscotlaw18.TxnSlots returns true and its argument reads behind the call as it read before, as the given card Rows.TxnSlotsCardSaid says it, with the two library tables that its row lists tied to the program's text. Conditions: those of the given card alone. The run itself is in the texts ahead of this one: an abstract run of the program's code that is proved sound for every order of evaluation and every order of a map, computed by the kernel. -/
import Derived.Test.YthckkbhjocjmkaaGreatDoorRows
import Derived.Test.YthckkbhjocjmkaaGreatDoorCards
import Derived.Test.YthckkbhjocjmkaaGreatDoorTie
import Derived.Test.YthckkbhjocjmkaaGreatDoorEvZ
import Derived.WalkKit
import Derived.ProofKit
import Derived.OpenShut
import Derived.LaidMore
import Derived.Lay
import Derived.SevenTiedAt
import Derived.Stop.Joined
namespace Go.Proofs.YthckkbhjocjmkaaGreatDoor.txnSlots
open Go.ChangeShapes Go.WideShapes Go.ChangeAt Go.RowKit

theorem own : ownKnob Tryz.prog.godebug = none := by kernel_rfl

set_option maxRecDepth 100000 in
theorem lifted (os : Os) (started : os.Started) (H : Type) (enc : TypeId × Value → H) :
    ReturnsInHanded {} Tryz.checked os 3 .any (fun w args => (Rows.txnSlotsSpec.pre enc Tryz.prog Tryz.f3 Rows.txnSlotsRow.domain false w args ∧ laidMetH Tryz.prog Rows.txnSlotsRow.laid w) ∧ sizedMet enc Tryz.prog Tryz.f3 (OpenSpec.ofChange Rows.txnSlotsSpec) false w args)
      (Rows.txnSlotsSpec.post enc Tryz.prog Tryz.f3 false true false false) := by
  refine returnsInHanded_of_change_and (C := Tryz.checked) (X := fun w _ => laidMetH Tryz.prog Rows.txnSlotsRow.laid w) (fun _ _ _ hh h => h.of_heap hh) own started (by kernel_rfl) Tryz.func3
    (ChangeSpec.witness_shaped (enc := enc) (C := Tryz.checked) (os := os) (X := fun w _ => laidMetH Tryz.prog Rows.txnSlotsRow.laid w) false (World.laidAll Tryz.prog os Rows.txnSlotsRow.laid) #[.int .i64 0] 8 (World.laidAll_os _ _ _)
      (World.shaped_of_ZipB (by kernel_rfl) (by kernel_rfl)) (by kernel_rfl) (by kernel_rfl) (by kernel_rfl)
      (by rw [MakeChecks.laidMetH_plain _ _ _ (by kernel_rfl)]; exact laidMet_laidAll _ (by kernel_rfl) (by kernel_rfl))) ?_
  intro W base args ds gs before hval0 hW _ _ _ _
  have hval : ∀ (j : Nat) t v, Tryz.f3.params[j]? = some t → args[j]? = some v → Value.okWide Tryz.prog W .any base t v := hval0
  have hW' := hW
  obtain ⟨p, q, hA0, hV, rfl, _, _⟩ := hW
  have hA : DataW.TrodAll enc Tryz.prog W 0 (fun _ => true) true Tryz.f3.params.toList args.toList ds p := hA0
  rw [Tryz.params3] at hA hval
  obtain ⟨v0, d0, rfl, rfl, h0⟩ := trodAll_one hA
  obtain ⟨rfl, rfl⟩ := trodVars_none hV
  obtain ⟨a0, rfl, rfl, rfl, w0⟩ := open_int Tryz.underlying3 (hval 0 3 v0 rfl rfl) h0
  simp only [List.append_nil] at hW'
  refine (Ev.txnSlots_calls a0 W).mono fun e W' ⟨he, hk⟩ => ?_
  subst he
  have e1 : Rows.txnSlotsSpec.fn H ([.lit (.int .i64 a0)] ++ []) = { results := [.lit (.bool true)], args := [.lit (.int .i64 a0)] } := by simp [Rows.txnSlotsSpec]
  refine ⟨_, rfl, _, _, _, [], [], [], hW', ?_, ?_, ?_, World.keptBut_mono (fun _ f => f.elim) hk, fun h => by cases h⟩
  · rw [e1]; exact trodAll_mk1 (shut_bool Tryz.underlying4 true)
  · rw [e1]; exact trodAll_mk1 (shut_int Tryz.underlying3 w0)
  · rw [e1]; rfl

theorem holds : Rows.TxnSlotsSaid :=
  OpenClaim.holds_of_wide 3 Tryz.f3 rfl rfl rfl rfl rfl rfl rfl ⟨rfl, rfl, rfl, rfl, rfl⟩ rfl rfl rfl rfl rfl (by kernel_rfl) Tryz.func3 (by kernel_rfl)
    (of_decide_eq_true (by kernel_rfl)) (by unfold Func.isWrapper; first | (rw [if_pos (by decide +kernel)]; kernel_rfl) | (rw [if_neg (by decide +kernel)]; exact ⟨rfl, rfl⟩))
    (fun os started H enc _ => lifted os started H enc)

theorem card_holds : Rows.TxnSlotsCardSaid :=
  Claim7.holds_tied_plain_at .later [] [.data, .pinned] true (true, "e4411fa0e7543bee1a13bcc6dae61ed17d415076cbeb0dbfa915b011e6d7d06c") true holds (fun _ h => by cases h) (by kernel_rfl) (fun _ h => by cases h) txnSlots_row_tie rfl ⟨rfl, rfl⟩ (by kernel_rfl) rfl
    (fun f fn hf hfn => by
      obtain rfl : f = 3 := Option.some.inj ((show Tryz.prog.funcNamed "wainscot/wainscotlaw18.TxnSlots" = some 3 by kernel_rfl).symm.trans hf) |>.symm
      obtain rfl : fn = Tryz.f3 := (Option.some.inj (Tryz.func3.symm.trans hfn)).symm
      exact ⟨by kernel_rfl, fun j t ht => by
        rw [Tryz.params3] at ht
        have hm : t ∈ [3] := by simpa using Array.mem_of_getElem? ht
        have hall : ([3].all fun u => !Tryz.prog.wantsStandIn u) = true := by kernel_rfl
        exact (show Tryz.prog.wantsStandIn t = false by simpa using List.all_eq_true.1 hall t hm)⟩)
    (by kernel_rfl)
end Go.Proofs.YthckkbhjocjmkaaGreatDoor.txnSlots
namespace Go.Proofs.YthckkbhjocjmkaaGreatDoor
/-- The statement. -/
theorem txnSlots_card_holds : Rows.TxnSlotsCardSaid := txnSlots.card_holds
#print axioms txnSlots_card_holds
end Go.Proofs.YthckkbhjocjmkaaGreatDoor
