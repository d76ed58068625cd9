/- Claim: FnStoppers answers true for every input and its argument reads behind the call as before. The card: the variables that the row lists are tied to the program's text. -/
import Derived.Test.YtpcckakchpblcaaGreatDoorTie
import Derived.Test.YtpcckakchpblcaaGreatDoorCards
import Derived.Lay
import Derived.LaidMore
import Derived.SevenTiedAt
import Derived.ProofKit
import Derived.Test.YtpcckakchpblcaaGreatDoorJ48
import Derived.Test.YtpcckakchpblcaaGreatDoorStpsLaw
namespace Go.Proofs.YtpcckakchpblcaaGreatDoor
open Eng Go.ChangeShapes Go.WideShapes Go.ChangeAt Go.RowKit
set_option maxHeartbeats 0
set_option maxRecDepth 100000

theorem fnStoppers_lifted (os : Os) (started : os.Started) (H : Type) (enc : TypeId × Value → H) :
    ReturnsInHanded {} Tryz.checked os 4 .any (fun w args => (Rows.fnStoppersSpec.pre enc Tryz.prog Tryz.f4 [] false w args ∧ laidMetH Tryz.prog Rows.fnStoppersRow.laid w) ∧ sizedMet enc Tryz.prog Tryz.f4 (OpenSpec.ofChange Rows.fnStoppersSpec) false w args) (Rows.fnStoppersSpec.post enc Tryz.prog Tryz.f4 false true false false) := by
  refine law_liftedL (C := Tryz.checked) (tb := 4) (l := Rows.fnStoppersRow.laid) own started (by kernel_rfl) Tryz.func4
    (ChangeSpec.witness_shaped (enc := enc) (C := Tryz.checked) (os := os) (X := fun w _ => laidMetH Tryz.prog Rows.fnStoppersRow.laid w) false (World.laidAll Tryz.prog os Rows.fnStoppersRow.laid) #[.slice none 0 0] 8 (World.laidAll_os _ _ _)
      (World.shaped_of_ZipB (by kernel_rfl) (by kernel_rfl)) (by kernel_rfl) (by kernel_rfl) (by kernel_rfl)
      (by rw [MakeChecks.laidMetH_plain _ _ _ (by kernel_rfl)]; exact laidMet_laidAll _ (by kernel_rfl) (by kernel_rfl)))
    laidOut (by kernel_rfl) rfl rfl Tryz.underlying4 ?_ ?_ ?_
  · intro ds h
    match ds, h with
    | [d0], _ => exact ⟨rfl, rfl, rfl⟩
  · intro W base args ds p hval hA
    exact law_of1 hval hA Tryz.params4 prd_bytes (fun a ha => lawStoppers_ok a)
  · exact gok_of (by kernel_rfl) (by repeat (first | exact List.Mem.head _ | apply List.Mem.tail)) (by repeat (first | exact List.Mem.head _ | apply List.Mem.tail))

theorem fnStoppers_row : Rows.FnStoppersSaid :=
  OpenClaim.holds_of_wide 4 Tryz.f4 rfl rfl rfl rfl rfl rfl rfl ⟨rfl, rfl, rfl, rfl, rfl⟩ rfl rfl rfl rfl rfl (by kernel_rfl) Tryz.func4 (by show joinedFacts Tryz.prog _ _ _ _ = true; unfold joinedFacts; rw [p_enter, p_final, p_make]; kernel_rfl)
    (of_decide_eq_true (by kernel_rfl))
    (by unfold Func.isWrapper; first | (rw [if_pos (by decide +kernel)]; kernel_rfl) | (rw [if_neg (by decide +kernel)]; exact ⟨rfl, rfl⟩))
    (fun os started H enc _ => fnStoppers_lifted os started H enc)

/-- The tied card. -/
theorem fnStoppers_holds : Rows.FnStoppersCardSaid :=
  Claim7.holds_tied_plain_at .later [] Rows.fnStoppersCard.laidKinds true Rows.fnStoppersCard.stood.harness Rows.fnStoppersCard.stood.looks fnStoppers_row (fun _ h => by cases h) (by kernel_rfl) (fun _ h => by cases h) fnStoppers_row_tie rfl ⟨rfl, rfl⟩ (by kernel_rfl) rfl
    (fun f fn hf hfn => by
      obtain rfl : f = 4 := Option.some.inj ((show Tryz.prog.funcNamed "loop.example/g00868/laws.FnStoppers" = some 4 by kernel_rfl).symm.trans hf) |>.symm
      obtain rfl : fn = Tryz.f4 := (Option.some.inj (Tryz.func4.symm.trans hfn)).symm
      exact ⟨by kernel_rfl, fun j t ht => by
        have hall : (Tryz.f4.params.toList.all fun u => !Tryz.prog.wantsStandIn u) = true := by kernel_rfl
        have hm : t ∈ Tryz.f4.params.toList := by simpa using Array.mem_of_getElem? ht
        exact (show Tryz.prog.wantsStandIn t = false by simpa using List.all_eq_true.1 hall t hm)⟩)
    (by kernel_rfl)
end Go.Proofs.YtpcckakchpblcaaGreatDoor
