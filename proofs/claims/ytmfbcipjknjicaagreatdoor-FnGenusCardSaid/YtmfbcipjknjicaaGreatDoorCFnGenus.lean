/- Claim: FnGenus answers true for every input and its argument reads behind the call as before. The card: the variables that the row lists are tied to the program's text. -/
import Derived.Test.YtmfbcipjknjicaaGreatDoorTie
import Derived.Test.YtmfbcipjknjicaaGreatDoorCards
import Derived.Lay
import Derived.LaidMore
import Derived.SevenTiedAt
import Derived.ProofKit
import Derived.Test.YtmfbcipjknjicaaGreatDoorJ48
import Derived.Test.YtmfbcipjknjicaaGreatDoorLawGn
namespace Go.Proofs.YtmfbcipjknjicaaGreatDoor
instance oneB : One Bool := ⟨true⟩
open Eng Go.ChangeShapes Go.WideShapes Go.ChangeAt Go.RowKit
set_option maxHeartbeats 0
set_option maxRecDepth 100000

theorem fnGenus_lifted (os : Os) (started : os.Started) (H : Type) (enc : TypeId × Value → H) :
    ReturnsInHanded {} Tryz.checked os 4 .any (fun w args => (Rows.fnGenusSpec.pre enc Tryz.prog Tryz.f4 [] false w args ∧ laidMetH Tryz.prog Rows.fnGenusRow.laid w) ∧ sizedMet enc Tryz.prog Tryz.f4 (OpenSpec.ofChange Rows.fnGenusSpec) false w args) (Rows.fnGenusSpec.post enc Tryz.prog Tryz.f4 false true false false) := by
  refine law_liftedL (C := Tryz.checked) (tb := 4) (l := Rows.fnGenusRow.laid) own started (by kernel_rfl) Tryz.func4
    (ChangeSpec.witness_shaped (enc := enc) (C := Tryz.checked) (os := os) (X := fun w _ => laidMetH Tryz.prog Rows.fnGenusRow.laid w) false (World.laidAll Tryz.prog os Rows.fnGenusRow.laid) #[.slice none 0 0] 8 (World.laidAll_os _ _ _)
      (World.shaped_of_ZipB (by kernel_rfl) (by kernel_rfl)) (by kernel_rfl) (by kernel_rfl) (by kernel_rfl)
      (by rw [MakeChecks.laidMetH_plain _ _ _ (by kernel_rfl)]; exact laidMet_laidAll _ (by kernel_rfl) (by kernel_rfl)))
    laidOut (by kernel_rfl) rfl rfl Tryz.underlying4 ?_ ?_ ?_
  · intro ds h
    match ds, h with
    | [d0], _ => exact ⟨rfl, rfl, rfl⟩
  · intro W base args ds p hval hA
    exact law_of1 hval hA Tryz.params4 prd_bytes (fun a ha => lawGn_ok rfl a)
  · exact fun _ _ g hg => by cases hg

theorem fnGenus_row : Rows.FnGenusSaid :=
  OpenClaim.holds_of_wide 4 Tryz.f4 rfl rfl rfl rfl rfl rfl rfl ⟨rfl, rfl, rfl, rfl, rfl⟩ rfl rfl rfl rfl rfl (by kernel_rfl) Tryz.func4 (by show joinedFacts Tryz.prog _ _ _ _ = true; unfold joinedFacts; rw [p_enter, p_final, p_make]; kernel_rfl)
    (of_decide_eq_true (by kernel_rfl))
    (by unfold Func.isWrapper; first | (rw [if_pos (by decide +kernel)]; kernel_rfl) | (rw [if_neg (by decide +kernel)]; exact ⟨rfl, rfl⟩))
    (fun os started H enc _ => fnGenus_lifted os started H enc)

theorem fnGenus_holds : Rows.FnGenusCardSaid :=
  Claim7.holds_tied_plain_at .later [] Rows.fnGenusCard.laidKinds true Rows.fnGenusCard.stood.harness Rows.fnGenusCard.stood.looks fnGenus_row (fun _ h => by cases h) (by kernel_rfl) (fun _ h => by cases h) fnGenus_row_tie rfl ⟨rfl, rfl⟩ (by kernel_rfl) rfl
    (fun f fn hf hfn => by
      obtain rfl : f = 4 := Option.some.inj ((show Tryz.prog.funcNamed "loop.example/g00868/laws.FnGenus" = some 4 by kernel_rfl).symm.trans hf) |>.symm
      obtain rfl : fn = Tryz.f4 := (Option.some.inj (Tryz.func4.symm.trans hfn)).symm
      exact ⟨by kernel_rfl, fun j t ht => by
        have hall : (Tryz.f4.params.toList.all fun u => !Tryz.prog.wantsStandIn u) = true := by kernel_rfl
        have hm : t ∈ Tryz.f4.params.toList := by simpa using Array.mem_of_getElem? ht
        exact (show Tryz.prog.wantsStandIn t = false by simpa using List.all_eq_true.1 hall t hm)⟩)
    (by kernel_rfl)
end Go.Proofs.YtmfbcipjknjicaaGreatDoor
