/- Claim: FnExactQuotientText answers true for every input and its arguments read behind the call as before. The card: the variables that the row lists are tied to the program's text. -/
import Derived.Test.YtmfbcipjknjicaaGreatDoorTie
import Derived.Test.YtmfbcipjknjicaaGreatDoorCards
import Derived.Lay
import Derived.LaidMore
import Derived.SevenTiedAt
import Derived.ProofKit
import Derived.Test.YtmfbcipjknjicaaGreatDoorJ48
namespace Go.Proofs.YtmfbcipjknjicaaGreatDoor
open Eng Go.ChangeShapes Go.WideShapes Go.ChangeAt Go.RowKit
set_option maxHeartbeats 0
set_option maxRecDepth 100000

theorem fnExactQuotientText_lifted (os : Os) (started : os.Started) (H : Type) (enc : TypeId × Value → H) :
    ReturnsInHanded {} Tryz.checked os 5 .any (fun w args => (Rows.fnExactQuotientTextSpec.pre enc Tryz.prog Tryz.f5 [] false w args ∧ laidMetH Tryz.prog Rows.fnExactQuotientTextRow.laid w) ∧ sizedMet enc Tryz.prog Tryz.f5 (OpenSpec.ofChange Rows.fnExactQuotientTextSpec) false w args) (Rows.fnExactQuotientTextSpec.post enc Tryz.prog Tryz.f5 false true false false) := by
  refine law_liftedL (C := Tryz.checked) (tb := 4) (l := Rows.fnExactQuotientTextRow.laid) own started (by kernel_rfl) Tryz.func5
    (ChangeSpec.witness_shaped (enc := enc) (C := Tryz.checked) (os := os) (X := fun w _ => laidMetH Tryz.prog Rows.fnExactQuotientTextRow.laid w) false (World.laidAll Tryz.prog os Rows.fnExactQuotientTextRow.laid) #[.slice none 0 0, .agg #[.int .i64 0, .int .i64 0]] 8 (World.laidAll_os _ _ _)
      (World.shaped_of_ZipB (by kernel_rfl) (by kernel_rfl)) (by kernel_rfl) (by kernel_rfl) (by kernel_rfl)
      (by rw [MakeChecks.laidMetH_plain _ _ _ (by kernel_rfl)]; exact laidMet_laidAll _ (by kernel_rfl) (by kernel_rfl)))
    laidOut (by kernel_rfl) rfl rfl Tryz.underlying4 ?_ ?_ ?_
  · intro ds h
    match ds, h with
    | [d0, d1], _ => exact ⟨rfl, rfl, rfl⟩
  · intro W base args ds p hval hA
    exact law_of2 hval hA Tryz.params5 prd_ints prd_box (fun a b ha hb => lawQt_ok a b.1 b.2)
  · exact fun _ _ g hg => by cases hg

theorem fnExactQuotientText_row : Rows.FnExactQuotientTextSaid :=
  OpenClaim.holds_of_wide 5 Tryz.f5 rfl rfl rfl rfl rfl rfl rfl ⟨rfl, rfl, rfl, rfl, rfl⟩ rfl rfl rfl rfl rfl (by kernel_rfl) Tryz.func5 (by show joinedFacts Tryz.prog _ _ _ _ = true; unfold joinedFacts; rw [p_enter, p_final, p_make]; kernel_rfl)
    (of_decide_eq_true (by kernel_rfl))
    (by unfold Func.isWrapper; first | (rw [if_pos (by decide +kernel)]; kernel_rfl) | (rw [if_neg (by decide +kernel)]; exact ⟨rfl, rfl⟩))
    (fun os started H enc _ => fnExactQuotientText_lifted os started H enc)

/-- The tied card. -/
theorem fnExactQuotientText_holds : Rows.FnExactQuotientTextCardSaid :=
  Claim7.holds_tied_plain_at .later [] Rows.fnExactQuotientTextCard.laidKinds true Rows.fnExactQuotientTextCard.stood.harness Rows.fnExactQuotientTextCard.stood.looks fnExactQuotientText_row (fun _ h => by cases h) (by kernel_rfl) (fun _ h => by cases h) fnExactQuotientText_row_tie rfl ⟨rfl, rfl⟩ (by kernel_rfl) rfl
    (fun f fn hf hfn => by
      obtain rfl : f = 5 := Option.some.inj ((show Tryz.prog.funcNamed "loop.example/g00868/laws.FnExactQuotientText" = some 5 by kernel_rfl).symm.trans hf) |>.symm
      obtain rfl : fn = Tryz.f5 := (Option.some.inj (Tryz.func5.symm.trans hfn)).symm
      exact ⟨by kernel_rfl, fun j t ht => by
        have hall : (Tryz.f5.params.toList.all fun u => !Tryz.prog.wantsStandIn u) = true := by kernel_rfl
        have hm : t ∈ Tryz.f5.params.toList := by simpa using Array.mem_of_getElem? ht
        exact (show Tryz.prog.wantsStandIn t = false by simpa using List.all_eq_true.1 hall t hm)⟩)
    (by kernel_rfl)
end Go.Proofs.YtmfbcipjknjicaaGreatDoor
