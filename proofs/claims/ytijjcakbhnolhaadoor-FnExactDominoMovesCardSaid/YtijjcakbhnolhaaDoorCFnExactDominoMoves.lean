/- Claim: FnExactDominoMoves answers true for every input and its arguments read behind the call as before. The card: the variables that the row lists are tied to the program's text. -/
import Derived.Test.YtijjcakbhnolhaaDoorTie
import Derived.Test.YtijjcakbhnolhaaDoorCards
import Derived.Lay
import Derived.LaidMore
import Derived.SevenTiedAt
import Derived.ProofKit
import Derived.Test.YtijjcakbhnolhaaDoorDomL
import Derived.Test.YtijjcakbhnolhaaDoorLaid
import Derived.Test.YtijjcakbhnolhaaDoorReadB
namespace Go.Proofs.YtijjcakbhnolhaaDoor
open Eng Go.ChangeShapes Go.WideShapes Go.ChangeAt Go.RowKit
set_option maxHeartbeats 0
set_option maxRecDepth 100000

theorem fnExactDominoMoves_lifted (os : Os) (started : os.Started) (H : Type) (enc : TypeId × Value → H) :
    ReturnsInHanded {} Tryd.checked os 3 .any (fun w args => (Rows.fnExactDominoMovesSpec.pre enc Tryd.prog Tryd.f3 [] false w args ∧ laidMetH Tryd.prog Rows.fnExactDominoMovesRow.laid w) ∧ sizedMet enc Tryd.prog Tryd.f3 (OpenSpec.ofChange Rows.fnExactDominoMovesSpec) false w args) (Rows.fnExactDominoMovesSpec.post enc Tryd.prog Tryd.f3 false true false false) := by
  refine law_liftedL (C := Tryd.checked) (tb := 4) (l := Rows.fnExactDominoMovesRow.laid) own started (by kernel_rfl) Tryd.func3
    (ChangeSpec.witness_shaped (enc := enc) (C := Tryd.checked) (os := os) (X := fun w _ => laidMetH Tryd.prog Rows.fnExactDominoMovesRow.laid w) false (World.laidAll Tryd.prog os Rows.fnExactDominoMovesRow.laid) #[.agg #[.slice none 0 0], .bool false] 8 (World.laidAll_os _ _ _)
      (World.shaped_of_ZipB (by kernel_rfl) (by kernel_rfl)) (by kernel_rfl) (by kernel_rfl) (by kernel_rfl)
      (by rw [MakeChecks.laidMetH_plain _ _ _ (by kernel_rfl)]; exact laidMet_laidAll _ (by kernel_rfl) (by kernel_rfl)))
    laidOut (by kernel_rfl) rfl rfl Tryd.underlying4 ?_ ?_ ?_
  · intro ds h
    match ds, h with
    | [d0, d1], _ => exact ⟨rfl, rfl, rfl⟩
  · intro W base args ds p hval hA
    exact law_of2 hval hA Tryd.params3 prd_board prd_b (fun a b ha hb => lawDomino_ok a b (lenB ha))
  · exact fun _ _ g hg => by cases hg

theorem fnExactDominoMoves_row : Rows.FnExactDominoMovesSaid :=
  OpenClaim.holds_of_wide 3 Tryd.f3 rfl rfl rfl rfl rfl rfl rfl ⟨rfl, rfl, rfl, rfl, rfl⟩ rfl rfl rfl rfl rfl (by kernel_rfl) Tryd.func3 (by show joinedFacts Tryd.prog _ _ _ _ = true; unfold joinedFacts; rw [p_enter, p_final, p_make]; kernel_rfl)
    (of_decide_eq_true (by kernel_rfl))
    (by unfold Func.isWrapper; first | (rw [if_pos (by decide +kernel)]; kernel_rfl) | (rw [if_neg (by decide +kernel)]; exact ⟨rfl, rfl⟩))
    (fun os started H enc _ => fnExactDominoMoves_lifted os started H enc)

theorem fnExactDominoMoves_holds : Rows.FnExactDominoMovesCardSaid :=
  Claim7.holds_tied_plain_at .later [] Rows.fnExactDominoMovesCard.laidKinds true Rows.fnExactDominoMovesCard.stood.harness Rows.fnExactDominoMovesCard.stood.looks fnExactDominoMoves_row (fun _ h => by cases h) (by kernel_rfl) (fun _ h => by cases h) fnExactDominoMoves_row_tie rfl ⟨rfl, rfl⟩ (by kernel_rfl) rfl
    (fun f fn hf hfn => by
      obtain rfl : f = 3 := Option.some.inj ((show Tryd.prog.funcNamed "loop.example/g00868/laws.FnExactDominoMoves" = some 3 by kernel_rfl).symm.trans hf) |>.symm
      obtain rfl : fn = Tryd.f3 := (Option.some.inj (Tryd.func3.symm.trans hfn)).symm
      exact ⟨by kernel_rfl, fun j t ht => by
        have hall : (Tryd.f3.params.toList.all fun u => !Tryd.prog.wantsStandIn u) = true := by kernel_rfl
        have hm : t ∈ Tryd.f3.params.toList := by simpa using Array.mem_of_getElem? ht
        exact (show Tryd.prog.wantsStandIn t = false by simpa using List.all_eq_true.1 hall t hm)⟩)
    (by kernel_rfl)
end Go.Proofs.YtijjcakbhnolhaaDoor
