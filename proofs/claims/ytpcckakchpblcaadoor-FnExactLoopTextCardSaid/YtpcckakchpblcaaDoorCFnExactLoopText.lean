/- Claim: FnExactLoopText answers true for every input and its argument reads behind the call as before. The card: the variables that the row lists are tied to the program's text. -/
import Derived.Test.YtpcckakchpblcaaDoorTie
import Derived.Test.YtpcckakchpblcaaDoorCards
import Derived.Lay
import Derived.LaidMore
import Derived.SevenTiedAt
import Derived.ProofKit
import Derived.Test.YtpcckakchpblcaaDoorLaid
import Derived.Test.YtpcckakchpblcaaDoorLpTxtLaw
import Derived.Test.YtpcckakchpblcaaDoorReadL
namespace Go.Proofs.YtpcckakchpblcaaDoor
open Eng Go.ChangeShapes Go.WideShapes Go.ChangeAt Go.RowKit
set_option maxHeartbeats 0
set_option maxRecDepth 100000

theorem fnExactLoopText_lifted (os : Os) (started : os.Started) (H : Type) (enc : TypeId × Value → H) :
    ReturnsInHanded {} Tryd.checked os 3 .any (fun w args => (Rows.fnExactLoopTextSpec.pre enc Tryd.prog Tryd.f3 [] false w args ∧ laidMetH Tryd.prog Rows.fnExactLoopTextRow.laid w) ∧ sizedMet enc Tryd.prog Tryd.f3 (OpenSpec.ofChange Rows.fnExactLoopTextSpec) false w args) (Rows.fnExactLoopTextSpec.post enc Tryd.prog Tryd.f3 false true false false) := by
  refine law_liftedL (C := Tryd.checked) (tb := 4) (l := Rows.fnExactLoopTextRow.laid) own started (by kernel_rfl) Tryd.func3
    (ChangeSpec.witness_shaped (enc := enc) (C := Tryd.checked) (os := os) (X := fun w _ => laidMetH Tryd.prog Rows.fnExactLoopTextRow.laid w) false (World.laidAll Tryd.prog os Rows.fnExactLoopTextRow.laid) #[.agg #[.slice none 0 0, .slice none 0 0]] 8 (World.laidAll_os _ _ _)
      (World.shaped_of_ZipB (by kernel_rfl) (by kernel_rfl)) (by kernel_rfl) (by kernel_rfl) (by kernel_rfl)
      (by rw [MakeChecks.laidMetH_plain _ _ _ (by kernel_rfl)]; exact laidMet_laidAll _ (by kernel_rfl) (by kernel_rfl)))
    laidOut (by kernel_rfl) rfl rfl Tryd.underlying4 ?_ ?_
  · intro ds h
    match ds, h with
    | [d0], _ => exact ⟨rfl, rfl, rfl⟩
  · intro W base args ds p hval hA
    exact law_of1 hval hA Tryd.params3 prd_loop (fun a ha => lawText_ok a.1 a.2)

theorem fnExactLoopText_row : Rows.FnExactLoopTextSaid :=
  OpenClaim.holds_of_wide 3 Tryd.f3 rfl rfl rfl rfl rfl rfl rfl ⟨rfl, rfl, rfl, rfl, rfl⟩ rfl rfl rfl rfl rfl (by kernel_rfl) Tryd.func3 (by show joinedFacts Tryd.prog _ _ _ _ = true; unfold joinedFacts; rw [p_enter, p_final, p_make]; kernel_rfl)
    (of_decide_eq_true (by kernel_rfl))
    (by unfold Func.isWrapper; first | (rw [if_pos (by decide +kernel)]; kernel_rfl) | (rw [if_neg (by decide +kernel)]; exact ⟨rfl, rfl⟩))
    (fun os started H enc _ => fnExactLoopText_lifted os started H enc)

/-- The tied card. -/
theorem fnExactLoopText_holds : Rows.FnExactLoopTextCardSaid :=
  Claim7.holds_tied_plain_at .later [] Rows.fnExactLoopTextCard.laidKinds true Rows.fnExactLoopTextCard.stood.harness Rows.fnExactLoopTextCard.stood.looks fnExactLoopText_row (fun _ h => by cases h) (by kernel_rfl) (fun _ h => by cases h) fnExactLoopText_row_tie rfl ⟨rfl, rfl⟩ (by kernel_rfl) rfl
    (fun f fn hf hfn => by
      obtain rfl : f = 3 := Option.some.inj ((show Tryd.prog.funcNamed "loop.example/g00868/laws.FnExactLoopText" = some 3 by kernel_rfl).symm.trans hf) |>.symm
      obtain rfl : fn = Tryd.f3 := (Option.some.inj (Tryd.func3.symm.trans hfn)).symm
      exact ⟨by kernel_rfl, fun j t ht => by
        have hall : (Tryd.f3.params.toList.all fun u => !Tryd.prog.wantsStandIn u) = true := by kernel_rfl
        have hm : t ∈ Tryd.f3.params.toList := by simpa using Array.mem_of_getElem? ht
        exact (show Tryd.prog.wantsStandIn t = false by simpa using List.all_eq_true.1 hall t hm)⟩)
    (by kernel_rfl)
end Go.Proofs.YtpcckakchpblcaaDoor
