/- Claim: FnExactNamedLoop answers true for every input and its argument reads behind the call as before. The card: the variables that the row lists are tied to the program's text. -/
import Derived.Test.YtpcckakchpblcaaDoorTie
import Derived.Test.YtpcckakchpblcaaDoorCards
import Derived.Lay
import Derived.LaidMore
import Derived.SevenTiedAt
import Derived.ProofKit
import Derived.Test.YtpcckakchpblcaaDoorGokD
import Derived.Test.YtpcckakchpblcaaDoorLaid
import Derived.Test.YtpcckakchpblcaaDoorNmLaw
import Derived.Test.YtpcckakchpblcaaDoorReadL
namespace Go.Proofs.YtpcckakchpblcaaDoor
open Eng Go.ChangeShapes Go.WideShapes Go.ChangeAt Go.RowKit
set_option maxHeartbeats 0
set_option maxRecDepth 100000

theorem fnExactNamedLoop_lifted (os : Os) (started : os.Started) (H : Type) (enc : TypeId × Value → H) :
    ReturnsInHanded {} Tryd.checked os 5 .any (fun w args => (Rows.fnExactNamedLoopSpec.pre enc Tryd.prog Tryd.f5 [] false w args ∧ laidMetH Tryd.prog Rows.fnExactNamedLoopRow.laid w) ∧ sizedMet enc Tryd.prog Tryd.f5 (OpenSpec.ofChange Rows.fnExactNamedLoopSpec) false w args) (Rows.fnExactNamedLoopSpec.post enc Tryd.prog Tryd.f5 false true false false) := by
  refine law_liftedL (C := Tryd.checked) (tb := 4) (l := Rows.fnExactNamedLoopRow.laid) own started (by kernel_rfl) Tryd.func5
    (ChangeSpec.witness_shaped (enc := enc) (C := Tryd.checked) (os := os) (X := fun w _ => laidMetH Tryd.prog Rows.fnExactNamedLoopRow.laid w) false (World.laidAll Tryd.prog os Rows.fnExactNamedLoopRow.laid) #[.string ⟨#[]⟩] 8 (World.laidAll_os _ _ _)
      (World.shaped_of_ZipB (by kernel_rfl) (by kernel_rfl)) (by kernel_rfl) (by kernel_rfl) (by kernel_rfl)
      (by rw [MakeChecks.laidMetH_plain _ _ _ (by kernel_rfl)]; exact laidMet_laidAll _ (by kernel_rfl) (by kernel_rfl)))
    laidOut (by kernel_rfl) rfl rfl Tryd.underlying4 ?_ ?_ ?_
  · intro ds h
    match ds, h with
    | [d0], _ => exact ⟨rfl, rfl, rfl⟩
  · intro W base args ds p hval hA
    exact law_of1 hval hA Tryd.params5 prd_s (fun a ha => lawNamed_ok a)
  · exact gok_of (by kernel_rfl) (by repeat (first | exact List.Mem.head _ | apply List.Mem.tail)) (by repeat (first | exact List.Mem.head _ | apply List.Mem.tail))

theorem fnExactNamedLoop_row : Rows.FnExactNamedLoopSaid :=
  OpenClaim.holds_of_wide 5 Tryd.f5 rfl rfl rfl rfl rfl rfl rfl ⟨rfl, rfl, rfl, rfl, rfl⟩ rfl rfl rfl rfl rfl (by kernel_rfl) Tryd.func5 (by show joinedFacts Tryd.prog _ _ _ _ = true; unfold joinedFacts; rw [p_enter, p_final, p_make]; kernel_rfl)
    (of_decide_eq_true (by kernel_rfl))
    (by unfold Func.isWrapper; first | (rw [if_pos (by decide +kernel)]; kernel_rfl) | (rw [if_neg (by decide +kernel)]; exact ⟨rfl, rfl⟩))
    (fun os started H enc _ => fnExactNamedLoop_lifted os started H enc)

/-- The tied card. -/
theorem fnExactNamedLoop_holds : Rows.FnExactNamedLoopCardSaid :=
  Claim7.holds_tied_plain_at .later [] Rows.fnExactNamedLoopCard.laidKinds true Rows.fnExactNamedLoopCard.stood.harness Rows.fnExactNamedLoopCard.stood.looks fnExactNamedLoop_row (fun _ h => by cases h) (by kernel_rfl) (fun _ h => by cases h) fnExactNamedLoop_row_tie rfl ⟨rfl, rfl⟩ (by kernel_rfl) rfl
    (fun f fn hf hfn => by
      obtain rfl : f = 5 := Option.some.inj ((show Tryd.prog.funcNamed "loop.example/g00868/laws.FnExactNamedLoop" = some 5 by kernel_rfl).symm.trans hf) |>.symm
      obtain rfl : fn = Tryd.f5 := (Option.some.inj (Tryd.func5.symm.trans hfn)).symm
      exact ⟨by kernel_rfl, fun j t ht => by
        have hall : (Tryd.f5.params.toList.all fun u => !Tryd.prog.wantsStandIn u) = true := by kernel_rfl
        have hm : t ∈ Tryd.f5.params.toList := by simpa using Array.mem_of_getElem? ht
        exact (show Tryd.prog.wantsStandIn t = false by simpa using List.all_eq_true.1 hall t hm)⟩)
    (by kernel_rfl)
end Go.Proofs.YtpcckakchpblcaaDoor
