/- Claim: FnExactDropRow answers true for every input and its arguments read behind the call as before. No condition. -/
import Derived.Test.YthbnjmcehpmliaaDrop
import Derived.Test.YthbnjmcehpmliaaReadR
namespace Go.Proofs.Ythbnjmcehpmliaa
open Eng Go.ChangeShapes Go.WideShapes Go.ChangeAt Go.RowKit
set_option maxHeartbeats 0
set_option maxRecDepth 100000

theorem fnExactDropRow_lifted (os : Os) (started : os.Started) (H : Type) (enc : TypeId × Value → H) :
    ReturnsInHanded {} Try.checked os 7 .any (Rows.fnExactDropRowSpec.pre6 enc Try.prog Try.f7 Rows.fnExactDropRowRow.domain false) (Rows.fnExactDropRowSpec.post enc Try.prog Try.f7 false true false false) := by
  refine law_lifted (C := Try.checked) (tb := 4) own started (by kernel_rfl) Try.func7
    (ChangeSpec.witness6 (enc := enc) (C := Try.checked) false ⟨#[], #[.slice none 0 0, .string ⟨#[]⟩], []⟩ 8 (by kernel_rfl) (by kernel_rfl) (by kernel_rfl) (by kernel_rfl))
    laidOut (by kernel_rfl) rfl rfl Try.underlying4 ?_ ?_
  · intro ds h
    match ds, h with
    | [d0, d1], _ => exact ⟨rfl, rfl, rfl⟩
  · intro W base args ds p hval hA
    exact law_of2 hval hA Try.params7 prd_rows prd_s (fun a b ha hb => lawDropRow_ok a b (lenRws ha))

theorem fnExactDropRow_holds : Rows.FnExactDropRowSaid :=
  OpenClaim.holds_of_wide 7 Try.f7 rfl rfl rfl rfl rfl rfl rfl ⟨rfl, rfl, rfl, rfl, rfl⟩ rfl rfl rfl rfl rfl (by kernel_rfl) Try.func7 (by show joinedFacts Try.prog _ _ _ _ = true; unfold joinedFacts; rw [p_enter, p_final, p_make]; kernel_rfl)
    (of_decide_eq_true (by kernel_rfl))
    (by unfold Func.isWrapper; first | (rw [if_pos (by decide +kernel)]; kernel_rfl) | (rw [if_neg (by decide +kernel)]; exact ⟨rfl, rfl⟩))
    (fun os started H enc _ => fnExactDropRow_lifted os started H enc)
end Go.Proofs.Ythbnjmcehpmliaa
