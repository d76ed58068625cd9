/- Claim: FnAlikeHeaps answers true for every input and its argument reads behind the call as before. No condition. -/
import Derived.Test.YtmfbcipjknjicaaGreatJ48
namespace Go.Proofs.YtmfbcipjknjicaaGreat
open Eng Go.ChangeShapes Go.WideShapes Go.ChangeAt Go.RowKit
set_option maxHeartbeats 0
set_option maxRecDepth 100000

theorem fnAlikeHeaps_lifted (os : Os) (started : os.Started) (H : Type) (enc : TypeId × Value → H) :
    ReturnsInHanded {} Tryz.checked os 3 .any (Rows.fnAlikeHeapsSpec.pre6 enc Tryz.prog Tryz.f3 Rows.fnAlikeHeapsRow.domain false) (Rows.fnAlikeHeapsSpec.post enc Tryz.prog Tryz.f3 false true false false) := by
  refine law_lifted (C := Tryz.checked) (tb := 4) own started (by kernel_rfl) Tryz.func3
    (ChangeSpec.witness6 (enc := enc) (C := Tryz.checked) false ⟨#[], #[.slice none 0 0], []⟩ 8 (by kernel_rfl) (by kernel_rfl) (by kernel_rfl) (by kernel_rfl))
    laidOut (by kernel_rfl) rfl rfl Tryz.underlying4 ?_ ?_
  · intro ds h
    match ds, h with
    | [d0], _ => exact ⟨rfl, rfl, rfl⟩
  · intro W base args ds p hval hA
    exact law_of1 hval hA Tryz.params3 prd_bytes (fun a ha => lawAlk_ok a)

theorem fnAlikeHeaps_holds : Rows.FnAlikeHeapsSaid :=
  OpenClaim.holds_of_wide 3 Tryz.f3 rfl rfl rfl rfl rfl rfl rfl ⟨rfl, rfl, rfl, rfl, rfl⟩ rfl rfl rfl rfl rfl (by kernel_rfl) Tryz.func3 (by show joinedFacts Tryz.prog _ _ _ _ = true; unfold joinedFacts; rw [p_enter, p_final, p_make]; kernel_rfl)
    (of_decide_eq_true (by kernel_rfl))
    (by unfold Func.isWrapper; first | (rw [if_pos (by decide +kernel)]; kernel_rfl) | (rw [if_neg (by decide +kernel)]; exact ⟨rfl, rfl⟩))
    (fun os started H enc _ => fnAlikeHeaps_lifted os started H enc)
end Go.Proofs.YtmfbcipjknjicaaGreat
