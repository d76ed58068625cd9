/- Claim: FnMiserePlay answers true for every input and its argument reads behind the call as before. No condition. -/
import Derived.Test.YtmfbcipjknjicaaJ48
namespace Go.Proofs.Ytmfbcipjknjicaa
open Eng Go.ChangeShapes Go.WideShapes Go.ChangeAt Go.RowKit
set_option maxHeartbeats 0
set_option maxRecDepth 100000

theorem fnMiserePlay_lifted (os : Os) (started : os.Started) (H : Type) (enc : TypeId × Value → H) :
    ReturnsInHanded {} Try.checked os 7 .any (Rows.fnMiserePlaySpec.pre6 enc Try.prog Try.f7 Rows.fnMiserePlayRow.domain false) (Rows.fnMiserePlaySpec.post enc Try.prog Try.f7 false true false false) := by
  refine law_lifted (C := Try.checked) (tb := 4) own started (by kernel_rfl) Try.func7
    (ChangeSpec.witness6 (enc := enc) (C := Try.checked) false ⟨#[], #[.slice none 0 0], []⟩ 8 (by kernel_rfl) (by kernel_rfl) (by kernel_rfl) (by kernel_rfl))
    laidOut (by kernel_rfl) rfl rfl Try.underlying4 ?_ ?_
  · intro ds h
    match ds, h with
    | [d0], _ => exact ⟨rfl, rfl, rfl⟩
  · intro W base args ds p hval hA
    exact law_of1 hval hA Try.params7 prd_bytes (fun a ha => lawPly_ok a)

theorem fnMiserePlay_holds : Rows.FnMiserePlaySaid :=
  OpenClaim.holds_of_wide 7 Try.f7 rfl rfl rfl rfl rfl rfl rfl ⟨rfl, rfl, rfl, rfl, rfl⟩ rfl rfl rfl rfl rfl (by kernel_rfl) Try.func7 (by show joinedFacts Try.prog _ _ _ _ = true; unfold joinedFacts; rw [p_enter, p_final, p_make]; kernel_rfl)
    (of_decide_eq_true (by kernel_rfl))
    (by unfold Func.isWrapper; first | (rw [if_pos (by decide +kernel)]; kernel_rfl) | (rw [if_neg (by decide +kernel)]; exact ⟨rfl, rfl⟩))
    (fun os started H enc _ => fnMiserePlay_lifted os started H enc)
end Go.Proofs.Ytmfbcipjknjicaa
