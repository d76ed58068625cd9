/- Claim: FnExactPruneLoop answers true for every input and its arguments read behind the call as before. No condition. -/
import Derived.Test.YtmalajoglcpijaaPruneLaw
import Derived.Test.YtmalajoglcpijaaReadL
namespace Go.Proofs.Ytmalajoglcpijaa
open Eng Go.ChangeShapes Go.WideShapes Go.ChangeAt Go.RowKit
set_option maxHeartbeats 0
set_option maxRecDepth 100000

theorem fnExactPruneLoop_lifted (os : Os) (started : os.Started) (H : Type) (enc : TypeId × Value → H) :
    ReturnsInHanded {} Try.checked os 11 .any (Rows.fnExactPruneLoopSpec.pre6 enc Try.prog Try.f11 Rows.fnExactPruneLoopRow.domain false) (Rows.fnExactPruneLoopSpec.post enc Try.prog Try.f11 false true false false) := by
  refine law_lifted (C := Try.checked) (tb := 4) own started (by kernel_rfl) Try.func11
    (ChangeSpec.witness6 (enc := enc) (C := Try.checked) false ⟨#[], #[.agg #[.slice none 0 0, .slice none 0 0], .int .i64 0], []⟩ 8 (by kernel_rfl) (by kernel_rfl) (by kernel_rfl) (by kernel_rfl))
    laidOut (by kernel_rfl) rfl rfl Try.underlying4 ?_ ?_
  · intro ds h
    match ds, h with
    | [d0, d1], _ => exact ⟨rfl, rfl, rfl⟩
  · intro W base args ds p hval hA
    exact law_of2 hval hA Try.params11 prd_loop prd_i64 (fun a b ha hb => lawPrune_ok a.1 a.2 b)

theorem fnExactPruneLoop_holds : Rows.FnExactPruneLoopSaid :=
  OpenClaim.holds_of_wide 11 Try.f11 rfl rfl rfl rfl rfl rfl rfl ⟨rfl, rfl, rfl, rfl, rfl⟩ rfl rfl rfl rfl rfl (by kernel_rfl) Try.func11 (by show joinedFacts Try.prog _ _ _ _ = true; unfold joinedFacts; rw [p_enter, p_final, p_make]; kernel_rfl)
    (of_decide_eq_true (by kernel_rfl))
    (by unfold Func.isWrapper; first | (rw [if_pos (by decide +kernel)]; kernel_rfl) | (rw [if_neg (by decide +kernel)]; exact ⟨rfl, rfl⟩))
    (fun os started H enc _ => fnExactPruneLoop_lifted os started H enc)
end Go.Proofs.Ytmalajoglcpijaa
