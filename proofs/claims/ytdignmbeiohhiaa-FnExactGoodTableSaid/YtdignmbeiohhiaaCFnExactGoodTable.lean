/- Claim: FnExactGoodTable answers true for every input and its argument reads behind the call as before. No condition. -/
import Derived.Test.YtdignmbeiohhiaaReadF
import Derived.Test.YtdignmbeiohhiaaTab
namespace Go.Proofs.Ytdignmbeiohhiaa
open Eng Go.ChangeShapes Go.WideShapes Go.ChangeAt Go.RowKit
set_option maxHeartbeats 0
set_option maxRecDepth 100000

theorem fnExactGoodTable_lifted (os : Os) (started : os.Started) (H : Type) (enc : TypeId × Value → H) :
    ReturnsInHanded {} Try.checked os 11 .any (Rows.fnExactGoodTableSpec.pre6 enc Try.prog Try.f11 Rows.fnExactGoodTableRow.domain false) (Rows.fnExactGoodTableSpec.post enc Try.prog Try.f11 false true false false) := by
  refine law_lifted (C := Try.checked) (tb := 4) own started (by kernel_rfl) Try.func11
    (ChangeSpec.witness6 (enc := enc) (C := Try.checked) false ⟨#[], #[.agg #[.slice none 0 0, .bool false]], []⟩ 8 (by kernel_rfl) (by kernel_rfl) (by kernel_rfl) (by kernel_rfl))
    laidOut (by kernel_rfl) rfl rfl Try.underlying4 ?_ ?_
  · intro ds h
    match ds, h with
    | [d0], _ => exact ⟨rfl, rfl, rfl⟩
  · intro W base args ds p hval hA
    exact law_of1 hval hA Try.params11 prd_table (fun a ha => lawGoodTb_ok a.1 a.2)

theorem fnExactGoodTable_holds : Rows.FnExactGoodTableSaid :=
  OpenClaim.holds_of_wide 11 Try.f11 rfl rfl rfl rfl rfl rfl rfl ⟨rfl, rfl, rfl, rfl, rfl⟩ rfl rfl rfl rfl rfl (by kernel_rfl) Try.func11 (by show joinedFacts Try.prog _ _ _ _ = true; unfold joinedFacts; rw [p_enter, p_final, p_make]; kernel_rfl)
    (of_decide_eq_true (by kernel_rfl))
    (by unfold Func.isWrapper; first | (rw [if_pos (by decide +kernel)]; kernel_rfl) | (rw [if_neg (by decide +kernel)]; exact ⟨rfl, rfl⟩))
    (fun os started H enc _ => fnExactGoodTable_lifted os started H enc)
end Go.Proofs.Ytdignmbeiohhiaa
