/- Lists of ints and lists of such lists: measured, copied, compared, as the drawn laws do it. Each for all lists. -/
import Derived.Test.YtijjcakbhnolhaaDoorRows
import Derived.Test.YtijjcakbhnolhaaDoorEf
namespace Go.Proofs.YtijjcakbhnolhaaDoor
open Eng
attribute [local irreducible] OpS OpG FC FCr Rel Fl Ef DR Fs
set_option linter.unusedSimpArgs false
set_option maxHeartbeats 0
set_option maxRecDepth 100000

theorem dc {α : Type} {l : List α} {k : Nat} (h : k < l.length) : l.drop k = l[k] :: l.drop (k + 1) := List.drop_eq_getElem_cons h
theorem dn {α : Type} {l : List α} {k : Nat} (h : ¬ (k : Int) < (l.length : Int)) : l.drop k = [] := List.drop_of_length_le (by omega)
theorem drop_both {α : Type} {l m : List α} {k : Nat} (h : k < l.length) (h2 : k < m.length) : (l.drop k = m.drop k) ↔ l[k] = m[k] ∧ l.drop (k + 1) = m.drop (k + 1) := by
  rw [List.drop_eq_getElem_cons h, List.drop_eq_getElem_cons h2, List.cons.injEq]

theorem l1In_ok (x a b : Int) : FCr Tryd.prog 22 [RVi x, RVi a, RVi b] (RVb (decide (a ≤ x) && decide (x ≤ b))) := by
  refine (fcr_in Tryd.func22 rfl (by simp only [Tryd.ntmps22, anys, List.length_cons, List.length_nil, Nat.reduceAdd, Nat.reduceSub, List.replicate_succ, List.replicate_zero, List.cons_append, List.nil_append] <;> rfl) ?_)
  repeat' first | apply w_seq | apply w_region | apply l_nil | apply rt_n | apply w_ret | apply rt_ret | apply w_skip | (refine l_o ?_; first | refine l_op (hk := ?_) | (refine l_g ?_; first | refine l_y rfl rfl rfl ?_ | refine l_n rfl rfl rfl rfl (hk := ?_) | refine l_n' rfl rfl rfl (hk := ?_) | refine l_spnd rfl rfl rfl (h1 := fun hc => ?_) (h2 := fun hc => ?_) | refine l_spd rfl rfl rfl (h1 := fun hc => ?_) (h2 := fun hc => ?_) | refine l_spn rfl rfl rfl (h1 := fun hc => ?_) (h2 := fun hc => ?_) | refine l_sp rfl rfl rfl (h1 := fun hc => ?_) (h2 := fun hc => ?_)))
  all_goals
    refine en_one (hf := Tryd.results22) (h := ?_); simp only [lget]; first | refine congrArg RVb ?_ | refine congrArg RVi ?_ | skip
    simp [*]
end Go.Proofs.YtijjcakbhnolhaaDoor
