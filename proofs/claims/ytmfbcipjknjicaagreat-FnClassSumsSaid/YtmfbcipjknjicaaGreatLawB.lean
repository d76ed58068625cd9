/- Small functions of the laws: sizes, likeness of lists. For all lists. -/
import Derived.Test.YtmfbcipjknjicaaGreatJ6
namespace Go.Proofs.YtmfbcipjknjicaaGreat
open Eng
attribute [local irreducible] OpS OpG FC FCr Rel Fl Ef DR Fs
set_option linter.unusedSimpArgs false
set_option linter.unusedVariables false
set_option maxHeartbeats 0
set_option maxRecDepth 100000

theorem rBigQ_ok (l : List UInt8) : FCr Tryz.prog 5 [RYs l] (RVb (decide ((65536 : Int) < (l.length : Nat)))) := by
  refine (fcr_in Tryz.func5 rfl (by simp only [Tryz.ntmps5, anys, List.length_cons, List.length_nil, Nat.reduceAdd, Nat.reduceSub, List.replicate_succ, List.replicate_zero, List.cons_append, List.nil_append] <;> rfl) ?_)
  repeat' first
    | refine w_seq ?_
    | refine w_region ?_
    | refine l_nil ?_
    | refine rt_n ?_
    | refine w_ret ?_
    | refine rt_ret ?_
    | refine w_skip ?_
    | (refine l_o ?_; first | refine l_op (hk := ?_))
  refine en_one (hf := Tryz.results5) (h := ?_); simp only [lget]; first | refine congrArg RVb ?_ | refine congrArg RVi ?_ | skip
end Go.Proofs.YtmfbcipjknjicaaGreat
