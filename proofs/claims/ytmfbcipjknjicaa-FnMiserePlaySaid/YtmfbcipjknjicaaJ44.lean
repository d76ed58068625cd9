/- Good loops: what the reference and the program say of a loop is one and the same test. For all loops. -/
import Derived.Test.YtmfbcipjknjicaaJ6
namespace Go.Proofs.Ytmfbcipjknjicaa
open Eng
attribute [local irreducible] OpS OpG FC FCr Rel Fl Ef DR Fs
set_option linter.unusedSimpArgs false
set_option maxHeartbeats 0
set_option maxRecDepth 100000

/-- What stands ahead of a place. -/
def ahead (l : List Int) (k : Nat) : Option Int := if k = 0 then none else l[k - 1]?
end Go.Proofs.Ytmfbcipjknjicaa
/- Lists of ints marked and looked at again, as the drawn laws do it. For all lists of the lengths that the theorem names. -/
namespace Go.Proofs.Ytmfbcipjknjicaa
open Eng
attribute [local irreducible] OpS OpG FC FCr Rel Fl Ef DR Fs
set_option linter.unusedSimpArgs false
set_option maxHeartbeats 0
set_option maxRecDepth 100000

end Go.Proofs.Ytmfbcipjknjicaa
/- Turned loops: what the reference and the program make of a loop is the same. For all loops. -/
namespace Go.Proofs.Ytmfbcipjknjicaa
open Eng
attribute [local irreducible] OpS OpG FC FCr Rel Fl Ef DR Fs
set_option linter.unusedSimpArgs false
set_option maxHeartbeats 0
set_option maxRecDepth 100000

theorem clone_ok (l : List Int) (h : l.length ≤ 1099511627776) : FCr Try.prog 98 [RIs l] (OIs l) := by
  refine (fcr_in Try.func98 rfl (by simp only [Try.ntmps98, anys, List.length_cons, List.length_nil, Nat.reduceAdd, Nat.reduceSub, List.replicate_succ, List.replicate_zero, List.cons_append, List.nil_append] <;> rfl) ?_)
  repeat' first
    | refine w_seq ?_
    | refine w_region ?_
    | refine l_nil ?_
    | refine rt_n ?_
    | refine w_ret ?_
    | refine rt_ret ?_
    | refine w_skip ?_
    | refine w_cond_t rfl ?_
    | refine w_cond_f rfl ?_
    | refine w_cnd rfl (fun hc => ?_) (fun hc => ?_)
    | refine w_cd rfl (fun hc => ?_) (fun hc => ?_)
    | refine w_cn rfl (fun hc => ?_) (fun hc => ?_)
    | refine w_cond rfl (fun hc => ?_) (fun hc => ?_)
    | (refine l_o ?_; first | refine l_eqnil rfl (by kernel_rfl) (by intro b; simp only [nz]; rfl) (fun b hb => ?_) | refine l_op (hk := ?_))
  · have hl : l = [] := by simpa using hb hc
    subst hl
    refine en_le _ (le_nil 2 100 1 (by omega) rfl (by simp [nm]) (by simp [nm]) (by simp only [nz]; rfl)) ?_
    refine en_end (hf := Try.results98) (hr := ?_); simp only [ne, nf, nl, nr, lget, reduceIte, Nat.reduceEqDiff]; first | rfl | refine congrArg RVb ?_ | refine congrArg RVi ?_ | skip
  · refine en_end (hf := Try.results98) (hr := ?_); simp only [ne, nf, nl, nr, lget, reduceIte, Nat.reduceEqDiff]; first | rfl | refine congrArg RVb ?_ | refine congrArg RVi ?_ | skip

end Go.Proofs.Ytmfbcipjknjicaa
