/- Loops (two lists of lists of ints) measured, copied, compared, as the drawn laws do it. For all loops. -/
import Derived.Test.YtpcckakchpblcaaDoorInts
namespace Go.Proofs.YtpcckakchpblcaaDoor
open Eng
attribute [local irreducible] OpS OpG FC FCr Rel Fl Ef DR Fs
set_option linter.unusedSimpArgs false
set_option maxHeartbeats 0
set_option maxRecDepth 100000

theorem szSS_le (l : List (List Int)) (left : Int) : szSS l left ≤ left ∨ szSS l left = -1 := by
  induction l generalizing left with
  | nil => left; simp [szSS]
  | cons r rs ih =>
    simp only [szSS]
    split
    · right; rfl
    · rcases ih (left - r.length) with h | h
      · left; omega
      · right; exact h
theorem szSS_lens (l : List (List Int)) (left : Int) (h : 0 ≤ szSS l left) : ∀ r ∈ l, (r.length : Int) ≤ left := by
  induction l generalizing left with
  | nil => simp
  | cons r rs ih =>
    simp only [szSS] at h
    split at h
    · omega
    · intro q hq
      rcases List.mem_cons.1 hq with rfl | hq
      · omega
      · have := ih _ h q hq
        omega
theorem szSSr_le (l : List (List Int)) (left : Int) : szSSr l left ≤ left ∨ szSSr l left = -1 := by
  unfold szSSr
  split
  · right; rfl
  · rcases szSS_le l (left - l.length) with h | h
    · left; omega
    · right; exact h
theorem szSSr_lens {l : List (List Int)} {left : Int} (h : 0 ≤ szSSr l left) : (l.length : Int) ≤ left ∧ ∀ r ∈ l, (r.length : Int) ≤ left := by
  unfold szSSr at h
  split at h
  · omega
  · refine ⟨by omega, fun r hr => ?_⟩
    have := szSS_lens _ _ h r hr
    omega

/-- How a loop is measured. -/
def szLp (L R : List (List Int)) (left : Int) : Int := if szSSr L left < 0 then -1 else if szSSr R (szSSr L left) < 0 then -1 else szSSr R (szSSr L left)
theorem szLp_lens {L R : List (List Int)} {left : Int} (hl : left ≤ 1048576) (h : 0 ≤ szLp L R left) : (L.length ≤ 1048576 ∧ ∀ r ∈ L, r.length ≤ 1048576) ∧ R.length ≤ 1048576 ∧ ∀ r ∈ R, r.length ≤ 1048576 := by
  unfold szLp at h
  split at h
  · omega
  · split at h
    · omega
    · rename_i h1 h2
      have h3 := szSSr_lens (l := L) (left := left) (by omega)
      have h4 := szSSr_lens h
      have h5 := szSSr_le L left
      refine ⟨⟨by omega, fun r hr => ?_⟩, by omega, fun r hr => ?_⟩
      · have := h3.2 r hr; omega
      · have := h4.2 r hr; omega

/-- A loop as it is handed over; one's own. -/
abbrev RLp (L R : List (List Int)) : RV := .agg [RIss L, RIss R]
abbrev OLp (L R : List (List Int)) : RV := .agg [OIss L, OIss R]

theorem szLoop_ok (L R : List (List Int)) (left : Int) (h0 : 0 ≤ left) (h1 : left ≤ 1048576) : FCr Tryd.prog 7 [RLp L R, RVi left] (RVi (szLp L R left)) := by
  have hle := szSSr_le L left
  refine (fcr_in Tryd.func7 rfl (by simp only [Tryd.ntmps7, anys, List.length_cons, List.length_nil, Nat.reduceAdd, Nat.reduceSub, List.replicate_succ, List.replicate_zero, List.cons_append, List.nil_append] <;> rfl) ?_)
  repeat' first
    | refine w_seq ?_
    | refine w_region ?_
    | refine l_nil ?_
    | refine rt_n ?_
    | refine w_ret ?_
    | refine rt_ret ?_
    | refine w_skip ?_
    | refine w_cond_t rfl ?_
    | refine w_cond_f rfl ?_
    | refine w_cnd rfl (fun hc => ?_) (fun hc => ?_)
    | refine w_cd rfl (fun hc => ?_) (fun hc => ?_)
    | refine w_cn rfl (fun hc => ?_) (fun hc => ?_)
    | refine w_cond rfl (fun hc => ?_) (fun hc => ?_)
    | (refine l_o ?_; first | refine l_op rfl (by first | (apply k_callf; first | exact ops_callf (hfc := szIntSS_ok L left h0 h1) | exact ops_callf (hfc := szIntSS_ok R (szSSr L left) (by omega) (by omega)) | fail) | fail) (hk := ?_) | refine l_op (hk := ?_))
  all_goals
    refine en_one (hf := Tryd.results7) (h := ?_); simp only [lget]; first | refine congrArg RVb ?_ | refine congrArg RVi ?_ | skip
    simp [szLp, *]

theorem toLoop_ok (L R : List (List Int)) (hl : L.length ≤ 1048576) (hll : ∀ r ∈ L, r.length ≤ 1048576) (hr : R.length ≤ 1048576) (hrl : ∀ r ∈ R, r.length ≤ 1048576) :
    FCr Tryd.prog 9 [RLp L R] (OLp L R) := by
  refine (fcr_in Tryd.func9 rfl (by simp only [Tryd.ntmps9, anys, List.length_cons, List.length_nil, Nat.reduceAdd, Nat.reduceSub, List.replicate_succ, List.replicate_zero, List.cons_append, List.nil_append] <;> rfl) ?_)
  repeat' first
    | refine w_seq ?_
    | refine w_region ?_
    | refine l_nil ?_
    | refine rt_n ?_
    | refine w_ret ?_
    | refine rt_ret ?_
    | refine w_skip ?_
    | (refine l_o ?_; first | refine l_op rfl (by first | (apply k_callf; first | exact ops_callv (hfc := toIntSS_ok L hl hll) | exact ops_callv (hfc := toIntSS_ok R hr hrl) | fail) | fail) (hk := ?_) | refine l_op (hk := ?_))
  refine en_end (hf := Tryd.results9) (hr := ?_); simp only [ne, nf, nl, nr, lget, reduceIte, Nat.reduceEqDiff]; first | rfl | refine congrArg RVb ?_ | refine congrArg RVi ?_ | skip

theorem eqLoop_ok (L R L2 R2 : List (List Int)) : FCr Tryd.prog 11 [RLp L R, RLp L2 R2] (RVb (decide (L = L2) && decide (R = R2))) := by
  refine (fcr_in Tryd.func11 rfl (by simp only [Tryd.ntmps11, anys, List.length_cons, List.length_nil, Nat.reduceAdd, Nat.reduceSub, List.replicate_succ, List.replicate_zero, List.cons_append, List.nil_append] <;> rfl) ?_)
  repeat' first
    | refine w_seq ?_
    | refine w_region ?_
    | refine l_nil ?_
    | refine rt_n ?_
    | refine w_ret ?_
    | refine rt_ret ?_
    | refine w_skip ?_
    | refine w_cond_t rfl ?_
    | refine w_cond_f rfl ?_
    | refine w_cnd rfl (fun hc => ?_) (fun hc => ?_)
    | refine w_cd rfl (fun hc => ?_) (fun hc => ?_)
    | refine w_cn rfl (fun hc => ?_) (fun hc => ?_)
    | refine w_cond rfl (fun hc => ?_) (fun hc => ?_)
    | (refine l_o ?_; first | refine l_op rfl (by first | (apply k_callf; first | exact ops_callf (hfc := eqIntSS_ok L L2) | exact ops_callf (hfc := eqIntSS_ok R R2) | fail) | fail) (hk := ?_) | refine l_op (hk := ?_))
  all_goals
    refine en_one (hf := Tryd.results11) (h := ?_); simp only [lget]; first | refine congrArg RVb ?_ | refine congrArg RVi ?_ | skip
    simp [*]
end Go.Proofs.YtpcckakchpblcaaDoor
