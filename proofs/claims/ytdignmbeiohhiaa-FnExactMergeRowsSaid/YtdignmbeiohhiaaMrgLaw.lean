/- The drawn law of MergeRows answers true. For all rows. -/
import Derived.Test.YtdignmbeiohhiaaMrgI
import Derived.Test.YtdignmbeiohhiaaOpsN
import Derived.Test.YtdignmbeiohhiaaRwLaws
namespace Go.Proofs.Ytdignmbeiohhiaa
open Eng
attribute [local irreducible] OpS OpG FC FCr Rel Fl Ef DR Fs
set_option linter.unusedSimpArgs false
set_option maxHeartbeats 0
set_option maxRecDepth 100000

theorem lawMergeRows_ok (a b : List Rw) (hla : ∀ r ∈ a, lenRw r) (hlb : ∀ r ∈ b, lenRw r) : FCr Try.prog 4 [RRws a, RRws b] (RVb true) := by
  have hz := szRowS_ok a 1048576 (by omega) (by omega) hla
  have hle := szRwsr_le a 1048576
  by_cases hn : szRwsr a 1048576 < 0
  · refine (fcr_in Try.func4 rfl (by simp only [Try.ntmps4, anys, List.length_cons, List.length_nil, Nat.reduceAdd, Nat.reduceSub, List.replicate_succ, List.replicate_zero, List.cons_append, List.nil_append] <;> rfl) ?_)
    repeat' first
      | refine w_seq ?_
      | refine w_region ?_
      | refine l_nil ?_
      | refine rt_n ?_
      | refine w_ret ?_
      | refine rt_ret ?_
      | refine w_skip ?_
      | refine w_cond_t rfl ?_
      | refine w_cond_f rfl ?_
      | refine w_cnd rfl (fun hc => ?_) (fun hc => ?_)
      | refine w_cd rfl (fun hc => ?_) (fun hc => ?_)
      | refine w_cn rfl (fun hc => ?_) (fun hc => ?_)
      | refine w_cond rfl (fun hc => ?_) (fun hc => ?_)
      | (exfalso; omega)
      | (refine l_o ?_; first | refine l_op rfl (by first | (apply k_callf; first | exact ops_callz (hfc := hz) | fail) | fail) (hk := ?_) | refine l_op (hk := ?_) | (refine l_g ?_; first | refine l_y rfl rfl rfl ?_ | refine l_n rfl rfl rfl rfl (hk := ?_) | refine l_n' rfl rfl rfl (hk := ?_) | refine l_spnd rfl rfl rfl (h1 := fun hc => ?_) (h2 := fun hc => ?_) | refine l_spd rfl rfl rfl (h1 := fun hc => ?_) (h2 := fun hc => ?_) | refine l_spn rfl rfl rfl (h1 := fun hc => ?_) (h2 := fun hc => ?_) | refine l_sp rfl rfl rfl (h1 := fun hc => ?_) (h2 := fun hc => ?_)))
    refine en_one (hf := Try.results4) (h := ?_); simp only [lget]; first | refine congrArg RVb ?_ | refine congrArg RVi ?_ | skip
  have hz2 := szRowS_ok b (szRwsr a 1048576) (by omega) (by omega) hlb
  have hle2 := szRwsr_le b (szRwsr a 1048576)
  by_cases hn2 : szRwsr b (szRwsr a 1048576) < 0
  · refine (fcr_in Try.func4 rfl (by simp only [Try.ntmps4, anys, List.length_cons, List.length_nil, Nat.reduceAdd, Nat.reduceSub, List.replicate_succ, List.replicate_zero, List.cons_append, List.nil_append] <;> rfl) ?_)
    repeat' first
      | refine w_seq ?_
      | refine w_region ?_
      | refine l_nil ?_
      | refine rt_n ?_
      | refine w_ret ?_
      | refine rt_ret ?_
      | refine w_skip ?_
      | refine w_cond_t rfl ?_
      | refine w_cond_f rfl ?_
      | refine w_cnd rfl (fun hc => ?_) (fun hc => ?_)
      | refine w_cd rfl (fun hc => ?_) (fun hc => ?_)
      | refine w_cn rfl (fun hc => ?_) (fun hc => ?_)
      | refine w_cond rfl (fun hc => ?_) (fun hc => ?_)
      | (exfalso; omega)
      | (refine l_o ?_; first | refine l_op rfl (by first | (apply k_callf; first | exact ops_callz (d := 22) (hfc := hz) | exact ops_callz (d := 27) (hfc := hz2) | fail) | fail) (hk := ?_) | refine l_op (hk := ?_) | (refine l_g ?_; first | refine l_y rfl rfl rfl ?_ | refine l_n rfl rfl rfl rfl (hk := ?_) | refine l_n' rfl rfl rfl (hk := ?_) | refine l_spnd rfl rfl rfl (h1 := fun hc => ?_) (h2 := fun hc => ?_) | refine l_spd rfl rfl rfl (h1 := fun hc => ?_) (h2 := fun hc => ?_) | refine l_spn rfl rfl rfl (h1 := fun hc => ?_) (h2 := fun hc => ?_) | refine l_sp rfl rfl rfl (h1 := fun hc => ?_) (h2 := fun hc => ?_)))
    refine en_one (hf := Try.results4) (h := ?_); simp only [lget]; first | refine congrArg RVb ?_ | refine congrArg RVi ?_ | skip
  obtain ⟨b1, b2⟩ := smRws (l := a) (left := 1048576) (by omega) (by omega)
  obtain ⟨b3, b4⟩ := smRws (l := b) (left := szRwsr a 1048576) (by omega) (by omega)
  have hS := specMrg_ok a b b2 b4
  have hI := implMrg_ok a b b2 b4
  obtain ⟨hl1, hl2⟩ := mrg_small a b
  generalize mrgR a b = A at *
  generalize mrgU a b = U at *
  generalize mrgOk a b = o at *
  have hH := heldRowS_ok (fromR 1 A.length) 1 (by rw [fromR_length]; omega)
  rw [heldRw_fromR, fromR_length, if_pos rfl] at hH
  have hH2 := heldStringS_ok (fromT (1 + 2 * A.length) U.length) (1 + 2 * A.length) (by rw [fromT_length]; omega)
  rw [heldT_fromT, fromT_length, if_pos rfl] at hH2
  have l1 := fromR_length 1 A.length
  have t1 := List.take_of_length_le (l := (fromR 1 A.length).map RRw) (i := A.length) (by simp [l1])
  have l2 := fromT_length (1 + 2 * A.length) U.length
  have t2 := List.take_of_length_le (l := (fromT (1 + 2 * A.length) U.length).map RV.str) (i := U.length) (by simp [l2])
  have hTa := toRowS_ok a b1
  have hTb := toRowS_ok b b3
  refine (fcr_in Try.func4 rfl (by simp only [Try.ntmps4, anys, List.length_cons, List.length_nil, Nat.reduceAdd, Nat.reduceSub, List.replicate_succ, List.replicate_zero, List.cons_append, List.nil_append] <;> rfl) ?_)
  repeat' first
    | refine w_seq ?_
    | refine w_region ?_
    | refine l_nil ?_
    | refine rt_n ?_
    | refine w_ret ?_
    | refine rt_ret ?_
    | refine w_skip ?_
    | refine w_cond_t rfl ?_
    | refine w_cond_f rfl ?_
    | refine w_cnd rfl (fun hc => ?_) (fun hc => ?_)
    | refine w_cd rfl (fun hc => ?_) (fun hc => ?_)
    | refine w_cn rfl (fun hc => ?_) (fun hc => ?_)
    | refine w_cond rfl (fun hc => ?_) (fun hc => ?_)
    | (exfalso; omega)
    | (refine l_o ?_; first | refine l_op rfl (by first | (apply k_callf; first | exact ops_callz (d := 108) (by simp [view1, viewC, olook, nz, nf, nr, l1, t1]) rfl (by kernel_rfl) hH (by simp [ns]) | exact ops_callz (d := 145) (by simp [view1, viewC, olook, nz, nf, nr, l1, t1]) rfl (by kernel_rfl) hH (by simp [ns]) | exact ops_callz (d := 113) (by simp [view1, viewC, olook, nz, nf, nr, l2, t2]) rfl (by kernel_rfl) hH2 (by simp [ns]) | exact ops_callz (d := 150) (by simp [view1, viewC, olook, nz, nf, nr, l2, t2]) rfl (by kernel_rfl) hH2 (by simp [ns]) | exact ops_callm1 (d := 77) 40 ((fromR 1 a.length).map RRw) rfl rfl rfl (by kernel_rfl) (markRowS_ok a 1 (by omega)) (by simp [nm]) (by simp [nm]) (by simp [ns]) (by simp [RV.resOkT, RV.resOk, RV.isAgg, nm]) (by simp [ns]) (by simp [nz, nm]) (by simp [nz, nm]) | exact ops_callm1 (d := 80) 42 ((fromR (1 + 2 * a.length) b.length).map RRw) rfl rfl rfl (by kernel_rfl) (markRowS_ok b (1 + 2 * a.length) (by omega)) (by simp [nm]) (by simp [nm]) (by simp [ns]) (by simp [RV.resOkT, RV.resOk, RV.isAgg, nm]) (by simp [ns]) (by simp [nz, nm]) (by simp [nz, nm]) | exact ops_callm1 (d := 102) 1046 ((fromR 1 A.length).map RRw) rfl rfl rfl (by kernel_rfl) (markRowS_ok A 1 (by omega)) (by simp [nm]) (by simp [nm]) (by simp [ns]) (by simp [RV.resOkT, RV.resOk, RV.isAgg, nm]) (by simp [ns]) (by simp [nz, nm]) (by simp [nz, nm]) | exact ops_callm1 (d := 105) 2046 ((fromT (1 + 2 * A.length) U.length).map RV.str) rfl rfl rfl (by kernel_rfl) (markStringS_ok U (1 + 2 * A.length) (by omega)) (by simp [nm]) (by simp [nm]) (by simp [ns]) (by simp [RV.resOkT, RV.resOk, RV.isAgg, nm]) (by simp [ns]) (by simp [nz, nm]) (by simp [nz, nm]) | exact ops_callz (d := 22) (hfc := hz) | exact ops_callz (d := 27) (hfc := hz2) | exact ops_callf (d := 32) (hfc := hTa) | exact ops_callf (d := 34) (hfc := hTb) | exact ops_callf (d := 35) (hfc := hS) | exact ops_callv (d := 40) (hfc := hTa) | exact ops_callv (d := 42) (hfc := hTb) | exact ops_callv (d := 46) (hfc := hI) | exact ops_callz (d := 67) (hfc := hTa) | exact ops_callz (d := 72) (hfc := hTb) | exact ops_callz (d := 68) (hfc := eqRowS_ok a a) | exact ops_callz (d := 73) (hfc := eqRowS_ok b b) | exact ops_callz (d := 52) (hfc := eqRowS_ok A A) | exact ops_callz (d := 57) (hfc := eqStringS_ok U U) | exact ops_callz (d := 86) (hfc := eqRowS_ok A A) | exact ops_callz (d := 92) (hfc := eqStringS_ok U U) | exact ops_callf (d := 121) (hfc := hTa) | exact ops_callf (d := 123) (hfc := hTb) | exact ops_callf (d := 124) (hfc := hI) | exact ops_callz (d := 130) (hfc := eqRowS_ok A A) | exact ops_callz (d := 135) (hfc := eqStringS_ok U U) | fail) | fail) (hk := ?_) | refine l_op (hk := ?_) | (refine l_g ?_; first | refine l_y rfl rfl rfl ?_ | refine l_n rfl rfl rfl rfl (hk := ?_) | refine l_n' rfl rfl rfl (hk := ?_) | refine l_spnd rfl rfl rfl (h1 := fun hc => ?_) (h2 := fun hc => ?_) | refine l_spd rfl rfl rfl (h1 := fun hc => ?_) (h2 := fun hc => ?_) | refine l_spn rfl rfl rfl (h1 := fun hc => ?_) (h2 := fun hc => ?_) | refine l_sp rfl rfl rfl (h1 := fun hc => ?_) (h2 := fun hc => ?_)))
  all_goals first
    | exact absurd rfl hc
    | (exfalso; omega)
    | (refine en_one (hf := Try.results4) (h := ?_); simp only [lget]; first | refine congrArg RVb ?_ | refine congrArg RVi ?_ | skip; done)
    | trace_state
end Go.Proofs.Ytdignmbeiohhiaa
