/- The drawn law of PutRow answers true. For all rows. -/
import Derived.Test.YtdignmbeiohhiaaOpsN
import Derived.Test.YtdignmbeiohhiaaPutI
import Derived.Test.YtdignmbeiohhiaaRwLaws
namespace Go.Proofs.Ytdignmbeiohhiaa
open Eng
attribute [local irreducible] OpS OpG FC FCr Rel Fl Ef DR Fs
set_option linter.unusedSimpArgs false
set_option maxHeartbeats 0
set_option maxRecDepth 100000

theorem lawPutRow_ok (l : List Rw) (r : Rw) (hl : ∀ r ∈ l, lenRw r) (hr : lenRw r) : FCr Try.prog 3 [RRws l, RRw r] (RVb true) := by
  have hz := szRowS_ok l 1048576 (by omega) (by omega) hl
  have hle := szRwsr_le l 1048576
  by_cases hn : szRwsr l 1048576 < 0
  · refine (fcr_in Try.func3 rfl (by simp only [Try.ntmps3, anys, List.length_cons, List.length_nil, Nat.reduceAdd, Nat.reduceSub, List.replicate_succ, List.replicate_zero, List.cons_append, List.nil_append] <;> rfl) ?_)
    repeat' first
      | refine w_seq ?_
      | refine w_region ?_
      | refine l_nil ?_
      | refine rt_n ?_
      | refine w_ret ?_
      | refine rt_ret ?_
      | refine w_skip ?_
      | refine w_cond_t rfl ?_
      | refine w_cond_f rfl ?_
      | refine w_cnd rfl (fun hc => ?_) (fun hc => ?_)
      | refine w_cd rfl (fun hc => ?_) (fun hc => ?_)
      | refine w_cn rfl (fun hc => ?_) (fun hc => ?_)
      | refine w_cond rfl (fun hc => ?_) (fun hc => ?_)
      | (exfalso; omega)
      | (refine l_o ?_; first | refine l_op rfl (by first | (apply k_callf; first | exact ops_callz (hfc := hz) | fail) | fail) (hk := ?_) | refine l_op (hk := ?_) | (refine l_g ?_; first | refine l_y rfl rfl rfl ?_ | refine l_n rfl rfl rfl rfl (hk := ?_) | refine l_n' rfl rfl rfl (hk := ?_) | refine l_spnd rfl rfl rfl (h1 := fun hc => ?_) (h2 := fun hc => ?_) | refine l_spd rfl rfl rfl (h1 := fun hc => ?_) (h2 := fun hc => ?_) | refine l_spn rfl rfl rfl (h1 := fun hc => ?_) (h2 := fun hc => ?_) | refine l_sp rfl rfl rfl (h1 := fun hc => ?_) (h2 := fun hc => ?_)))
      | refine d_nil ?_
      | (refine d_o ?_; first | refine d_fl (hk := ?_) | refine d_ef rfl (by first | exact .callz (hfc := hz) | exact .callzY (hfc := hz) | fail) (hk := ?_) | refine d_ef (hk := ?_) | (refine d_g ?_; first | refine d_spnd rfl rfl rfl (h1 := fun hc => ?_) (h2 := fun hc => ?_) | refine d_spd rfl rfl rfl (h1 := fun hc => ?_) (h2 := fun hc => ?_) | refine d_spn rfl rfl rfl (h1 := fun hc => ?_) (h2 := fun hc => ?_) | refine d_sp rfl rfl rfl (h1 := fun hc => ?_) (h2 := fun hc => ?_)))
      | (refine w_o ?_; first | refine w_draw (id := 8) (fun _ => true) (fun k => [1, 3, 4].contains k) [[], [], []] 64 (by kernel_rfl) rfl (by kernel_rfl) (by simp [nm, nset, -List.map_take, -List.map_drop]) ?_ | refine w_draw (id := 27) (fun _ => true) (fun k => [1, 3, 4].contains k) [[], [], []] 64 (by kernel_rfl) rfl (by kernel_rfl) (by simp [nm, nset, -List.map_take, -List.map_drop]) ?_)
    refine en_one (hf := Try.results3) (h := ?_); simp only [lget]; first | refine congrArg RVb ?_ | refine congrArg RVi ?_ | skip
  have hz2 := szRow_ok r (szRwsr l 1048576) (by omega) (by omega) hr
  by_cases hn2 : szRw r (szRwsr l 1048576) < 0
  · refine (fcr_in Try.func3 rfl (by simp only [Try.ntmps3, anys, List.length_cons, List.length_nil, Nat.reduceAdd, Nat.reduceSub, List.replicate_succ, List.replicate_zero, List.cons_append, List.nil_append] <;> rfl) ?_)
    repeat' first
      | refine w_seq ?_
      | refine w_region ?_
      | refine l_nil ?_
      | refine rt_n ?_
      | refine w_ret ?_
      | refine rt_ret ?_
      | refine w_skip ?_
      | refine w_cond_t rfl ?_
      | refine w_cond_f rfl ?_
      | refine w_cnd rfl (fun hc => ?_) (fun hc => ?_)
      | refine w_cd rfl (fun hc => ?_) (fun hc => ?_)
      | refine w_cn rfl (fun hc => ?_) (fun hc => ?_)
      | refine w_cond rfl (fun hc => ?_) (fun hc => ?_)
      | (exfalso; omega)
      | (refine l_o ?_; first | refine l_op rfl (by first | (apply k_callf; first | exact ops_callf (d := 23) (hfc := hz2) | exact ops_callz (hfc := hz) | fail) | fail) (hk := ?_) | refine l_op (hk := ?_) | (refine l_g ?_; first | refine l_y rfl rfl rfl ?_ | refine l_n rfl rfl rfl rfl (hk := ?_) | refine l_n' rfl rfl rfl (hk := ?_) | refine l_spnd rfl rfl rfl (h1 := fun hc => ?_) (h2 := fun hc => ?_) | refine l_spd rfl rfl rfl (h1 := fun hc => ?_) (h2 := fun hc => ?_) | refine l_spn rfl rfl rfl (h1 := fun hc => ?_) (h2 := fun hc => ?_) | refine l_sp rfl rfl rfl (h1 := fun hc => ?_) (h2 := fun hc => ?_)))
      | refine d_nil ?_
      | (refine d_o ?_; first | refine d_fl (hk := ?_) | refine d_ef rfl (by first | exact .callf (d := 23) (hfc := hz2) | exact .callz (hfc := hz) | exact .callfY (d := 23) (hfc := hz2) | exact .callzY (hfc := hz) | fail) (hk := ?_) | refine d_ef (hk := ?_) | (refine d_g ?_; first | refine d_spnd rfl rfl rfl (h1 := fun hc => ?_) (h2 := fun hc => ?_) | refine d_spd rfl rfl rfl (h1 := fun hc => ?_) (h2 := fun hc => ?_) | refine d_spn rfl rfl rfl (h1 := fun hc => ?_) (h2 := fun hc => ?_) | refine d_sp rfl rfl rfl (h1 := fun hc => ?_) (h2 := fun hc => ?_)))
      | (refine w_o ?_; first | refine w_draw (id := 8) (fun _ => true) (fun k => [1, 3, 4].contains k) [[], [], []] 64 (by kernel_rfl) rfl (by kernel_rfl) (by simp [nm, nset, -List.map_take, -List.map_drop]) ?_ | refine w_draw (id := 27) (fun _ => true) (fun k => [1, 3, 4].contains k) [[], [], []] 64 (by kernel_rfl) rfl (by kernel_rfl) (by simp [nm, nset, -List.map_take, -List.map_drop]) ?_)
    refine en_one (hf := Try.results3) (h := ?_); simp only [lget]; first | refine congrArg RVb ?_ | refine congrArg RVi ?_ | skip
  obtain ⟨b1, b2⟩ := smRws (l := l) (left := 1048576) (by omega) (by omega)
  have b3 : smRw r := by
    unfold szRw at hn2
    split at hn2
    · omega
    · split at hn2
      · omega
      · exact ⟨by omega, by omega⟩
  have hS := specPut_ok l r b2 b3
  have hI := implPut_ok l r b2 b3
  have hlen := putR_len l r
  generalize putR l r = A at *
  generalize putOk l r = o at *
  have hH := heldRowS_ok (fromR 1 A.length) 1 (by rw [fromR_length]; omega)
  rw [heldRw_fromR, fromR_length, if_pos rfl] at hH
  have l1 := fromR_length 1 A.length
  have t1 := List.take_of_length_le (l := (fromR 1 A.length).map RRw) (i := A.length) (by simp [l1])
  have hTo := toRowS_ok l b1
  have hTr := toRow_ok r
  refine (fcr_in Try.func3 rfl (by simp only [Try.ntmps3, anys, List.length_cons, List.length_nil, Nat.reduceAdd, Nat.reduceSub, List.replicate_succ, List.replicate_zero, List.cons_append, List.nil_append] <;> rfl) ?_)
  repeat' first
    | refine w_seq ?_
    | refine w_region ?_
    | refine l_nil ?_
    | refine rt_n ?_
    | refine w_ret ?_
    | refine rt_ret ?_
    | refine w_skip ?_
    | refine w_cond_t rfl ?_
    | refine w_cond_f rfl ?_
    | refine w_cnd rfl (fun hc => ?_) (fun hc => ?_)
    | refine w_cd rfl (fun hc => ?_) (fun hc => ?_)
    | refine w_cn rfl (fun hc => ?_) (fun hc => ?_)
    | refine w_cond rfl (fun hc => ?_) (fun hc => ?_)
    | (exfalso; omega)
    | (refine l_o ?_; first | refine l_op rfl (by first | (apply k_callf; first | exact ops_callz (by simp [view1, viewC, olook, nz, nf, nr, l1, t1]) rfl (by kernel_rfl) hH (by simp [ns]) | exact ops_callm1 (d := 59) 35 ((fromR 1 l.length).map RRw) rfl rfl rfl (by kernel_rfl) (markRowS_ok l 1 (by omega)) (by simp [nm]) (by simp [nm]) (by simp [ns]) (by simp [RV.resOkT, RV.resOk, RV.isAgg, nm]) (by simp [ns]) (by simp [nz, nm]) (by simp [nz, nm]) | exact ops_callm1 (d := 75) 1040 ((fromR 1 A.length).map RRw) rfl rfl rfl (by kernel_rfl) (markRowS_ok A 1 (by omega)) (by simp [nm]) (by simp [nm]) (by simp [ns]) (by simp [RV.resOkT, RV.resOk, RV.isAgg, nm]) (by simp [ns]) (by simp [nz, nm]) (by simp [nz, nm]) | exact ops_callz (d := 18) (hfc := hz) | exact ops_callf (d := 23) (hfc := hz2) | exact ops_callv (d := 35) (hfc := hTo) | exact ops_callf (d := 39) (hfc := hTr) | exact ops_callv (d := 40) (hfc := hI) | exact ops_callz (d := 54) (hfc := hTo) | exact ops_callz (d := 55) (hfc := eqRowS_ok l l) | exact ops_callf (d := 28) (hfc := hTo) | exact ops_callf (d := 30) (hfc := hTr) | exact ops_callf (d := 31) (hfc := hS) | exact ops_callf (d := 86) (hfc := hTo) | exact ops_callf (d := 88) (hfc := hTr) | exact ops_callf (d := 89) (hfc := hI) | exact ops_callz (hfc := eqRowS_ok A A) | fail) | fail) (hk := ?_) | refine l_op (hk := ?_) | (refine l_g ?_; first | refine l_y rfl rfl rfl ?_ | refine l_n rfl rfl rfl rfl (hk := ?_) | refine l_n' rfl rfl rfl (hk := ?_) | refine l_spnd rfl rfl rfl (h1 := fun hc => ?_) (h2 := fun hc => ?_) | refine l_spd rfl rfl rfl (h1 := fun hc => ?_) (h2 := fun hc => ?_) | refine l_spn rfl rfl rfl (h1 := fun hc => ?_) (h2 := fun hc => ?_) | refine l_sp rfl rfl rfl (h1 := fun hc => ?_) (h2 := fun hc => ?_)))
    | refine e_nil ?_
    | (refine e_o ?_; first | refine e_fl rfl (by first | exact .pl (by first | (apply q_callf; first | exact fs_callf (d := 28) (hfc := hTo) | exact fs_callf (d := 30) (hfc := hTr) | exact fs_callf (d := 31) (hfc := hS) | exact fs_callf (d := 86) (hfc := hTo) | exact fs_callf (d := 88) (hfc := hTr) | exact fs_callf (d := 89) (hfc := hI) | fail) | fail) | exact .ye rfl rfl rfl (by first | (apply q_callf; first | exact fs_callf (d := 28) (hfc := hTo) | exact fs_callf (d := 30) (hfc := hTr) | exact fs_callf (d := 31) (hfc := hS) | exact fs_callf (d := 86) (hfc := hTo) | exact fs_callf (d := 88) (hfc := hTr) | exact fs_callf (d := 89) (hfc := hI) | fail) | fail) | fail) (hk := ?_) | refine e_fl (hk := ?_) | refine e_ef rfl (by first | exact .callz (d := 18) (hfc := hz) | exact .callf (d := 23) (hfc := hz2) | exact .callv (d := 35) (hfc := hTo) | exact .callf (d := 39) (hfc := hTr) | exact .callv (d := 40) (hfc := hI) | exact .callz (d := 54) (hfc := hTo) | exact .callz (d := 55) (hfc := eqRowS_ok l l) | exact .callz (hfc := eqRowS_ok A A) | exact .callzY (d := 18) (hfc := hz) | exact .callfY (d := 23) (hfc := hz2) | exact .callvY (d := 35) (hfc := hTo) | exact .callfY (d := 39) (hfc := hTr) | exact .callvY (d := 40) (hfc := hI) | exact .callzY (d := 54) (hfc := hTo) | exact .callzY (d := 55) (hfc := eqRowS_ok l l) | exact .callzY (hfc := eqRowS_ok A A) | fail) (hk := ?_) | refine e_ef (hk := ?_) | (refine e_g ?_; first | refine e_spnd rfl rfl rfl (h1 := fun hc => ?_) (h2 := fun hc => ?_) | refine e_spd rfl rfl rfl (h1 := fun hc => ?_) (h2 := fun hc => ?_) | refine e_spn rfl rfl rfl (h1 := fun hc => ?_) (h2 := fun hc => ?_) | refine e_sp rfl rfl rfl (h1 := fun hc => ?_) (h2 := fun hc => ?_)))
    | (refine w_o ?_; first | refine w_drawS (id := 8) (rdP [(2,3)]) (fun k => [].contains k) [] (by kernel_rfl) rfl (by kernel_rfl) (by simp [nm, nset, -List.map_take, -List.map_drop]) ?_ | refine w_drawS (id := 27) (rdP [(2,3)]) (fun k => [].contains k) [] (by kernel_rfl) rfl (by kernel_rfl) (by simp [nm, nset, -List.map_take, -List.map_drop]) ?_)
  all_goals first
    | exact absurd rfl hc
    | (exfalso; omega)
    | (refine en_one (hf := Try.results3) (h := ?_); simp only [lget]; first | refine congrArg RVb ?_ | refine congrArg RVi ?_ | skip; done)
    | trace_state
end Go.Proofs.Ytdignmbeiohhiaa
