/- The drawn law of DominoMoves answers true. For all boards. -/
import Derived.Test.YtijjcakbhnolhaaDoorDomK
import Derived.Test.YtijjcakbhnolhaaDoorDomN
import Derived.Test.YtijjcakbhnolhaaDoorDomT
namespace Go.Proofs.YtijjcakbhnolhaaDoor
open Eng
attribute [local irreducible] OpS OpG FC FCr Rel Fl Ef DR Fs
set_option linter.unusedSimpArgs false
set_option linter.unusedVariables false
set_option maxHeartbeats 0
set_option maxRecDepth 100000

theorem mvs_small (R : Bd) (left : Bool) : (mvs R left).length ≤ 64 ∧ lnB (mvs R left) (mvs R left).length ≤ 512 := by
  unfold mvs
  cases hg : gdB R with
  | false => simp [lnB]
  | true =>
    have g := gdB_ok hg
    rw [if_pos rfl]
    have h1 := mvD_len R left R.length
    have h2 := Nat.mul_le_mul g.n8 g.w8
    have h3 := lnB_le_mul (mvD R left R.length) 8 fun b hb => by rw [mvD_all b hb]; exact g.n8
    omega
theorem lawDomino_ok (R : Bd) (left : Bool) (hs : ∀ r ∈ R, r.length ≤ 9223372036854775807) : FCr Tryd.prog 3 [RBd R, RVb left] (RVb true) := by
  have hz := szBoard_ok R 1048576 (by omega) (by omega) hs
  by_cases hn : szB R 1048576 < 0
  · refine (fcr_in Tryd.func3 rfl (by simp only [Tryd.ntmps3, anys, List.length_cons, List.length_nil, Nat.reduceAdd, Nat.reduceSub, List.replicate_succ, List.replicate_zero, List.cons_append, List.nil_append] <;> rfl) ?_)
    repeat' first | apply w_seq | apply w_region | apply l_nil | apply rt_n | apply w_ret | apply rt_ret | apply w_skip | refine w_cond_t rfl ?_ | refine w_cond_f rfl ?_ | ((first | refine w_cnd rfl ?_ ?_ | refine w_cd rfl ?_ ?_ | refine w_cn rfl ?_ ?_ | refine w_cond rfl ?_ ?_) <;> intro hc) | (exfalso; omega) | (refine l_o ?_; first | refine l_op rfl (by first | (apply k_callf; first | exact ops_callf (hfc := hz) | fail) | fail) (hk := ?_) | refine l_op (hk := ?_) | (refine l_g ?_; first | refine l_y rfl rfl rfl ?_ | refine l_n rfl rfl rfl rfl (hk := ?_) | refine l_n' rfl rfl rfl (hk := ?_) | refine l_spnd rfl rfl rfl (h1 := fun hc => ?_) (h2 := fun hc => ?_) | refine l_spd rfl rfl rfl (h1 := fun hc => ?_) (h2 := fun hc => ?_) | refine l_spn rfl rfl rfl (h1 := fun hc => ?_) (h2 := fun hc => ?_) | refine l_sp rfl rfl rfl (h1 := fun hc => ?_) (h2 := fun hc => ?_))) | refine d_nil ?_ | (refine d_o ?_; first | refine d_fl (hk := ?_) | refine d_ef rfl (by first | exact .callf (hfc := hz) | exact .callfY (hfc := hz) | fail) (hk := ?_) | refine d_ef (hk := ?_) | (refine d_g ?_; first | refine d_spnd rfl rfl rfl (h1 := fun hc => ?_) (h2 := fun hc => ?_) | refine d_spd rfl rfl rfl (h1 := fun hc => ?_) (h2 := fun hc => ?_) | refine d_spn rfl rfl rfl (h1 := fun hc => ?_) (h2 := fun hc => ?_) | refine d_sp rfl rfl rfl (h1 := fun hc => ?_) (h2 := fun hc => ?_))) | (refine w_o ?_; first | refine w_draw (id := 10) (fun _ => true) (fun k => [2, 3].contains k) [[], []] 64 (by kernel_rfl) rfl (by kernel_rfl) (by simp [nm, nset, -List.map_take, -List.map_drop]) ?_)
    refine en_one (hf := Tryd.results3) (h := ?_); simp only [lget]; first | refine congrArg RVb ?_ | refine congrArg RVi ?_ | skip
  have hn0 := hn
  have hn1 : R.length ≤ 1048576 ∧ ∀ r ∈ R, r.length ≤ 1048576 := by
    unfold szB at hn0
    split at hn0
    · omega
    · refine ⟨by omega, fun r hr => ?_⟩
      have := szL_len R _ hn0 (by omega) r hr
      omega
  obtain ⟨b1, b2⟩ := hn1
  have hS := specMoves_ok R left b1 b2
  have hI := implMoves_ok R left b1 b2
  obtain ⟨c1, c2⟩ := mvs_small R left
  generalize mvs R left = A at *
  generalize gdB R = o at *
  have hA := mkB_all 1 A
  have hH := heldBoardS_ok (mkB 1 A A.length) 1 (by rw [mkB_length]; omega) (by rw [hA.1]; omega)
  rw [hA.2, hA.1, if_pos rfl] at hH
  have l1 := mkB_length 1 A A.length
  have t1 := List.take_of_length_le (l := (mkB 1 A A.length).map OBd) (i := A.length) (by simp [l1])
  clear hA
  refine (fcr_in Tryd.func3 rfl (by simp only [Tryd.ntmps3, anys, List.length_cons, List.length_nil, Nat.reduceAdd, Nat.reduceSub, List.replicate_succ, List.replicate_zero, List.cons_append, List.nil_append] <;> rfl) ?_)
  repeat' first | apply w_seq | apply w_region | apply l_nil | apply rt_n | apply w_ret | apply rt_ret | apply w_skip | refine w_cond_t rfl ?_ | refine w_cond_f rfl ?_ | ((first | refine w_cnd rfl ?_ ?_ | refine w_cd rfl ?_ ?_ | refine w_cn rfl ?_ ?_ | refine w_cond rfl ?_ ?_) <;> intro hc) | (exfalso; omega) | (refine l_o ?_; first | refine l_op rfl (by first | (apply k_callf; first | exact ops_callz (by simp [view1, viewC, olook, nz, nf, nr, l1, t1]) rfl (by kernel_rfl) hH (by simp [ns]) | exact ops_callm1 (d := 52) 1029 ((fromT 1 R.length).map RV.str) rfl rfl rfl (by kernel_rfl) (markBoard_ok R 1 (by omega)) (by simp [nm]) (by simp [nm]) (by simp [ns]) (by simp [RV.resOkT, RV.resOk, RV.isAgg, nm]) (by simp [ns]) (by simp [nz, nm]) (by simp [nz, nm]) | exact ops_callm1 (d := 68) 1033 ((mkB 1 A A.length).map OBd) rfl rfl rfl (by kernel_rfl) (markBoardS_ok A 1 (by omega) (by omega)) (by simp [nm]) (by simp [nm]) (by simp [ns]) (by simp [RV.resOkT, RV.resOk, RV.isAgg, nm]) (by simp [ns]) (by simp [nz, nm]) (by simp [nz, nm]) | exact ops_callf (d := 18) (hfc := hz) | exact ops_callv (d := 29) (hfc := toBoard_ok R b1) | exact ops_callv (d := 33) (hfc := hI) | exact ops_callz (d := 48) (hfc := eqBoard_ok R R) | exact ops_callz (hfc := toBoard_ok R b1) | exact ops_callz (hfc := hS) | exact ops_callz (hfc := hI) | exact ops_callz (hfc := eqBoardS_ok A A) | fail) | fail) (hk := ?_) | refine l_op (hk := ?_) | (refine l_g ?_; first | refine l_y rfl rfl rfl ?_ | refine l_n rfl rfl rfl rfl (hk := ?_) | refine l_n' rfl rfl rfl (hk := ?_) | refine l_spnd rfl rfl rfl (h1 := fun hc => ?_) (h2 := fun hc => ?_) | refine l_spd rfl rfl rfl (h1 := fun hc => ?_) (h2 := fun hc => ?_) | refine l_spn rfl rfl rfl (h1 := fun hc => ?_) (h2 := fun hc => ?_) | refine l_sp rfl rfl rfl (h1 := fun hc => ?_) (h2 := fun hc => ?_))) | refine d_nil ?_ | (refine d_o ?_; first | refine d_fl (hk := ?_) | refine d_ef rfl (by first | exact .callf (d := 18) (hfc := hz) | exact .callv (d := 29) (hfc := toBoard_ok R b1) | exact .callv (d := 33) (hfc := hI) | exact .callz (d := 48) (hfc := eqBoard_ok R R) | exact .callz (hfc := toBoard_ok R b1) | exact .callz (hfc := hS) | exact .callz (hfc := hI) | exact .callz (hfc := eqBoardS_ok A A) | exact .callfY (d := 18) (hfc := hz) | exact .callvY (d := 29) (hfc := toBoard_ok R b1) | exact .callvY (d := 33) (hfc := hI) | exact .callzY (d := 48) (hfc := eqBoard_ok R R) | exact .callzY (hfc := toBoard_ok R b1) | exact .callzY (hfc := hS) | exact .callzY (hfc := hI) | exact .callzY (hfc := eqBoardS_ok A A) | fail) (hk := ?_) | refine d_ef (hk := ?_) | (refine d_g ?_; first | refine d_spnd rfl rfl rfl (h1 := fun hc => ?_) (h2 := fun hc => ?_) | refine d_spd rfl rfl rfl (h1 := fun hc => ?_) (h2 := fun hc => ?_) | refine d_spn rfl rfl rfl (h1 := fun hc => ?_) (h2 := fun hc => ?_) | refine d_sp rfl rfl rfl (h1 := fun hc => ?_) (h2 := fun hc => ?_))) | (refine w_o ?_; first | refine w_draw (id := 10) (roL [2, 8, 1029]) (fun k => [2, 3].contains k) [[], []] 64 (by kernel_rfl) rfl (by kernel_rfl) (by simp [nm, nset, -List.map_take, -List.map_drop]) ?_)
  all_goals first | exact absurd rfl hc | (exfalso; omega) | (refine en_one (hf := Tryd.results3) (h := ?_); simp only [lget]; first | refine congrArg RVb ?_ | refine congrArg RVi ?_ | skip; done) | trace_state
end Go.Proofs.YtijjcakbhnolhaaDoor
