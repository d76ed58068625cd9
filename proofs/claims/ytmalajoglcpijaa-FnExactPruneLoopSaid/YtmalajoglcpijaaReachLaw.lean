/- The drawn law of ReachedFrom answers true. For all loops and places. -/
import Derived.Test.YtmalajoglcpijaaReachS
import Derived.Test.YtmalajoglcpijaaMarks
namespace Go.Proofs.Ytmalajoglcpijaa
open Eng
attribute [local irreducible] OpS OpG FC FCr Rel Fl Ef DR Fs
set_option linter.unusedSimpArgs false
set_option maxHeartbeats 0
set_option maxRecDepth 100000

theorem rch_len (L R : List (List Int)) (a : Int) : (rch L R a).length ≤ 36 := by
  unfold rch
  split
  · rename_i ho
    have hb := okAt_good ho
    have g := goodI hb.1
    have h := rchL_is g (a := a) ⟨hb.2.1, hb.2.2⟩
    have h1 := nodup_len (si_nodup h.1) fun x hx => reach_in g ⟨hb.2.1, hb.2.2⟩ ((h.2 x).1 hx)
    have := g.len
    omega
  · simp
theorem lawReached_ok (L R : List (List Int)) (a : Int) : FCr Try.prog 10 [RLp L R, RVi a] (RVb true) := by
  refine (fcr_in Try.func10 rfl (by simp only [Try.ntmps10, anys, List.length_cons, List.length_nil, Nat.reduceAdd, Nat.reduceSub, List.replicate_succ, List.replicate_zero, List.cons_append, List.nil_append] <;> rfl) ?_)
  repeat' first
    | refine w_seq ?_
    | refine w_region ?_
    | refine l_nil ?_
    | refine rt_n ?_
    | refine w_ret ?_
    | refine rt_ret ?_
    | refine w_skip ?_
    | refine w_cond_t rfl ?_
    | refine w_cond_f rfl ?_
    | refine w_cnd rfl (fun hc => ?_) (fun hc => ?_)
    | refine w_cd rfl (fun hc => ?_) (fun hc => ?_)
    | refine w_cn rfl (fun hc => ?_) (fun hc => ?_)
    | refine w_cond rfl (fun hc => ?_) (fun hc => ?_)
    | (refine l_o ?_; first | refine l_op rfl (by first | (apply k_callf; first | exact ops_callz (hfc := szLoop_ok L R 1048576 (by omega) (by omega)) | fail) | fail) (hk := ?_) | refine l_op (hk := ?_) | (refine l_g ?_; first | refine l_y rfl rfl rfl ?_ | refine l_n rfl rfl rfl rfl (hk := ?_) | refine l_n' rfl rfl rfl (hk := ?_) | refine l_spnd rfl rfl rfl (h1 := fun hc => ?_) (h2 := fun hc => ?_) | refine l_spd rfl rfl rfl (h1 := fun hc => ?_) (h2 := fun hc => ?_) | refine l_spn rfl rfl rfl (h1 := fun hc => ?_) (h2 := fun hc => ?_) | refine l_sp rfl rfl rfl (h1 := fun hc => ?_) (h2 := fun hc => ?_)))
    | refine d_nil ?_
    | (refine d_o ?_; first | refine d_fl (hk := ?_) | refine d_ef rfl (by first | exact .callz (hfc := szLoop_ok L R 1048576 (by omega) (by omega)) | exact .callzY (hfc := szLoop_ok L R 1048576 (by omega) (by omega)) | fail) (hk := ?_) | refine d_ef (hk := ?_) | (refine d_g ?_; first | refine d_spnd rfl rfl rfl (h1 := fun hc => ?_) (h2 := fun hc => ?_) | refine d_spd rfl rfl rfl (h1 := fun hc => ?_) (h2 := fun hc => ?_) | refine d_spn rfl rfl rfl (h1 := fun hc => ?_) (h2 := fun hc => ?_) | refine d_sp rfl rfl rfl (h1 := fun hc => ?_) (h2 := fun hc => ?_)))
    | (refine w_o ?_; first | refine w_draw (id := 10) (fun _ => true) (fun k => [2, 3].contains k) [[], []] 64 (by kernel_rfl) rfl (by kernel_rfl) (by simp [nm, nset, -List.map_take, -List.map_drop]) ?_)
  · refine en_one (hf := Try.results10) (h := ?_); simp only [lget]; first | refine congrArg RVb ?_ | refine congrArg RVi ?_ | skip
  obtain ⟨⟨b1, b2⟩, b3, b4⟩ := szLp_lens (L := L) (R := R) (left := 1048576) (by omega) (by omega)
  have b5 := lens_szLp (L := L) (R := R) (left := 1048576) (by omega)
  have hS := specReached_ok L R a
  have hI := implReached_ok L R a
  have hlen := rch_len L R a
  generalize rch L R a = A at *
  generalize okAt L R a = o at *
  have hH := heldIntS_ok (fromN 1 A.length) 1 (by rw [fromN_length]; omega)
  rw [heldI_fromN, fromN_length, if_pos rfl] at hH
  have l1 := fromN_length 1 A.length
  have t1 := List.take_of_length_le (l := (fromN 1 A.length).map RVi) (i := A.length) (by simp [l1])
  repeat' first
    | refine w_seq ?_
    | refine w_region ?_
    | refine l_nil ?_
    | refine rt_n ?_
    | refine w_ret ?_
    | refine rt_ret ?_
    | refine w_skip ?_
    | refine w_cond_t rfl ?_
    | refine w_cond_f rfl ?_
    | refine w_cnd rfl (fun hc => ?_) (fun hc => ?_)
    | refine w_cd rfl (fun hc => ?_) (fun hc => ?_)
    | refine w_cn rfl (fun hc => ?_) (fun hc => ?_)
    | refine w_cond rfl (fun hc => ?_) (fun hc => ?_)
    | (refine l_o ?_; first | refine l_op rfl (by first | (apply k_callf; first | exact ops_callz (by simp [view1, viewC, olook, nz, nf, l1, t1]) rfl (by kernel_rfl) hH (by simp [ns]) | exact ops_callm2 (d := 52) 1029 2029 ((markR 1 L L.length).map OIs) ((markR (1 + lens L L.length) R R.length).map OIs) (by decide) rfl rfl rfl rfl (by kernel_rfl) (markLoop_ok L R 1 (by omega) (by omega) (by omega)) (by simp [nm]) (by simp [nm]) (by simp [ns]) (by simp [RV.resOkT, RV.resOk, RV.isAgg, nm]) (by simp [ns]) (by simp [nz, nm]) (by simp [nz, nm]) | exact ops_callm1 (d := 68) 1033 ((fromN 1 A.length).map RVi) rfl rfl rfl (by kernel_rfl) (markIntS_ok A 1 (by omega)) (by simp [nm]) (by simp [nm]) (by simp [ns]) (by simp [RV.resOkT, RV.resOk, RV.isAgg, nm]) (by simp [ns]) (by simp [nz, nm]) (by simp [nz, nm]) | exact ops_callv (d := 29) (hfc := toLoop_ok L R b1 b2 b3 b4) | exact ops_callv (d := 33) (hfc := hI) | exact ops_callz (d := 48) (hfc := eqLoop_ok L R L R) | exact ops_callz (hfc := toLoop_ok L R b1 b2 b3 b4) | exact ops_callz (hfc := hS) | exact ops_callz (hfc := hI) | exact ops_callz (hfc := eqIntS_ok A A) | fail) | fail) (hk := ?_) | refine l_op (hk := ?_) | (refine l_g ?_; first | refine l_y rfl rfl rfl ?_ | refine l_n rfl rfl rfl rfl (hk := ?_) | refine l_n' rfl rfl rfl (hk := ?_) | refine l_spnd rfl rfl rfl (h1 := fun hc => ?_) (h2 := fun hc => ?_) | refine l_spd rfl rfl rfl (h1 := fun hc => ?_) (h2 := fun hc => ?_) | refine l_spn rfl rfl rfl (h1 := fun hc => ?_) (h2 := fun hc => ?_) | refine l_sp rfl rfl rfl (h1 := fun hc => ?_) (h2 := fun hc => ?_)))
    | refine d_nil ?_
    | (refine d_o ?_; first | refine d_fl (hk := ?_) | refine d_ef rfl (by first | exact .callv (d := 29) (hfc := toLoop_ok L R b1 b2 b3 b4) | exact .callv (d := 33) (hfc := hI) | exact .callz (d := 48) (hfc := eqLoop_ok L R L R) | exact .callz (hfc := toLoop_ok L R b1 b2 b3 b4) | exact .callz (hfc := hS) | exact .callz (hfc := hI) | exact .callz (hfc := eqIntS_ok A A) | exact .callvY (d := 29) (hfc := toLoop_ok L R b1 b2 b3 b4) | exact .callvY (d := 33) (hfc := hI) | exact .callzY (d := 48) (hfc := eqLoop_ok L R L R) | exact .callzY (hfc := toLoop_ok L R b1 b2 b3 b4) | exact .callzY (hfc := hS) | exact .callzY (hfc := hI) | exact .callzY (hfc := eqIntS_ok A A) | fail) (hk := ?_) | refine d_ef (hk := ?_) | (refine d_g ?_; first | refine d_spnd rfl rfl rfl (h1 := fun hc => ?_) (h2 := fun hc => ?_) | refine d_spd rfl rfl rfl (h1 := fun hc => ?_) (h2 := fun hc => ?_) | refine d_spn rfl rfl rfl (h1 := fun hc => ?_) (h2 := fun hc => ?_) | refine d_sp rfl rfl rfl (h1 := fun hc => ?_) (h2 := fun hc => ?_)))
    | (refine w_o ?_; first | refine w_draw (id := 10) (roL [2, 8, 1029, 2029]) (fun k => [2, 3].contains k) [[], []] 64 (by kernel_rfl) rfl (by kernel_rfl) (by simp [nm, nset, -List.map_take, -List.map_drop]) ?_)
  all_goals first
    | exact absurd rfl hc
    | (exfalso; omega)
    | (refine en_one (hf := Try.results10) (h := ?_); simp only [lget]; first | refine congrArg RVb ?_ | refine congrArg RVi ?_ | skip; done)
    | trace_state
end Go.Proofs.Ytmalajoglcpijaa
