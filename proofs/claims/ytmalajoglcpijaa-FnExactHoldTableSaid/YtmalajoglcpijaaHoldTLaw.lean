/- The drawn law of HoldTable answers true. For all loops. -/
import Derived.Test.YtmalajoglcpijaaHoldLaw
import Derived.Test.YtmalajoglcpijaaMarkB
namespace Go.Proofs.Ytmalajoglcpijaa
open Eng
attribute [local irreducible] OpS OpG FC FCr Rel Fl Ef DR Fs
set_option linter.unusedSimpArgs false
set_option maxHeartbeats 0
set_option maxRecDepth 100000

theorem lensB_le_mul (L : List (List Bool)) (m : Nat) (h : ∀ r ∈ L, r.length ≤ m) : lensB L L.length ≤ L.length * m := by
  induction L with
  | nil => simp [lensB]
  | cons r rs ih =>
    have h1 := h r (by simp)
    have h2 := ih fun x hx => h x (by simp [hx])
    rw [List.length_cons, lensB, Nat.add_mul]
    omega
theorem tblJ_small (gL gR hL hR : List (List Int)) : (tblJ gL gR hL hR).length ≤ 36 ∧ lensB (tblJ gL gR hL hR) (tblJ gL gR hL hR).length ≤ 1296 := by
  unfold tblJ
  split
  · rename_i c
    rw [Bool.and_eq_true] at c
    have a := (goodI (stops_good c.1)).len
    have b := (goodI (stops_good c.2)).len
    have hl : (hTab (hldJ gL gR hL hR) gL.length hL.length).length = gL.length := by simp [hTab]
    have h1 := lensB_le_mul (hTab (hldJ gL gR hL hR) gL.length hL.length) 36 (fun r hr => by
      simp only [hTab, List.mem_map] at hr
      obtain ⟨u, _, rfl⟩ := hr
      simp [hRow]; omega)
    have h2 : gL.length * 36 ≤ 36 * 36 := Nat.mul_le_mul_right _ a
    omega
  · simp [lensB]
theorem lawHoldTable_ok (gL gR hL hR : List (List Int)) : FCr Try.prog 4 [RLp gL gR, RLp hL hR] (RVb true) := by
  have q1 := szLp_le gL gR (left := 1048576) (by omega)
  refine (fcr_in Try.func4 rfl (by simp only [Try.ntmps4, anys, List.length_cons, List.length_nil, Nat.reduceAdd, Nat.reduceSub, List.replicate_succ, List.replicate_zero, List.cons_append, List.nil_append] <;> rfl) ?_)
  repeat' first
    | refine w_seq ?_
    | refine w_region ?_
    | refine l_nil ?_
    | refine rt_n ?_
    | refine w_ret ?_
    | refine rt_ret ?_
    | refine w_skip ?_
    | refine w_cond_t rfl ?_
    | refine w_cond_f rfl ?_
    | refine w_cnd rfl (fun hc => ?_) (fun hc => ?_)
    | refine w_cd rfl (fun hc => ?_) (fun hc => ?_)
    | refine w_cn rfl (fun hc => ?_) (fun hc => ?_)
    | refine w_cond rfl (fun hc => ?_) (fun hc => ?_)
    | (refine l_o ?_; first | refine l_op rfl (by first | (apply k_callf; first | exact ops_callz (hfc := szLoop_ok gL gR 1048576 (by omega) (by omega)) | exact ops_callz (hfc := szLoop_ok hL hR (szLp gL gR 1048576) (by omega) (by omega)) | fail) | fail) (hk := ?_) | refine l_op (hk := ?_) | (refine l_g ?_; first | refine l_y rfl rfl rfl ?_ | refine l_n rfl rfl rfl rfl (hk := ?_) | refine l_n' rfl rfl rfl (hk := ?_) | refine l_spnd rfl rfl rfl (h1 := fun hc => ?_) (h2 := fun hc => ?_) | refine l_spd rfl rfl rfl (h1 := fun hc => ?_) (h2 := fun hc => ?_) | refine l_spn rfl rfl rfl (h1 := fun hc => ?_) (h2 := fun hc => ?_) | refine l_sp rfl rfl rfl (h1 := fun hc => ?_) (h2 := fun hc => ?_)))
    | refine d_nil ?_
    | (refine d_o ?_; first | refine d_fl (hk := ?_) | refine d_ef rfl (by first | exact .callz (hfc := szLoop_ok gL gR 1048576 (by omega) (by omega)) | exact .callz (hfc := szLoop_ok hL hR (szLp gL gR 1048576) (by omega) (by omega)) | exact .callzY (hfc := szLoop_ok gL gR 1048576 (by omega) (by omega)) | exact .callzY (hfc := szLoop_ok hL hR (szLp gL gR 1048576) (by omega) (by omega)) | fail) (hk := ?_) | refine d_ef (hk := ?_) | (refine d_g ?_; first | refine d_spnd rfl rfl rfl (h1 := fun hc => ?_) (h2 := fun hc => ?_) | refine d_spd rfl rfl rfl (h1 := fun hc => ?_) (h2 := fun hc => ?_) | refine d_spn rfl rfl rfl (h1 := fun hc => ?_) (h2 := fun hc => ?_) | refine d_sp rfl rfl rfl (h1 := fun hc => ?_) (h2 := fun hc => ?_)))
    | (refine w_o ?_; first | refine w_draw (id := 8) (fun _ => true) (fun k => [1, 3, 4].contains k) [[], [], []] 64 (by kernel_rfl) rfl (by kernel_rfl) (by simp [nm, nset, -List.map_take, -List.map_drop]) ?_ | refine w_draw (id := 14) (fun _ => true) (fun k => [2, 3].contains k) [[], []] 64 (by kernel_rfl) rfl (by kernel_rfl) (by simp [nm, nset, -List.map_take, -List.map_drop]) ?_ | refine w_draw (id := 16) (fun _ => true) (fun k => [2, 3].contains k) [[], []] 64 (by kernel_rfl) rfl (by kernel_rfl) (by simp [nm, nset, -List.map_take, -List.map_drop]) ?_ | refine w_draw (id := 31) (fun _ => true) (fun k => [1, 3, 4].contains k) [[], [], []] 64 (by kernel_rfl) rfl (by kernel_rfl) (by simp [nm, nset, -List.map_take, -List.map_drop]) ?_)
  · refine en_one (hf := Try.results4) (h := ?_); simp only [lget]; first | refine congrArg RVb ?_ | refine congrArg RVi ?_ | skip
  · refine en_one (hf := Try.results4) (h := ?_); simp only [lget]; first | refine congrArg RVb ?_ | refine congrArg RVi ?_ | skip
  obtain ⟨⟨b1, b2⟩, b3, b4⟩ := szLp_lens (L := gL) (R := gR) (left := 1048576) (by omega) (by omega)
  obtain ⟨⟨d1, d2⟩, d3, d4⟩ := szLp_lens (L := hL) (R := hR) (left := szLp gL gR 1048576) (by omega) (by omega)
  have b5 := lens_szLp (L := gL) (R := gR) (left := 1048576) (by omega)
  have d5 := lens_szLp (L := hL) (R := hR) (left := szLp gL gR 1048576) (by omega)
  have hS := specHold_ok gL gR hL hR
  have hI := implHold_ok gL gR hL hR
  obtain ⟨c1, c2⟩ := tblJ_small gL gR hL hR
  generalize tblJ gL gR hL hR = A at *
  generalize (stops gL gR && stops hL hR) = o at *
  have l1 := markRB_length 1 A A.length
  have hH := heldBoolSS_ok (markRB 1 A A.length) 1 (by rw [l1]; omega) (by rw [l1, lensB_markRB]; omega)
  rw [heldRB_markRB, l1, lensB_markRB, if_pos rfl] at hH
  have t1 := List.take_of_length_le (l := (markRB 1 A A.length).map OBs) (i := A.length) (by simp [l1])
  -- DBG
  repeat' first
    | refine w_seq ?_
    | refine w_region ?_
    | refine l_nil ?_
    | refine rt_n ?_
    | refine w_ret ?_
    | refine rt_ret ?_
    | refine w_skip ?_
    | refine w_cond_t rfl ?_
    | refine w_cond_f rfl ?_
    | refine w_cnd rfl (fun hc => ?_) (fun hc => ?_)
    | refine w_cd rfl (fun hc => ?_) (fun hc => ?_)
    | refine w_cn rfl (fun hc => ?_) (fun hc => ?_)
    | refine w_cond rfl (fun hc => ?_) (fun hc => ?_)
    | (refine l_o ?_; first | refine l_op rfl (by first | (apply k_callf; first | exact ops_callz (by simp [view1, viewC, olook, nz, nf, l1, t1]) rfl (by kernel_rfl) hH (by simp [ns]) | exact ops_callm2 (d := 66) 1036 2036 ((markR 1 gL gL.length).map OIs) ((markR (1 + lens gL gL.length) gR gR.length).map OIs) (by decide) rfl rfl rfl rfl (by kernel_rfl) (markLoop_ok gL gR 1 (by omega) (by omega) (by omega)) (by simp [nm]) (by simp [nm]) (by simp [ns]) (by simp [RV.resOkT, RV.resOk, RV.isAgg, nm]) (by simp [ns]) (by simp [nz, nm]) (by simp [nz, nm]) | exact ops_callm2 (d := 69) 1038 2038 ((markR (1 + lens gL gL.length + lens gR gR.length) hL hL.length).map OIs) ((markR (1 + lens gL gL.length + lens gR gR.length + lens hL hL.length) hR hR.length).map OIs) (by decide) rfl rfl rfl rfl (by kernel_rfl) (markLoop_ok hL hR (1 + lens gL gL.length + lens gR gR.length) (by omega) (by omega) (by omega)) (by simp [nm]) (by simp [nm]) (by simp [ns]) (by simp [RV.resOkT, RV.resOk, RV.isAgg, nm]) (by simp [ns]) (by simp [nz, nm]) (by simp [nz, nm]) | exact ops_callm1 (d := 85) 1042 ((markRB 1 A A.length).map OBs) rfl rfl rfl (by kernel_rfl) (markBoolSS_ok A 1 (by omega) (by omega)) (by simp [nm]) (by simp [nm]) (by simp [ns]) (by simp [RV.resOkT, RV.resOk, RV.isAgg, nm]) (by simp [ns]) (by simp [nz, nm]) (by simp [nz, nm]) | exact ops_callv (d := 36) (hfc := toLoop_ok gL gR b1 b2 b3 b4) | exact ops_callv (d := 38) (hfc := toLoop_ok hL hR d1 d2 d3 d4) | exact ops_callv (d := 42) (hfc := hI) | exact ops_callz (d := 57) (hfc := eqLoop_ok gL gR gL gR) | exact ops_callz (d := 62) (hfc := eqLoop_ok hL hR hL hR) | exact ops_callz (hfc := toLoop_ok gL gR b1 b2 b3 b4) | exact ops_callz (hfc := toLoop_ok hL hR d1 d2 d3 d4) | exact ops_callz (hfc := hS) | exact ops_callz (hfc := hI) | exact ops_callz (hfc := eqBoolSS_ok A A) | fail) | fail) (hk := ?_) | refine l_op (hk := ?_) | (refine l_g ?_; first | refine l_y rfl rfl rfl ?_ | refine l_n rfl rfl rfl rfl (hk := ?_) | refine l_n' rfl rfl rfl (hk := ?_) | refine l_spnd rfl rfl rfl (h1 := fun hc => ?_) (h2 := fun hc => ?_) | refine l_spd rfl rfl rfl (h1 := fun hc => ?_) (h2 := fun hc => ?_) | refine l_spn rfl rfl rfl (h1 := fun hc => ?_) (h2 := fun hc => ?_) | refine l_sp rfl rfl rfl (h1 := fun hc => ?_) (h2 := fun hc => ?_)))
    | refine d_nil ?_
    | (refine d_o ?_; first | refine d_fl (hk := ?_) | refine d_ef rfl (by first | exact .callv (d := 36) (hfc := toLoop_ok gL gR b1 b2 b3 b4) | exact .callv (d := 38) (hfc := toLoop_ok hL hR d1 d2 d3 d4) | exact .callv (d := 42) (hfc := hI) | exact .callz (d := 57) (hfc := eqLoop_ok gL gR gL gR) | exact .callz (d := 62) (hfc := eqLoop_ok hL hR hL hR) | exact .callz (hfc := toLoop_ok gL gR b1 b2 b3 b4) | exact .callz (hfc := toLoop_ok hL hR d1 d2 d3 d4) | exact .callz (hfc := hS) | exact .callz (hfc := hI) | exact .callz (hfc := eqBoolSS_ok A A) | exact .callvY (d := 36) (hfc := toLoop_ok gL gR b1 b2 b3 b4) | exact .callvY (d := 38) (hfc := toLoop_ok hL hR d1 d2 d3 d4) | exact .callvY (d := 42) (hfc := hI) | exact .callzY (d := 57) (hfc := eqLoop_ok gL gR gL gR) | exact .callzY (d := 62) (hfc := eqLoop_ok hL hR hL hR) | exact .callzY (hfc := toLoop_ok gL gR b1 b2 b3 b4) | exact .callzY (hfc := toLoop_ok hL hR d1 d2 d3 d4) | exact .callzY (hfc := hS) | exact .callzY (hfc := hI) | exact .callzY (hfc := eqBoolSS_ok A A) | fail) (hk := ?_) | refine d_ef (hk := ?_) | (refine d_g ?_; first | refine d_spnd rfl rfl rfl (h1 := fun hc => ?_) (h2 := fun hc => ?_) | refine d_spd rfl rfl rfl (h1 := fun hc => ?_) (h2 := fun hc => ?_) | refine d_spn rfl rfl rfl (h1 := fun hc => ?_) (h2 := fun hc => ?_) | refine d_sp rfl rfl rfl (h1 := fun hc => ?_) (h2 := fun hc => ?_)))
    | (refine w_o ?_; first | refine w_draw (id := 8) (fun _ => true) (fun k => [1, 3, 4].contains k) [[], [], []] 64 (by kernel_rfl) rfl (by kernel_rfl) (by simp [nm, nset, -List.map_take, -List.map_drop]) ?_ | refine w_draw (id := 14) (roL [2, 8, 1036, 2036]) (fun k => [2, 3].contains k) [[], []] 64 (by kernel_rfl) rfl (by kernel_rfl) (by simp [nm, nset, -List.map_take, -List.map_drop]) ?_ | refine w_draw (id := 16) (roL [3, 9, 1038, 2038]) (fun k => [2, 3].contains k) [[], []] 64 (by kernel_rfl) rfl (by kernel_rfl) (by simp [nm, nset, -List.map_take, -List.map_drop]) ?_ | refine w_draw (id := 31) (fun _ => true) (fun k => [1, 3, 4].contains k) [[], [], []] 64 (by kernel_rfl) rfl (by kernel_rfl) (by simp [nm, nset, -List.map_take, -List.map_drop]) ?_)
  all_goals first
    | exact absurd rfl hc
    | (exfalso; omega)
    | (refine en_one (hf := Try.results4) (h := ?_); simp only [lget]; first | refine congrArg RVb ?_ | refine congrArg RVi ?_ | skip; done)
    | trace_state
end Go.Proofs.Ytmalajoglcpijaa
