/- The drawn laws of StopAtLeast and StopSame answer true. For all loops and places. -/
import Derived.Test.YtmalajoglcpijaaHoldT
import Derived.Test.YtmalajoglcpijaaMarks
namespace Go.Proofs.Ytmalajoglcpijaa
open Eng
attribute [local irreducible] OpS OpG FC FCr Rel Fl Ef DR Fs
set_option linter.unusedSimpArgs false
set_option maxHeartbeats 0
set_option maxRecDepth 100000

theorem szLp_le (L R : List (List Int)) {left : Int} (h0 : 0 ≤ left) : szLp L R left ≤ left := by
  have a := szSSr_le L left
  have b := szSSr_le R (szSSr L left)
  unfold szLp
  split
  · omega
  · split <;> omega
theorem lawAtLeast_ok (gL gR : List (List Int)) (u : Int) (hL hR : List (List Int)) (v : Int) : FCr Try.prog 5 [RLp gL gR, RVi u, RLp hL hR, RVi v] (RVb true) := by
  have q1 := szLp_le gL gR (left := 1048576) (by omega)
  refine (fcr_in Try.func5 rfl (by simp only [Try.ntmps5, anys, List.length_cons, List.length_nil, Nat.reduceAdd, Nat.reduceSub, List.replicate_succ, List.replicate_zero, List.cons_append, List.nil_append] <;> rfl) ?_)
  repeat' first
    | refine w_seq ?_
    | refine w_region ?_
    | refine l_nil ?_
    | refine rt_n ?_
    | refine w_ret ?_
    | refine rt_ret ?_
    | refine w_skip ?_
    | refine w_cond_t rfl ?_
    | refine w_cond_f rfl ?_
    | refine w_cnd rfl (fun hc => ?_) (fun hc => ?_)
    | refine w_cd rfl (fun hc => ?_) (fun hc => ?_)
    | refine w_cn rfl (fun hc => ?_) (fun hc => ?_)
    | refine w_cond rfl (fun hc => ?_) (fun hc => ?_)
    | (refine l_o ?_; first | refine l_op rfl (by first | (apply k_callf; first | exact ops_callz (hfc := szLoop_ok gL gR 1048576 (by omega) (by omega)) | exact ops_callz (hfc := szLoop_ok hL hR (szLp gL gR 1048576) (by omega) (by omega)) | fail) | fail) (hk := ?_) | refine l_op (hk := ?_) | (refine l_g ?_; first | refine l_y rfl rfl rfl ?_ | refine l_n rfl rfl rfl rfl (hk := ?_) | refine l_n' rfl rfl rfl (hk := ?_) | refine l_spnd rfl rfl rfl (h1 := fun hc => ?_) (h2 := fun hc => ?_) | refine l_spd rfl rfl rfl (h1 := fun hc => ?_) (h2 := fun hc => ?_) | refine l_spn rfl rfl rfl (h1 := fun hc => ?_) (h2 := fun hc => ?_) | refine l_sp rfl rfl rfl (h1 := fun hc => ?_) (h2 := fun hc => ?_)))
    | refine d_nil ?_
    | (refine d_o ?_; first | refine d_fl (hk := ?_) | refine d_ef rfl (by first | exact .callz (hfc := szLoop_ok gL gR 1048576 (by omega) (by omega)) | exact .callz (hfc := szLoop_ok hL hR (szLp gL gR 1048576) (by omega) (by omega)) | exact .callzY (hfc := szLoop_ok gL gR 1048576 (by omega) (by omega)) | exact .callzY (hfc := szLoop_ok hL hR (szLp gL gR 1048576) (by omega) (by omega)) | fail) (hk := ?_) | refine d_ef (hk := ?_) | (refine d_g ?_; first | refine d_spnd rfl rfl rfl (h1 := fun hc => ?_) (h2 := fun hc => ?_) | refine d_spd rfl rfl rfl (h1 := fun hc => ?_) (h2 := fun hc => ?_) | refine d_spn rfl rfl rfl (h1 := fun hc => ?_) (h2 := fun hc => ?_) | refine d_sp rfl rfl rfl (h1 := fun hc => ?_) (h2 := fun hc => ?_)))
    | (refine w_o ?_; first | refine w_draw (id := 8) (fun _ => true) (fun k => [1, 4, 6].contains k) [[], [], []] 64 (by kernel_rfl) rfl (by kernel_rfl) (by simp [nm, nset, -List.map_take, -List.map_drop]) ?_ | refine w_draw (id := 14) (fun _ => true) (fun k => [2, 3].contains k) [[], []] 64 (by kernel_rfl) rfl (by kernel_rfl) (by simp [nm, nset, -List.map_take, -List.map_drop]) ?_ | refine w_draw (id := 16) (fun _ => true) (fun k => [2, 3].contains k) [[], []] 64 (by kernel_rfl) rfl (by kernel_rfl) (by simp [nm, nset, -List.map_take, -List.map_drop]) ?_)
  · refine en_one (hf := Try.results5) (h := ?_); simp only [lget]; first | refine congrArg RVb ?_ | refine congrArg RVi ?_ | skip
  · refine en_one (hf := Try.results5) (h := ?_); simp only [lget]; first | refine congrArg RVb ?_ | refine congrArg RVi ?_ | skip
  obtain ⟨⟨b1, b2⟩, b3, b4⟩ := szLp_lens (L := gL) (R := gR) (left := 1048576) (by omega) (by omega)
  obtain ⟨⟨d1, d2⟩, d3, d4⟩ := szLp_lens (L := hL) (R := hR) (left := szLp gL gR 1048576) (by omega) (by omega)
  have hS := specAtLeast_ok gL gR u hL hR v
  have hI := implAtLeast_ok gL gR u hL hR v
  generalize atl gL gR hL hR u v = x at *
  generalize okS gL gR hL hR u v = y at *
  repeat' first
    | refine w_seq ?_
    | refine w_region ?_
    | refine l_nil ?_
    | refine rt_n ?_
    | refine w_ret ?_
    | refine rt_ret ?_
    | refine w_skip ?_
    | refine w_cond_t rfl ?_
    | refine w_cond_f rfl ?_
    | refine w_cnd rfl (fun hc => ?_) (fun hc => ?_)
    | refine w_cd rfl (fun hc => ?_) (fun hc => ?_)
    | refine w_cn rfl (fun hc => ?_) (fun hc => ?_)
    | refine w_cond rfl (fun hc => ?_) (fun hc => ?_)
    | (refine l_o ?_; first | refine l_op rfl (by first | (apply k_callf; first | exact ops_callz (hfc := toLoop_ok gL gR b1 b2 b3 b4) | exact ops_callz (hfc := toLoop_ok hL hR d1 d2 d3 d4) | exact ops_callz (hfc := hS) | exact ops_callz (hfc := hI) | exact ops_callz (hfc := eqLoop_ok gL gR gL gR) | exact ops_callz (hfc := eqLoop_ok hL hR hL hR) | fail) | fail) (hk := ?_) | refine l_op (hk := ?_) | (refine l_g ?_; first | refine l_y rfl rfl rfl ?_ | refine l_n rfl rfl rfl rfl (hk := ?_) | refine l_n' rfl rfl rfl (hk := ?_) | refine l_spnd rfl rfl rfl (h1 := fun hc => ?_) (h2 := fun hc => ?_) | refine l_spd rfl rfl rfl (h1 := fun hc => ?_) (h2 := fun hc => ?_) | refine l_spn rfl rfl rfl (h1 := fun hc => ?_) (h2 := fun hc => ?_) | refine l_sp rfl rfl rfl (h1 := fun hc => ?_) (h2 := fun hc => ?_)))
    | refine d_nil ?_
    | (refine d_o ?_; first | refine d_fl (hk := ?_) | refine d_ef rfl (by first | exact .callz (hfc := toLoop_ok gL gR b1 b2 b3 b4) | exact .callz (hfc := toLoop_ok hL hR d1 d2 d3 d4) | exact .callz (hfc := hS) | exact .callz (hfc := hI) | exact .callz (hfc := eqLoop_ok gL gR gL gR) | exact .callz (hfc := eqLoop_ok hL hR hL hR) | exact .callzY (hfc := toLoop_ok gL gR b1 b2 b3 b4) | exact .callzY (hfc := toLoop_ok hL hR d1 d2 d3 d4) | exact .callzY (hfc := hS) | exact .callzY (hfc := hI) | exact .callzY (hfc := eqLoop_ok gL gR gL gR) | exact .callzY (hfc := eqLoop_ok hL hR hL hR) | fail) (hk := ?_) | refine d_ef (hk := ?_) | (refine d_g ?_; first | refine d_spnd rfl rfl rfl (h1 := fun hc => ?_) (h2 := fun hc => ?_) | refine d_spd rfl rfl rfl (h1 := fun hc => ?_) (h2 := fun hc => ?_) | refine d_spn rfl rfl rfl (h1 := fun hc => ?_) (h2 := fun hc => ?_) | refine d_sp rfl rfl rfl (h1 := fun hc => ?_) (h2 := fun hc => ?_)))
    | (refine w_o ?_; first | refine w_draw (id := 8) (fun _ => true) (fun k => [1, 4, 6].contains k) [[], [], []] 64 (by kernel_rfl) rfl (by kernel_rfl) (by simp [nm, nset, -List.map_take, -List.map_drop]) ?_ | refine w_draw (id := 14) (fun _ => true) (fun k => [2, 3].contains k) [[], []] 64 (by kernel_rfl) rfl (by kernel_rfl) (by simp [nm, nset, -List.map_take, -List.map_drop]) ?_ | refine w_draw (id := 16) (fun _ => true) (fun k => [2, 3].contains k) [[], []] 64 (by kernel_rfl) rfl (by kernel_rfl) (by simp [nm, nset, -List.map_take, -List.map_drop]) ?_)
  all_goals first
    | exact absurd rfl hc
    | (refine en_one (hf := Try.results5) (h := ?_); simp only [lget]; first | refine congrArg RVb ?_ | refine congrArg RVi ?_ | skip; done)
    | (exfalso; simp at hc; done)
    | trace_state
theorem lawSame_ok (gL gR : List (List Int)) (u : Int) (hL hR : List (List Int)) (v : Int) : FCr Try.prog 6 [RLp gL gR, RVi u, RLp hL hR, RVi v] (RVb true) := by
  have q1 := szLp_le gL gR (left := 1048576) (by omega)
  refine (fcr_in Try.func6 rfl (by simp only [Try.ntmps6, anys, List.length_cons, List.length_nil, Nat.reduceAdd, Nat.reduceSub, List.replicate_succ, List.replicate_zero, List.cons_append, List.nil_append] <;> rfl) ?_)
  repeat' first
    | refine w_seq ?_
    | refine w_region ?_
    | refine l_nil ?_
    | refine rt_n ?_
    | refine w_ret ?_
    | refine rt_ret ?_
    | refine w_skip ?_
    | refine w_cond_t rfl ?_
    | refine w_cond_f rfl ?_
    | refine w_cnd rfl (fun hc => ?_) (fun hc => ?_)
    | refine w_cd rfl (fun hc => ?_) (fun hc => ?_)
    | refine w_cn rfl (fun hc => ?_) (fun hc => ?_)
    | refine w_cond rfl (fun hc => ?_) (fun hc => ?_)
    | (refine l_o ?_; first | refine l_op rfl (by first | (apply k_callf; first | exact ops_callz (hfc := szLoop_ok gL gR 1048576 (by omega) (by omega)) | exact ops_callz (hfc := szLoop_ok hL hR (szLp gL gR 1048576) (by omega) (by omega)) | fail) | fail) (hk := ?_) | refine l_op (hk := ?_) | (refine l_g ?_; first | refine l_y rfl rfl rfl ?_ | refine l_n rfl rfl rfl rfl (hk := ?_) | refine l_n' rfl rfl rfl (hk := ?_) | refine l_spnd rfl rfl rfl (h1 := fun hc => ?_) (h2 := fun hc => ?_) | refine l_spd rfl rfl rfl (h1 := fun hc => ?_) (h2 := fun hc => ?_) | refine l_spn rfl rfl rfl (h1 := fun hc => ?_) (h2 := fun hc => ?_) | refine l_sp rfl rfl rfl (h1 := fun hc => ?_) (h2 := fun hc => ?_)))
    | refine d_nil ?_
    | (refine d_o ?_; first | refine d_fl (hk := ?_) | refine d_ef rfl (by first | exact .callz (hfc := szLoop_ok gL gR 1048576 (by omega) (by omega)) | exact .callz (hfc := szLoop_ok hL hR (szLp gL gR 1048576) (by omega) (by omega)) | exact .callzY (hfc := szLoop_ok gL gR 1048576 (by omega) (by omega)) | exact .callzY (hfc := szLoop_ok hL hR (szLp gL gR 1048576) (by omega) (by omega)) | fail) (hk := ?_) | refine d_ef (hk := ?_) | (refine d_g ?_; first | refine d_spnd rfl rfl rfl (h1 := fun hc => ?_) (h2 := fun hc => ?_) | refine d_spd rfl rfl rfl (h1 := fun hc => ?_) (h2 := fun hc => ?_) | refine d_spn rfl rfl rfl (h1 := fun hc => ?_) (h2 := fun hc => ?_) | refine d_sp rfl rfl rfl (h1 := fun hc => ?_) (h2 := fun hc => ?_)))
    | (refine w_o ?_; first | refine w_draw (id := 8) (fun _ => true) (fun k => [1, 4, 6].contains k) [[], [], []] 64 (by kernel_rfl) rfl (by kernel_rfl) (by simp [nm, nset, -List.map_take, -List.map_drop]) ?_ | refine w_draw (id := 14) (fun _ => true) (fun k => [2, 3].contains k) [[], []] 64 (by kernel_rfl) rfl (by kernel_rfl) (by simp [nm, nset, -List.map_take, -List.map_drop]) ?_ | refine w_draw (id := 16) (fun _ => true) (fun k => [2, 3].contains k) [[], []] 64 (by kernel_rfl) rfl (by kernel_rfl) (by simp [nm, nset, -List.map_take, -List.map_drop]) ?_)
  · refine en_one (hf := Try.results6) (h := ?_); simp only [lget]; first | refine congrArg RVb ?_ | refine congrArg RVi ?_ | skip
  · refine en_one (hf := Try.results6) (h := ?_); simp only [lget]; first | refine congrArg RVb ?_ | refine congrArg RVi ?_ | skip
  obtain ⟨⟨b1, b2⟩, b3, b4⟩ := szLp_lens (L := gL) (R := gR) (left := 1048576) (by omega) (by omega)
  obtain ⟨⟨d1, d2⟩, d3, d4⟩ := szLp_lens (L := hL) (R := hR) (left := szLp gL gR 1048576) (by omega) (by omega)
  have hS := specSame_ok gL gR u hL hR v
  have hI := implSame_ok gL gR u hL hR v
  generalize (atl gL gR hL hR u v && atl hL hR gL gR v u) = x at *
  generalize (okS gL gR hL hR u v && okS hL hR gL gR v u) = y at *
  repeat' first
    | refine w_seq ?_
    | refine w_region ?_
    | refine l_nil ?_
    | refine rt_n ?_
    | refine w_ret ?_
    | refine rt_ret ?_
    | refine w_skip ?_
    | refine w_cond_t rfl ?_
    | refine w_cond_f rfl ?_
    | refine w_cnd rfl (fun hc => ?_) (fun hc => ?_)
    | refine w_cd rfl (fun hc => ?_) (fun hc => ?_)
    | refine w_cn rfl (fun hc => ?_) (fun hc => ?_)
    | refine w_cond rfl (fun hc => ?_) (fun hc => ?_)
    | (refine l_o ?_; first | refine l_op rfl (by first | (apply k_callf; first | exact ops_callz (hfc := toLoop_ok gL gR b1 b2 b3 b4) | exact ops_callz (hfc := toLoop_ok hL hR d1 d2 d3 d4) | exact ops_callz (hfc := hS) | exact ops_callz (hfc := hI) | exact ops_callz (hfc := eqLoop_ok gL gR gL gR) | exact ops_callz (hfc := eqLoop_ok hL hR hL hR) | fail) | fail) (hk := ?_) | refine l_op (hk := ?_) | (refine l_g ?_; first | refine l_y rfl rfl rfl ?_ | refine l_n rfl rfl rfl rfl (hk := ?_) | refine l_n' rfl rfl rfl (hk := ?_) | refine l_spnd rfl rfl rfl (h1 := fun hc => ?_) (h2 := fun hc => ?_) | refine l_spd rfl rfl rfl (h1 := fun hc => ?_) (h2 := fun hc => ?_) | refine l_spn rfl rfl rfl (h1 := fun hc => ?_) (h2 := fun hc => ?_) | refine l_sp rfl rfl rfl (h1 := fun hc => ?_) (h2 := fun hc => ?_)))
    | refine d_nil ?_
    | (refine d_o ?_; first | refine d_fl (hk := ?_) | refine d_ef rfl (by first | exact .callz (hfc := toLoop_ok gL gR b1 b2 b3 b4) | exact .callz (hfc := toLoop_ok hL hR d1 d2 d3 d4) | exact .callz (hfc := hS) | exact .callz (hfc := hI) | exact .callz (hfc := eqLoop_ok gL gR gL gR) | exact .callz (hfc := eqLoop_ok hL hR hL hR) | exact .callzY (hfc := toLoop_ok gL gR b1 b2 b3 b4) | exact .callzY (hfc := toLoop_ok hL hR d1 d2 d3 d4) | exact .callzY (hfc := hS) | exact .callzY (hfc := hI) | exact .callzY (hfc := eqLoop_ok gL gR gL gR) | exact .callzY (hfc := eqLoop_ok hL hR hL hR) | fail) (hk := ?_) | refine d_ef (hk := ?_) | (refine d_g ?_; first | refine d_spnd rfl rfl rfl (h1 := fun hc => ?_) (h2 := fun hc => ?_) | refine d_spd rfl rfl rfl (h1 := fun hc => ?_) (h2 := fun hc => ?_) | refine d_spn rfl rfl rfl (h1 := fun hc => ?_) (h2 := fun hc => ?_) | refine d_sp rfl rfl rfl (h1 := fun hc => ?_) (h2 := fun hc => ?_)))
    | (refine w_o ?_; first | refine w_draw (id := 8) (fun _ => true) (fun k => [1, 4, 6].contains k) [[], [], []] 64 (by kernel_rfl) rfl (by kernel_rfl) (by simp [nm, nset, -List.map_take, -List.map_drop]) ?_ | refine w_draw (id := 14) (fun _ => true) (fun k => [2, 3].contains k) [[], []] 64 (by kernel_rfl) rfl (by kernel_rfl) (by simp [nm, nset, -List.map_take, -List.map_drop]) ?_ | refine w_draw (id := 16) (fun _ => true) (fun k => [2, 3].contains k) [[], []] 64 (by kernel_rfl) rfl (by kernel_rfl) (by simp [nm, nset, -List.map_take, -List.map_drop]) ?_)
  all_goals first
    | exact absurd rfl hc
    | (refine en_one (hf := Try.results6) (h := ?_); simp only [lget]; first | refine congrArg RVb ?_ | refine congrArg RVi ?_ | skip; done)
    | (exfalso; simp at hc; done)
    | trace_state
end Go.Proofs.Ytmalajoglcpijaa
