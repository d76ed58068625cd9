/- The drawn law of JoinLoops answers true. For all loops. -/
import Derived.Test.YtmplelnodamedaaJoinS
import Derived.Test.YtmplelnodamedaaMarks
namespace Go.Proofs.Ytmplelnodamedaa
open Eng
attribute [local irreducible] OpS OpG FC FCr Rel Fl Ef DR Fs
attribute [local simp] RV.fzR_names
set_option linter.unusedSimpArgs false
set_option maxHeartbeats 0
set_option maxRecDepth 100000

theorem jo_small (gL gR hL hR : List (List Int)) : (joA gL gR hL hR).length ≤ 36 ∧ (joB gL gR hL hR).length ≤ 36 ∧ lens (joA gL gR hL hR) (joA gL gR hL hR).length ≤ 864 ∧ lens (joB gL gR hL hR) (joB gL gR hL hR).length ≤ 864 := by
  cases ho : joOk gL gR hL hR with
  | false =>
    obtain ⟨a, b⟩ := jo_no ho
    rw [a, b]; simp [lens]
  | true =>
    obtain ⟨a, b⟩ := jo_yes ho
    rw [a, b]
    unfold joOk at ho
    simp only [Bool.and_eq_true] at ho
    have g := goodI ho.2
    have h1 := g.len
    have h2 := g.lenR
    have a1 := lens_le_mul (jn gL hL) 24 g.lL
    have b1 := lens_le_mul (jn gR hR) 24 g.lR
    omega
theorem lawJoin_ok (gL gR hL hR : List (List Int)) : FCr Try.prog 5 [RLp gL gR, RLp hL hR] (RVb true) := by
  have q1 := szLp_le gL gR (left := 1048576) (by omega)
  refine (fcr_in Try.func5 rfl (by simp only [Try.ntmps5, anys, List.length_cons, List.length_nil, Nat.reduceAdd, Nat.reduceSub, List.replicate_succ, List.replicate_zero, List.cons_append, List.nil_append] <;> rfl) ?_)
  repeat' first
    | refine w_seq ?_
    | refine w_region ?_
    | refine l_nil ?_
    | refine rt_n ?_
    | refine w_ret ?_
    | refine rt_ret ?_
    | refine w_skip ?_
    | refine w_cond_t rfl ?_
    | refine w_cond_f rfl ?_
    | refine w_cnd rfl (fun hc => ?_) (fun hc => ?_)
    | refine w_cd rfl (fun hc => ?_) (fun hc => ?_)
    | refine w_cn rfl (fun hc => ?_) (fun hc => ?_)
    | refine w_cond rfl (fun hc => ?_) (fun hc => ?_)
    | (refine l_o ?_; first | refine l_op rfl (by first | (apply k_callf; first | exact ops_callz (hfc := szLoop_ok gL gR 1048576 (by omega) (by omega)) | exact ops_callz (hfc := szLoop_ok hL hR (szLp gL gR 1048576) (by omega) (by omega)) | fail) | fail) (hk := ?_) | refine l_op (hk := ?_) | (refine l_g ?_; first | refine l_y rfl rfl rfl ?_ | refine l_n rfl rfl rfl rfl (hk := ?_) | refine l_n' rfl rfl rfl (hk := ?_) | refine l_spnd rfl rfl rfl (h1 := fun hc => ?_) (h2 := fun hc => ?_) | refine l_spd rfl rfl rfl (h1 := fun hc => ?_) (h2 := fun hc => ?_) | refine l_spn rfl rfl rfl (h1 := fun hc => ?_) (h2 := fun hc => ?_) | refine l_sp rfl rfl rfl (h1 := fun hc => ?_) (h2 := fun hc => ?_)))
    | refine e_nil ?_
    | (refine e_o ?_; first | refine e_fl (hk := ?_) | refine e_ef rfl (by first | exact .callz (hfc := szLoop_ok gL gR 1048576 (by omega) (by omega)) | exact .callz (hfc := szLoop_ok hL hR (szLp gL gR 1048576) (by omega) (by omega)) | exact .callzY (hfc := szLoop_ok gL gR 1048576 (by omega) (by omega)) | exact .callzY (hfc := szLoop_ok hL hR (szLp gL gR 1048576) (by omega) (by omega)) | fail) (hk := ?_) | refine e_ef (hk := ?_) | (refine e_g ?_; first | refine e_spnd rfl rfl rfl (h1 := fun hc => ?_) (h2 := fun hc => ?_) | refine e_spd rfl rfl rfl (h1 := fun hc => ?_) (h2 := fun hc => ?_) | refine e_spn rfl rfl rfl (h1 := fun hc => ?_) (h2 := fun hc => ?_) | refine e_sp rfl rfl rfl (h1 := fun hc => ?_) (h2 := fun hc => ?_)))
    | (refine w_o ?_; first | refine w_drawS (id := 8) (rdP [(0,2),(2,3)]) (fun k => [8, 9].contains k) [[6],[]] (by kernel_rfl) rfl (by kernel_rfl) (by simp [nm, nset, -List.map_take, -List.map_drop]) ?_ | refine w_drawS (id := 14) (rdP []) (fun k => [2, 3].contains k) [[], []] (by kernel_rfl) rfl (by kernel_rfl) (by simp [nm, nset, -List.map_take, -List.map_drop]) ?_ | refine w_drawS (id := 16) (rdP []) (fun k => [2, 3].contains k) [[], []] (by kernel_rfl) rfl (by kernel_rfl) (by simp [nm, nset, -List.map_take, -List.map_drop]) ?_ | refine w_drawS (id := 31) (rdP []) (fun k => [1, 3, 4, 8, 9].contains k) [[], [], [], [], []] (by kernel_rfl) rfl (by kernel_rfl) (by simp [nm, nset, -List.map_take, -List.map_drop]) ?_)
  · refine en_one (hf := Try.results5) (h := ?_); simp only [lget]; first | refine congrArg RVb ?_ | refine congrArg RVi ?_ | skip
  · refine en_one (hf := Try.results5) (h := ?_); simp only [lget]; first | refine congrArg RVb ?_ | refine congrArg RVi ?_ | skip
  obtain ⟨⟨b1, b2⟩, b3, b4⟩ := szLp_lens (L := gL) (R := gR) (left := 1048576) (by omega) (by omega)
  obtain ⟨⟨d1, d2⟩, d3, d4⟩ := szLp_lens (L := hL) (R := hR) (left := szLp gL gR 1048576) (by omega) (by omega)
  have b5 := lens_szLp (L := gL) (R := gR) (left := 1048576) (by omega)
  have d5 := lens_szLp (L := hL) (R := hR) (left := szLp gL gR 1048576) (by omega)
  have hS := specJoin_ok gL gR hL hR
  have hI := implJoin_ok gL gR hL hR
  obtain ⟨c1, c2, c3, c4⟩ := jo_small gL gR hL hR
  generalize joA gL gR hL hR = A at *
  generalize joB gL gR hL hR = B at *
  generalize joOk gL gR hL hR = o at *
  have hA := markR_all 1 A
  have hB := markR_all (1 + lens A A.length) B
  have hh := heldLp_marked 1 A B
  have hH := heldLoop_ok (markR 1 A A.length) (markR (1 + lens A A.length) B B.length) 1 (by rw [markR_length]; omega) (by rw [markR_length]; omega) (by omega)
  rw [hh, hA.1, hB.1, if_pos rfl] at hH
  have l1 := markR_length 1 A A.length
  have l2 := markR_length (1 + lens A A.length) B B.length
  have t1 := List.take_of_length_le (l := (markR 1 A A.length).map OIs) (i := A.length) (by simp [l1])
  have t2 := List.take_of_length_le (l := (markR (1 + lens A A.length) B B.length).map OIs) (i := B.length) (by simp [l2])
  clear hA hB hh
  have hTg := toLoop_ok gL gR b1 b2 b3 b4
  have hTh := toLoop_ok hL hR d1 d2 d3 d4
  -- DBG
  repeat' first
    | refine w_seq ?_
    | refine w_region ?_
    | refine l_nil ?_
    | refine rt_n ?_
    | refine w_ret ?_
    | refine rt_ret ?_
    | refine w_skip ?_
    | refine w_cond_t rfl ?_
    | refine w_cond_f rfl ?_
    | refine w_cnd rfl (fun hc => ?_) (fun hc => ?_)
    | refine w_cd rfl (fun hc => ?_) (fun hc => ?_)
    | refine w_cn rfl (fun hc => ?_) (fun hc => ?_)
    | refine w_cond rfl (fun hc => ?_) (fun hc => ?_)
    | (refine l_o ?_; first | refine l_op rfl (by first | (apply k_callf; first | exact ops_callz (by simp [view1, viewC, olook, nz, nf, l1, l2, t1, t2]) rfl (by kernel_rfl) hH (by simp [ns]) | exact ops_callm2 (d := 66) 1036 2036 ((markR 1 gL gL.length).map OIs) ((markR (1 + lens gL gL.length) gR gR.length).map OIs) (by decide) rfl rfl rfl rfl (by kernel_rfl) (markLoop_ok gL gR 1 (by omega) (by omega) (by omega)) (by simp [nm]) (by simp [nm]) (by simp [ns]) (by simp [RV.resOkT, RV.resOk, RV.isAgg, nm]) (by simp [ns]) (by simp [nz, nm]) (by simp [nz, nm]) | exact ops_callm2 (d := 69) 1038 2038 ((markR (1 + lens gL gL.length + lens gR gR.length) hL hL.length).map OIs) ((markR (1 + lens gL gL.length + lens gR gR.length + lens hL hL.length) hR hR.length).map OIs) (by decide) rfl rfl rfl rfl (by kernel_rfl) (markLoop_ok hL hR (1 + lens gL gL.length + lens gR gR.length) (by omega) (by omega) (by omega)) (by simp [nm]) (by simp [nm]) (by simp [ns]) (by simp [RV.resOkT, RV.resOk, RV.isAgg, nm]) (by simp [ns]) (by simp [nz, nm]) (by simp [nz, nm]) | exact ops_callm2 (d := 85) 100001042 200001042 ((markR 1 A A.length).map OIs) ((markR (1 + lens A A.length) B B.length).map OIs) (by decide) rfl rfl rfl rfl (by kernel_rfl) (markLoop_ok A B 1 (by omega) (by omega) (by omega)) (by simp [nm]) (by simp [nm]) (by simp [ns]) (by simp [RV.resOkT, RV.resOk, RV.isAgg, nm]) (by simp [ns]) (by simp [nz, nm]) (by simp [nz, nm]) | exact ops_callv (d := 36) (hfc := hTg) | exact ops_callv (d := 38) (hfc := hTh) | exact ops_callz (d := 56) (hfc := hTg) | exact ops_callz (d := 61) (hfc := hTh) | exact ops_callv (d := 42) (hfc := hI) | exact ops_callz (d := 57) (hfc := eqLoop_ok gL gR gL gR) | exact ops_callz (d := 62) (hfc := eqLoop_ok hL hR hL hR) | exact ops_callf (d := 29) (hfc := hTg) | exact ops_callf (d := 31) (hfc := hTh) | exact ops_callf (d := 32) (hfc := hS) | exact ops_callf (d := 96) (hfc := hTg) | exact ops_callf (d := 98) (hfc := hTh) | exact ops_callf (d := 99) (hfc := hI) | exact ops_callz (hfc := eqLoop_ok A B A B) | fail) | fail) (hk := ?_) | refine l_op (hk := ?_) | (refine l_g ?_; first | refine l_y rfl rfl rfl ?_ | refine l_n rfl rfl rfl rfl (hk := ?_) | refine l_n' rfl rfl rfl (hk := ?_) | refine l_spnd rfl rfl rfl (h1 := fun hc => ?_) (h2 := fun hc => ?_) | refine l_spd rfl rfl rfl (h1 := fun hc => ?_) (h2 := fun hc => ?_) | refine l_spn rfl rfl rfl (h1 := fun hc => ?_) (h2 := fun hc => ?_) | refine l_sp rfl rfl rfl (h1 := fun hc => ?_) (h2 := fun hc => ?_)))
    | refine e_nil ?_
    | (refine e_o ?_; first | refine e_fl rfl (by first | exact .pl (by first | (apply q_callf; first | exact fs_callf (d := 29) (hfc := hTg) | exact fs_callf (d := 31) (hfc := hTh) | exact fs_callf (d := 32) (hfc := hS) | exact fs_callf (d := 96) (hfc := hTg) | exact fs_callf (d := 98) (hfc := hTh) | exact fs_callf (d := 99) (hfc := hI) | fail) | fail) | exact .ye rfl rfl rfl (by first | (apply q_callf; first | exact fs_callf (d := 29) (hfc := hTg) | exact fs_callf (d := 31) (hfc := hTh) | exact fs_callf (d := 32) (hfc := hS) | exact fs_callf (d := 96) (hfc := hTg) | exact fs_callf (d := 98) (hfc := hTh) | exact fs_callf (d := 99) (hfc := hI) | fail) | fail) | fail) (hk := ?_) | refine e_fl (hk := ?_) | refine e_ef rfl (by first | exact .alloca (zs := _) rfl (by decide) rfl (by decide) (by simp [nm, nset, -List.map_take, -List.map_drop]) | exact .callv (d := 36) (hfc := hTg) | exact .callv (d := 38) (hfc := hTh) | exact .callz (d := 56) (hfc := hTg) | exact .callz (d := 61) (hfc := hTh) | exact .callv (d := 42) (hfc := hI) | exact .callz (d := 57) (hfc := eqLoop_ok gL gR gL gR) | exact .callz (d := 62) (hfc := eqLoop_ok hL hR hL hR) | exact .callz (hfc := eqLoop_ok A B A B) | exact .callvY (d := 36) (hfc := hTg) | exact .callvY (d := 38) (hfc := hTh) | exact .callzY (d := 56) (hfc := hTg) | exact .callzY (d := 61) (hfc := hTh) | exact .callvY (d := 42) (hfc := hI) | exact .callzY (d := 57) (hfc := eqLoop_ok gL gR gL gR) | exact .callzY (d := 62) (hfc := eqLoop_ok hL hR hL hR) | exact .callzY (hfc := eqLoop_ok A B A B) | fail) (hk := ?_) | refine e_ef (hk := ?_) | (refine e_g ?_; first | refine e_spnd rfl rfl rfl (h1 := fun hc => ?_) (h2 := fun hc => ?_) | refine e_spd rfl rfl rfl (h1 := fun hc => ?_) (h2 := fun hc => ?_) | refine e_spn rfl rfl rfl (h1 := fun hc => ?_) (h2 := fun hc => ?_) | refine e_sp rfl rfl rfl (h1 := fun hc => ?_) (h2 := fun hc => ?_)))
    | (refine w_o ?_; first | refine w_drawS (id := 8) (rdP [(0,2),(2,3)]) (fun k => [8, 9].contains k) [[6],[]] (by kernel_rfl) rfl (by kernel_rfl) (by simp [nm, nset, -List.map_take, -List.map_drop]) ?_ | refine w_drawS (id := 14) (rdP [(0,8),(1,2)]) (fun k => [2, 3].contains k) [[],[]] (by kernel_rfl) rfl (by kernel_rfl) (by simp [nm, nset, -List.map_take, -List.map_drop]) ?_ | refine w_drawS (id := 16) (rdP [(0,9),(1,3)]) (fun k => [2, 3].contains k) [[],[]] (by kernel_rfl) rfl (by kernel_rfl) (by simp [nm, nset, -List.map_take, -List.map_drop]) ?_ | refine w_drawS (id := 31) (rdP [(0,2),(2,3)]) (fun k => [8, 9].contains k) [[15],[]] (by kernel_rfl) rfl (by kernel_rfl) (by simp [nm, nset, -List.map_take, -List.map_drop]) ?_)
  all_goals first
    | exact absurd rfl hc
    | (exfalso; omega)
    | (refine en_one (hf := Try.results5) (h := ?_); simp only [lget]; first | refine congrArg RVb ?_ | refine congrArg RVi ?_ | skip; done)
    | trace_state
end Go.Proofs.Ytmplelnodamedaa
