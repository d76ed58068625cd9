/- The drawn law of PruneLoop answers true. For all loops and places. -/
import Derived.Test.YtmalajoglcpijaaPruneS
import Derived.Test.YtmalajoglcpijaaReachLaw
namespace Go.Proofs.Ytmalajoglcpijaa
open Eng
attribute [local irreducible] OpS OpG FC FCr Rel Fl Ef DR Fs
set_option linter.unusedSimpArgs false
set_option maxHeartbeats 0
set_option maxRecDepth 100000

theorem plcs_len (W ps : List Int) : (plcs W ps).length = ps.length := by simp [plcs]
theorem pr_small (L R : List (List Int)) (a : Int) : (prA L R a).length ≤ 36 ∧ (prB L R a).length ≤ 36 ∧ lens (prA L R a) (prA L R a).length ≤ 864 ∧ lens (prB L R a) (prB L R a).length ≤ 864 := by
  have h1 := rch_len L R a
  have lA : (prA L R a).length = (rch L R a).length := by simp [prA]
  have lB : (prB L R a).length = (rch L R a).length := by simp [prB]
  cases ho : okAt L R a with
  | false =>
    have e : rch L R a = [] := by simp [rch, ho]
    simp [prA, prB, e, lens]
  | true =>
    have g := goodI (okAt_good ho).1
    have row : ∀ (M : List (List Int)), (∀ l ∈ M, l.length ≤ 24) → ∀ i, (M.getD i []).length ≤ 24 := fun M hM i => by
      rcases Nat.lt_or_ge i M.length with h | h
      · rw [gd h]; exact hM _ (List.getElem_mem h)
      · rw [gd_out (by omega)]; simp
    have a1 := lens_le_mul (prA L R a) 24 fun r hr => by
      simp only [prA, List.mem_map] at hr
      obtain ⟨i, _, rfl⟩ := hr
      rw [plcs_len]; exact row L g.lL _
    have b1 := lens_le_mul (prB L R a) 24 fun r hr => by
      simp only [prB, List.mem_map] at hr
      obtain ⟨i, _, rfl⟩ := hr
      rw [plcs_len]; exact row R g.lR _
    omega
theorem lawPrune_ok (L R : List (List Int)) (a : Int) : FCr Try.prog 11 [RLp L R, RVi a] (RVb true) := by
  refine (fcr_in Try.func11 rfl (by simp only [Try.ntmps11, anys, List.length_cons, List.length_nil, Nat.reduceAdd, Nat.reduceSub, List.replicate_succ, List.replicate_zero, List.cons_append, List.nil_append] <;> rfl) ?_)
  repeat' first
    | refine w_seq ?_
    | refine w_region ?_
    | refine l_nil ?_
    | refine rt_n ?_
    | refine w_ret ?_
    | refine rt_ret ?_
    | refine w_skip ?_
    | refine w_cond_t rfl ?_
    | refine w_cond_f rfl ?_
    | refine w_cnd rfl (fun hc => ?_) (fun hc => ?_)
    | refine w_cd rfl (fun hc => ?_) (fun hc => ?_)
    | refine w_cn rfl (fun hc => ?_) (fun hc => ?_)
    | refine w_cond rfl (fun hc => ?_) (fun hc => ?_)
    | (refine l_o ?_; first | refine l_op rfl (by first | (apply k_callf; first | exact ops_callz (hfc := szLoop_ok L R 1048576 (by omega) (by omega)) | fail) | fail) (hk := ?_) | refine l_op (hk := ?_) | (refine l_g ?_; first | refine l_y rfl rfl rfl ?_ | refine l_n rfl rfl rfl rfl (hk := ?_) | refine l_n' rfl rfl rfl (hk := ?_) | refine l_spnd rfl rfl rfl (h1 := fun hc => ?_) (h2 := fun hc => ?_) | refine l_spd rfl rfl rfl (h1 := fun hc => ?_) (h2 := fun hc => ?_) | refine l_spn rfl rfl rfl (h1 := fun hc => ?_) (h2 := fun hc => ?_) | refine l_sp rfl rfl rfl (h1 := fun hc => ?_) (h2 := fun hc => ?_)))
    | refine d_nil ?_
    | (refine d_o ?_; first | refine d_fl (hk := ?_) | refine d_ef rfl (by first | exact .callz (hfc := szLoop_ok L R 1048576 (by omega) (by omega)) | exact .callzY (hfc := szLoop_ok L R 1048576 (by omega) (by omega)) | fail) (hk := ?_) | refine d_ef (hk := ?_) | (refine d_g ?_; first | refine d_spnd rfl rfl rfl (h1 := fun hc => ?_) (h2 := fun hc => ?_) | refine d_spd rfl rfl rfl (h1 := fun hc => ?_) (h2 := fun hc => ?_) | refine d_spn rfl rfl rfl (h1 := fun hc => ?_) (h2 := fun hc => ?_) | refine d_sp rfl rfl rfl (h1 := fun hc => ?_) (h2 := fun hc => ?_)))
    | (refine w_o ?_; first | refine w_draw (id := 10) (fun _ => true) (fun k => [2, 3].contains k) [[], []] 64 (by kernel_rfl) rfl (by kernel_rfl) (by simp [nm, nset, -List.map_take, -List.map_drop]) ?_)
  · refine en_one (hf := Try.results11) (h := ?_); simp only [lget]; first | refine congrArg RVb ?_ | refine congrArg RVi ?_ | skip
  obtain ⟨⟨b1, b2⟩, b3, b4⟩ := szLp_lens (L := L) (R := R) (left := 1048576) (by omega) (by omega)
  have b5 := lens_szLp (L := L) (R := R) (left := 1048576) (by omega)
  obtain ⟨c1, c2, c3, c4⟩ := pr_small L R a
  have hT := implPrune_ok L R a
  have hS := specPrune_ok L R a
  generalize prA L R a = A at *
  generalize prB L R a = B at *
  generalize prAt L R a = x at *
  generalize okAt L R a = G at *
  have hA := markR_all 1 A
  have hB := markR_all (1 + lens A A.length) B
  have hh := heldLp_marked 1 A B
  have hH := heldLoop_ok (markR 1 A A.length) (markR (1 + lens A A.length) B B.length) 1 (by rw [markR_length]; omega) (by rw [markR_length]; omega) (by omega)
  rw [hh, hA.1, hB.1, if_pos rfl] at hH
  have l1 := markR_length 1 A A.length
  have l2 := markR_length (1 + lens A A.length) B B.length
  have t1 := List.take_of_length_le (l := (markR 1 A A.length).map OIs) (i := A.length) (by simp [l1])
  have t2 := List.take_of_length_le (l := (markR (1 + lens A A.length) B B.length).map OIs) (i := B.length) (by simp [l2])
  clear hA hB hh
  repeat' first
    | refine w_seq ?_
    | refine w_region ?_
    | refine l_nil ?_
    | refine rt_n ?_
    | refine w_ret ?_
    | refine rt_ret ?_
    | refine w_skip ?_
    | refine w_cond_t rfl ?_
    | refine w_cond_f rfl ?_
    | refine w_cnd rfl (fun hc => ?_) (fun hc => ?_)
    | refine w_cd rfl (fun hc => ?_) (fun hc => ?_)
    | refine w_cn rfl (fun hc => ?_) (fun hc => ?_)
    | refine w_cond rfl (fun hc => ?_) (fun hc => ?_)
    | (refine l_o ?_; first | refine l_op rfl (by first | (apply k_callf; first | exact ops_callz (by simp [view1, viewC, olook, nz, nf, l1, l2, t1, t2]) rfl (by kernel_rfl) hH (by simp [ns]) | exact ops_callm2 (d := 62) 1033 2033 ((markR 1 L L.length).map OIs) ((markR (1 + lens L L.length) R R.length).map OIs) (by decide) rfl rfl rfl rfl (by kernel_rfl) (markLoop_ok L R 1 (by omega) (by omega) (by omega)) (by simp [nm]) (by simp [nm]) (by simp [ns]) (by simp [RV.resOkT, RV.resOk, RV.isAgg, nm]) (by simp [ns]) (by simp [nz, nm]) (by simp [nz, nm]) | exact ops_callm2 (d := 83) 100001037 200001037 ((markR 1 A A.length).map OIs) ((markR (1 + lens A A.length) B B.length).map OIs) (by decide) rfl rfl rfl rfl (by kernel_rfl) (markLoop_ok A B 1 (by omega) (by omega) (by omega)) (by simp [nm]) (by simp [nm]) (by simp [ns]) (by simp [RV.resOkT, RV.resOk, RV.isAgg, nm]) (by simp [ns]) (by simp [nz, nm]) (by simp [nz, nm]) | exact ops_callv (d := 33) (hfc := toLoop_ok L R b1 b2 b3 b4) | exact ops_callv (d := 37) (hfc := hT) | exact ops_callz (d := 58) (hfc := eqLoop_ok L R L R) | exact ops_callz (hfc := toLoop_ok L R b1 b2 b3 b4) | exact ops_callz (hfc := hS) | exact ops_callz (hfc := hT) | exact ops_callz (hfc := eqLoop_ok A B A B) | fail) | fail) (hk := ?_) | refine l_op (hk := ?_) | (refine l_g ?_; first | refine l_y rfl rfl rfl ?_ | refine l_n rfl rfl rfl rfl (hk := ?_) | refine l_n' rfl rfl rfl (hk := ?_) | refine l_spnd rfl rfl rfl (h1 := fun hc => ?_) (h2 := fun hc => ?_) | refine l_spd rfl rfl rfl (h1 := fun hc => ?_) (h2 := fun hc => ?_) | refine l_spn rfl rfl rfl (h1 := fun hc => ?_) (h2 := fun hc => ?_) | refine l_sp rfl rfl rfl (h1 := fun hc => ?_) (h2 := fun hc => ?_)))
    | refine d_nil ?_
    | (refine d_o ?_; first | refine d_fl (hk := ?_) | refine d_ef rfl (by first | exact .callv (d := 33) (hfc := toLoop_ok L R b1 b2 b3 b4) | exact .callv (d := 37) (hfc := hT) | exact .callz (d := 58) (hfc := eqLoop_ok L R L R) | exact .callz (hfc := toLoop_ok L R b1 b2 b3 b4) | exact .callz (hfc := hS) | exact .callz (hfc := hT) | exact .callz (hfc := eqLoop_ok A B A B) | exact .callvY (d := 33) (hfc := toLoop_ok L R b1 b2 b3 b4) | exact .callvY (d := 37) (hfc := hT) | exact .callzY (d := 58) (hfc := eqLoop_ok L R L R) | exact .callzY (hfc := toLoop_ok L R b1 b2 b3 b4) | exact .callzY (hfc := hS) | exact .callzY (hfc := hT) | exact .callzY (hfc := eqLoop_ok A B A B) | fail) (hk := ?_) | refine d_ef (hk := ?_) | (refine d_g ?_; first | refine d_spnd rfl rfl rfl (h1 := fun hc => ?_) (h2 := fun hc => ?_) | refine d_spd rfl rfl rfl (h1 := fun hc => ?_) (h2 := fun hc => ?_) | refine d_spn rfl rfl rfl (h1 := fun hc => ?_) (h2 := fun hc => ?_) | refine d_sp rfl rfl rfl (h1 := fun hc => ?_) (h2 := fun hc => ?_)))
    | (refine w_o ?_; first | refine w_draw (id := 10) (roL [2, 9, 1033, 2033]) (fun k => [2, 3].contains k) [[], []] 64 (by kernel_rfl) rfl (by kernel_rfl) (by simp [nm, nset, -List.map_take, -List.map_drop]) ?_)
  -- DBG
  all_goals first
    | exact absurd rfl hc
    | (exfalso; omega)
    | (refine en_one (hf := Try.results11) (h := ?_); simp only [lget]; first | refine congrArg RVb ?_ | refine congrArg RVi ?_ | skip; done)
    | trace_state
end Go.Proofs.Ytmalajoglcpijaa
