/- The drawn law of WinningMoves answers true. For all forms. -/
import Derived.Test.YtdignmbeiohhiaaFormY
namespace Go.Proofs.Ytdignmbeiohhiaa
open Eng
attribute [local irreducible] OpS OpG FC FCr Rel Fl Ef DR Fs
attribute [local simp] RV.fzR_names
set_option linter.unusedSimpArgs false
set_option maxHeartbeats 0
set_option maxRecDepth 100000

theorem wmoves_len (F : List NdI) (left : Bool) : (wmoves F left).length ≤ 120 := by
  unfold wmoves
  split
  · rename_i hg
    have hF := gdF hg
    have hn2 := hF.n2
    have hfl := ndN_len F
    have ok := hF.okn.ok ((ndN F).length - 1)
    have hlL := sn_len ok.1.1 ok.1.2
    have hlR := sn_len ok.2.1 ok.2.2
    unfold wmF
    split
    · have := wmv_len (wn (ndN F) (ndN F).length).2 (nd (ndN F) ((ndN F).length - 1)).1 (nd (ndN F) ((ndN F).length - 1)).1.length
      omega
    · have := wmv_len (wn (ndN F) (ndN F).length).1 (nd (ndN F) ((ndN F).length - 1)).2 (nd (ndN F) ((ndN F).length - 1)).2.length
      omega
  · simp
theorem map_RVn (l : List Nat) : l.map RVn = (l.map fun n : Nat => (n : Int)).map RVi := by rw [List.map_map]; rfl
theorem lawWmv_ok (F : List NdI) (left : Bool) : FCr Try.prog 13 [RFm F, RVb left] (RVb true) := by
  have hz := szForm_ok F 1048576 (by omega) (by omega)
  refine (fcr_in Try.func13 rfl (by simp only [Try.ntmps13, anys, List.length_cons, List.length_nil, Nat.reduceAdd, Nat.reduceSub, List.replicate_succ, List.replicate_zero, List.cons_append, List.nil_append] <;> rfl) ?_)
  repeat' first
    | refine w_seq ?_
    | refine w_region ?_
    | refine l_nil ?_
    | refine rt_n ?_
    | refine w_ret ?_
    | refine rt_ret ?_
    | refine w_skip ?_
    | refine w_cond_t rfl ?_
    | refine w_cond_f rfl ?_
    | refine w_cnd rfl (fun hc => ?_) (fun hc => ?_)
    | refine w_cd rfl (fun hc => ?_) (fun hc => ?_)
    | refine w_cn rfl (fun hc => ?_) (fun hc => ?_)
    | refine w_cond rfl (fun hc => ?_) (fun hc => ?_)
    | (refine l_o ?_; first | refine l_op rfl (by first | (apply k_callf; first | exact ops_callz (hfc := hz) | fail) | fail) (hk := ?_) | refine l_op (hk := ?_) | (refine l_g ?_; first | refine l_y rfl rfl rfl ?_ | refine l_n rfl rfl rfl rfl (hk := ?_) | refine l_n' rfl rfl rfl (hk := ?_) | refine l_spnd rfl rfl rfl (h1 := fun hc => ?_) (h2 := fun hc => ?_) | refine l_spd rfl rfl rfl (h1 := fun hc => ?_) (h2 := fun hc => ?_) | refine l_spn rfl rfl rfl (h1 := fun hc => ?_) (h2 := fun hc => ?_) | refine l_sp rfl rfl rfl (h1 := fun hc => ?_) (h2 := fun hc => ?_)))
    | refine d_nil ?_
    | (refine d_o ?_; first | refine d_fl (hk := ?_) | refine d_ef rfl (by first | exact .callz (hfc := hz) | exact .callzY (hfc := hz) | fail) (hk := ?_) | refine d_ef (hk := ?_) | (refine d_g ?_; first | refine d_spnd rfl rfl rfl (h1 := fun hc => ?_) (h2 := fun hc => ?_) | refine d_spd rfl rfl rfl (h1 := fun hc => ?_) (h2 := fun hc => ?_) | refine d_spn rfl rfl rfl (h1 := fun hc => ?_) (h2 := fun hc => ?_) | refine d_sp rfl rfl rfl (h1 := fun hc => ?_) (h2 := fun hc => ?_)))
    | (refine w_o ?_; first | refine w_draw (id := 10) (fun _ => true) (fun k => [2, 3].contains k) [[], []] 64 (by kernel_rfl) rfl (by kernel_rfl) (by simp [nm, nset, -List.map_take, -List.map_drop]) ?_)
  · refine en_one (hf := Try.results13) (h := ?_); simp only [lget]; first | refine congrArg RVb ?_ | refine congrArg RVi ?_ | skip
  have hs := smFm_of (l := F) (left := 1048576) (by omega) (by omega)
  have hm := lensF_szFm (L := F) (left := 1048576) (by omega)
  have hm2 := (szFm_lens (l := F) (left := 1048576) (by omega)).1
  have hM := markForm_ok F 1 (by omega) (by omega)
  have hS := specWmv_ok F left
  have hI := implWmv_ok F left
  have hlen := wmoves_len F left
  rw [map_RVn] at hS hI
  obtain ⟨A, hA⟩ : ∃ A, A = (wmoves F left).map (fun n : Nat => (n : Int)) := ⟨_, rfl⟩
  rw [← hA] at hS hI
  have hl2 : A.length ≤ 120 := by rw [hA, List.length_map]; exact hlen
  clear hA hlen
  generalize goodF F = o at *
  have hH := heldIntS_ok (fromN 1 A.length) 1 (by rw [fromN_length]; omega)
  rw [heldI_fromN, fromN_length, if_pos rfl] at hH
  have l1 := fromN_length 1 A.length
  have t1 := List.take_of_length_le (l := (fromN 1 A.length).map RVi) (i := A.length) (by simp [l1])
  repeat' first
    | refine w_seq ?_
    | refine w_region ?_
    | refine l_nil ?_
    | refine rt_n ?_
    | refine w_ret ?_
    | refine rt_ret ?_
    | refine w_skip ?_
    | refine w_cond_t rfl ?_
    | refine w_cond_f rfl ?_
    | refine w_cnd rfl (fun hc => ?_) (fun hc => ?_)
    | refine w_cd rfl (fun hc => ?_) (fun hc => ?_)
    | refine w_cn rfl (fun hc => ?_) (fun hc => ?_)
    | refine w_cond rfl (fun hc => ?_) (fun hc => ?_)
    | (refine l_o ?_; first | refine l_op rfl (by first | (apply k_callf; first | exact ops_callz (by simp [view1, viewC, olook, nz, nf, l1, t1]) rfl (by kernel_rfl) hH (by simp [ns]) | exact ops_callm1 (d := 52) 1029 ((markF 1 F F.length).map ONdI) rfl rfl rfl (by kernel_rfl) hM (by simp [nm]) (by simp [nm]) (by simp [ns]) (by simp [RV.resOkT, RV.resOk, RV.isAgg, nm]) (by simp [ns]) (by simp [nz, nm]) (by simp [nz, nm]) | exact ops_callm1 (d := 68) 1033 ((fromN 1 A.length).map RVi) rfl rfl rfl (by kernel_rfl) (markIntS_ok A 1 (by omega)) (by simp [nm]) (by simp [nm]) (by simp [ns]) (by simp [RV.resOkT, RV.resOk, RV.isAgg, nm]) (by simp [ns]) (by simp [nz, nm]) (by simp [nz, nm]) | exact ops_callv (d := 29) (hfc := toForm_ok F hs) | exact ops_callv (d := 33) (hfc := hI) | exact ops_callz (d := 48) (hfc := eqForm_ok F F) | exact ops_callz (hfc := toForm_ok F hs) | exact ops_callz (hfc := hS) | exact ops_callz (hfc := hI) | exact ops_callz (hfc := eqIntS_ok A A) | fail) | fail) (hk := ?_) | refine l_op (hk := ?_) | (refine l_g ?_; first | refine l_y rfl rfl rfl ?_ | refine l_n rfl rfl rfl rfl (hk := ?_) | refine l_n' rfl rfl rfl (hk := ?_) | refine l_spnd rfl rfl rfl (h1 := fun hc => ?_) (h2 := fun hc => ?_) | refine l_spd rfl rfl rfl (h1 := fun hc => ?_) (h2 := fun hc => ?_) | refine l_spn rfl rfl rfl (h1 := fun hc => ?_) (h2 := fun hc => ?_) | refine l_sp rfl rfl rfl (h1 := fun hc => ?_) (h2 := fun hc => ?_)))
    | refine d_nil ?_
    | (refine d_o ?_; first | refine d_fl (hk := ?_) | refine d_ef rfl (by first | exact .callv (d := 29) (hfc := toForm_ok F hs) | exact .callv (d := 33) (hfc := hI) | exact .callz (d := 48) (hfc := eqForm_ok F F) | exact .callz (hfc := toForm_ok F hs) | exact .callz (hfc := hS) | exact .callz (hfc := hI) | exact .callz (hfc := eqIntS_ok A A) | exact .callvY (d := 29) (hfc := toForm_ok F hs) | exact .callvY (d := 33) (hfc := hI) | exact .callzY (d := 48) (hfc := eqForm_ok F F) | exact .callzY (hfc := toForm_ok F hs) | exact .callzY (hfc := hS) | exact .callzY (hfc := hI) | exact .callzY (hfc := eqIntS_ok A A) | fail) (hk := ?_) | refine d_ef (hk := ?_) | (refine d_g ?_; first | refine d_spnd rfl rfl rfl (h1 := fun hc => ?_) (h2 := fun hc => ?_) | refine d_spd rfl rfl rfl (h1 := fun hc => ?_) (h2 := fun hc => ?_) | refine d_spn rfl rfl rfl (h1 := fun hc => ?_) (h2 := fun hc => ?_) | refine d_sp rfl rfl rfl (h1 := fun hc => ?_) (h2 := fun hc => ?_)))
    | (refine w_o ?_; first | refine w_draw (id := 10) (roL [2, 8, 1029]) (fun k => [2, 3].contains k) [[], []] 64 (by kernel_rfl) rfl (by kernel_rfl) (by simp [nm, nset, -List.map_take, -List.map_drop]) ?_)
  all_goals first
    | exact absurd rfl hc
    | (exfalso; omega)
    | (refine en_one (hf := Try.results13) (h := ?_); simp only [lget]; first | refine congrArg RVb ?_ | refine congrArg RVi ?_ | skip; done)
    | trace_state
end Go.Proofs.Ytdignmbeiohhiaa
