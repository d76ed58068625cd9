/- The drawn law of BornOf answers true. For all forms. -/
import Derived.Test.YtdignmbeiohhiaaFormLaw
namespace Go.Proofs.Ytdignmbeiohhiaa
open Eng
attribute [local irreducible] OpS OpG FC FCr Rel Fl Ef DR Fs
attribute [local simp] RV.fzR_names
set_option linter.unusedSimpArgs false
set_option maxHeartbeats 0
set_option maxRecDepth 100000

/-- What good forms have. -/
structure GdF (F : List NdI) : Prop where
  n1 : 1 ≤ F.length
  n2 : F.length ≤ 120
  okn : OkN F
  srt : Srt (ndN F)
  all : ∀ k, k < (ndN F).length → (usdF (ndN F) ((ndN F).length - 1)).getD k false = true
theorem gdF {F : List NdI} (h : goodF F = true) : GdF F := by
  unfold goodF at h
  split at h
  · cases h
  · rename_i h1
    split at h
    · cases h
    · rename_i h2
      have ok := okN (F := F) (by simpa using h2)
      have hl := ndN_len F
      have h3 := (laid_iff ok.ok (by omega)).1 (of_decide_eq_true h)
      exact ⟨by omega, by omega, ok, h3.1, h3.2⟩
theorem gd_book {f : List Nd} (ok : OkF f) (srt : Srt f) : bkN (addTo f f.length).1 = f ∧ bkB (addTo f f.length).1 = bnF f ∧ (addTo f f.length).2 = List.range f.length :=
  book_full (addTo_ok ok f.length (Nat.le_refl _)) (addTo_full ok (fun _ _ hi hj e => srt_inj ok srt hi hj e) f.length (Nat.le_refl _))
def bornF (F : List NdI) : Nat := if goodF F = true then (bnF (ndN F)).getD (F.length - 1) 0 else 0
theorem implBornF_ok (F : List NdI) : FCr Try.prog 49 [RFm F] (.tup [RVn (bornF F), RVb (goodF F)]) := by
  have hG := implGoodF_ok F
  unfold bornF
  cases hg : goodF F with
  | false =>
    rw [hg] at hG
    rw [if_neg (by simp)]
    refine (fcr_in Try.func49 rfl (by simp only [Try.ntmps49, anys, List.length_cons, List.length_nil, Nat.reduceAdd, Nat.reduceSub, List.replicate_succ, List.replicate_zero, List.cons_append, List.nil_append] <;> rfl) ?_)
    repeat' first
      | refine w_seq ?_
      | refine w_region ?_
      | refine l_nil ?_
      | refine rt_n ?_
      | refine w_ret ?_
      | refine rt_ret ?_
      | refine w_skip ?_
      | refine w_cond_t rfl ?_
      | refine w_cond_f rfl ?_
      | refine w_cnd rfl (fun hc => ?_) (fun hc => ?_)
      | refine w_cd rfl (fun hc => ?_) (fun hc => ?_)
      | refine w_cn rfl (fun hc => ?_) (fun hc => ?_)
      | refine w_cond rfl (fun hc => ?_) (fun hc => ?_)
      | (refine l_o ?_; first | refine l_op rfl (by first | (apply k_callf; first | exact ops_callf (hfc := hG) | fail) | fail) (hk := ?_) | refine l_op (hk := ?_))
      | refine d_nil ?_
      | (refine d_o ?_; first | refine d_fl (hk := ?_) | refine d_ef rfl (by first | exact .callf (hfc := hG) | fail) (hk := ?_) | refine d_ef (hk := ?_))
      | (refine w_o ?_; first | refine w_draw (id := 3) (fun _ => true) (fun k => [2].contains k) [[]] 64 (by kernel_rfl) rfl (by kernel_rfl) (by simp [nm, nset, -List.map_take, -List.map_drop]) ?_)
    refine en_end (hf := Try.results49) (hr := ?_); simp only [ne, nf, nl, nr, lget, reduceIte, Nat.reduceEqDiff]; first | rfl | refine congrArg RVb ?_ | refine congrArg RVi ?_ | skip
  | true =>
    rw [hg] at hG
    rw [if_pos rfl]
    have hF := gdF hg
    have hn1 := hF.n1
    have hn2 := hF.n2
    have hfl := ndN_len F
    have hB := births_ok (ndN F) hF.okn.ok (by omega)
    have hbl : (bnF (ndN F)).length = F.length := by rw [bnF, brn_len, hfl]
    have heq := hF.okn.eq
    unfold RFm at hG ⊢
    rw [heq] at hG ⊢
    rw [← hfl] at hbl hn1 hn2 ⊢
    generalize bnF (ndN F) = B at *
    generalize ndN F = f at *
    clear hfl heq
    rw [gdp (show f.length - 1 < B.length by omega)]
    refine (fcr_in Try.func49 rfl (by simp only [Try.ntmps49, anys, List.length_cons, List.length_nil, Nat.reduceAdd, Nat.reduceSub, List.replicate_succ, List.replicate_zero, List.cons_append, List.nil_append] <;> rfl) ?_)
    repeat' first
      | refine w_seq ?_
      | refine w_region ?_
      | refine l_nil ?_
      | refine rt_n ?_
      | refine w_ret ?_
      | refine rt_ret ?_
      | refine w_skip ?_
      | refine w_cond_t rfl ?_
      | refine w_cond_f rfl ?_
      | refine w_cnd rfl (fun hc => ?_) (fun hc => ?_)
      | refine w_cd rfl (fun hc => ?_) (fun hc => ?_)
      | refine w_cn rfl (fun hc => ?_) (fun hc => ?_)
      | refine w_cond rfl (fun hc => ?_) (fun hc => ?_)
      | (refine l_o ?_; first | refine l_op rfl (by first | (apply k_sub; first | exact ops_subn (a := f.length) (b := 1) rfl rfl (by omega) (by omega) | fail) | (apply k_callf; first | exact ops_callf (hfc := hG) | fail) | fail) (hk := ?_) | refine l_op (hk := ?_))
      | refine e_nil ?_
      | (refine e_o ?_; first | refine e_fl rfl (by first | exact .pl (by first | (apply q_sub; first | exact fs_subn (a := f.length) (b := 1) rfl rfl (by omega) (by omega) | fail) | (apply q_callf; first | exact fs_callz (d := 9) (hfc := hB) | fail) | fail) | fail) (hk := ?_) | refine e_fl (hk := ?_) | refine e_ef rfl (by first | exact .callf (hfc := hG) | fail) (hk := ?_) | refine e_ef (hk := ?_))
      | (refine w_o ?_; first | refine w_drawS (id := 3) (rdP [(0,1),(1,1),(3,1),(4,1)]) (fun k => [].contains k) [] (by kernel_rfl) rfl (by kernel_rfl) (by simp [nm, nset, -List.map_take, -List.map_drop]) ?_)
    refine en_end (hf := Try.results49) (hr := ?_); simp only [ne, nf, nl, nr, lget, reduceIte, Nat.reduceEqDiff]; first | rfl | refine congrArg RVb ?_ | refine congrArg RVi ?_ | skip
    have e : ((f.length : Int) - 1).toNat = f.length - 1 := by omega
    simp only [e]
theorem specBornF_ok (F : List NdI) : FCr Try.prog 48 [RFm F] (.tup [RVn (bornF F), RVb (goodF F)]) := by
  have hG := specGoodF_ok F
  unfold bornF
  cases hg : goodF F with
  | false =>
    rw [hg] at hG
    rw [if_neg (by simp)]
    refine (fcr_in Try.func48 rfl (by simp only [Try.ntmps48, anys, List.length_cons, List.length_nil, Nat.reduceAdd, Nat.reduceSub, List.replicate_succ, List.replicate_zero, List.cons_append, List.nil_append] <;> rfl) ?_)
    repeat' first
      | refine w_seq ?_
      | refine w_region ?_
      | refine l_nil ?_
      | refine rt_n ?_
      | refine w_ret ?_
      | refine rt_ret ?_
      | refine w_skip ?_
      | refine w_cond_t rfl ?_
      | refine w_cond_f rfl ?_
      | refine w_cnd rfl (fun hc => ?_) (fun hc => ?_)
      | refine w_cd rfl (fun hc => ?_) (fun hc => ?_)
      | refine w_cn rfl (fun hc => ?_) (fun hc => ?_)
      | refine w_cond rfl (fun hc => ?_) (fun hc => ?_)
      | (refine l_o ?_; first | refine l_op rfl (by first | (apply k_callf; first | exact ops_callf (hfc := hG) | fail) | fail) (hk := ?_) | refine l_op (hk := ?_))
    refine en_end (hf := Try.results48) (hr := ?_); simp only [ne, nf, nl, nr, lget, reduceIte, Nat.reduceEqDiff]; first | rfl | refine congrArg RVb ?_ | refine congrArg RVi ?_ | skip
  | true =>
    rw [hg] at hG
    rw [if_pos rfl]
    have hF := gdF hg
    have hn1 := hF.n1
    have hn2 := hF.n2
    have hfl := ndN_len F
    have heq := hF.okn.eq
    have hRt := root_ok (ndN F) hF.okn.ok (by omega) (by omega) hF.okn.l24
    obtain ⟨b1, b2, b3⟩ := gd_book hF.okn.ok hF.srt
    have hbl : (bnF (ndN F)).length = F.length := by rw [bnF, brn_len, hfl]
    rw [b3, gdp (show (ndN F).length - 1 < (List.range (ndN F).length).length by rw [List.length_range]; omega), List.getElem_range] at hRt
    have hBk : RBk (addTo (ndN F) (ndN F).length).1 = .agg [.ow 2 ((ndN F).map RNd), .ow 1 ((bnF (ndN F)).map RVn)] := by
      rw [show RBk (addTo (ndN F) (ndN F).length).1 = .agg [.ow 2 ((bkN (addTo (ndN F) (ndN F).length).1).map RNd), .ow 1 ((bkB (addTo (ndN F) (ndN F).length).1).map RVn)] from rfl, b1, b2]
    rw [hBk] at hRt
    have hBk0 : RBk [] = .agg [.ow 2 [], .ow 1 []] := rfl
    rw [hBk0] at hRt
    unfold RFm at hG ⊢
    rw [heq] at hG ⊢
    rw [← hfl] at hbl hn1 hn2 ⊢
    clear hBk hBk0 b1 b2 b3
    generalize bnF (ndN F) = B at *
    generalize ndN F = f at *
    clear hfl heq
    rw [gdp (show f.length - 1 < B.length by omega)]
    refine (fcr_in Try.func48 rfl (by simp only [Try.ntmps48, anys, List.length_cons, List.length_nil, Nat.reduceAdd, Nat.reduceSub, List.replicate_succ, List.replicate_zero, List.cons_append, List.nil_append] <;> rfl) ?_)
    repeat' first
      | refine w_seq ?_
      | refine w_region ?_
      | refine l_nil ?_
      | refine rt_n ?_
      | refine w_ret ?_
      | refine rt_ret ?_
      | refine w_skip ?_
      | refine w_cond_t rfl ?_
      | refine w_cond_f rfl ?_
      | refine w_cnd rfl (fun hc => ?_) (fun hc => ?_)
      | refine w_cd rfl (fun hc => ?_) (fun hc => ?_)
      | refine w_cn rfl (fun hc => ?_) (fun hc => ?_)
      | refine w_cond rfl (fun hc => ?_) (fun hc => ?_)
      | (refine l_at_callf (d := some 13) ?_; refine l_le _ (le_nw 10 rfl (.agg (.now (k := 2) (by decide) (.now (k := 1) (by decide) .nil)) .nil) (by simp only [nz, nf, nl, nb, nr, ng, nq, nu, reduceIte, Nat.reduceEqDiff, Nat.reduceAdd]; rfl)) ?_)
      | (refine l_at_fieldAddr (d := some 16) ?_; refine l_le _ (le_open 10 0 1 901 rfl rfl rfl (by simp [nm]) (by simp only [nz, nf, nl, nb, nr, ng, nq, nu, reduceIte, Nat.reduceEqDiff, Nat.reduceAdd]; rfl)) ?_)
      | (refine l_o ?_; first | refine l_op rfl (by first | (apply k_callf; first | exact ops_callP (d := 13) 10 [.agg [.ow 2 (f.map RNd), .ow 1 (B.map RVn)]] (hfc := hRt) | exact ops_callf (hfc := hG) | fail) | fail) (hk := ?_) | refine l_op (hk := ?_))
    refine en_end (hf := Try.results48) (hr := ?_); simp only [ne, nf, nl, nr, lget, reduceIte, Nat.reduceEqDiff]; first | rfl | refine congrArg RVb ?_ | refine congrArg RVi ?_ | skip
theorem lawBornF_ok (F : List NdI) : FCr Try.prog 8 [RFm F] (RVb true) := by
  have hz := szForm_ok F 1048576 (by omega) (by omega)
  refine (fcr_in Try.func8 rfl (by simp only [Try.ntmps8, anys, List.length_cons, List.length_nil, Nat.reduceAdd, Nat.reduceSub, List.replicate_succ, List.replicate_zero, List.cons_append, List.nil_append] <;> rfl) ?_)
  repeat' first
    | refine w_seq ?_
    | refine w_region ?_
    | refine l_nil ?_
    | refine rt_n ?_
    | refine w_ret ?_
    | refine rt_ret ?_
    | refine w_skip ?_
    | refine w_cond_t rfl ?_
    | refine w_cond_f rfl ?_
    | refine w_cnd rfl (fun hc => ?_) (fun hc => ?_)
    | refine w_cd rfl (fun hc => ?_) (fun hc => ?_)
    | refine w_cn rfl (fun hc => ?_) (fun hc => ?_)
    | refine w_cond rfl (fun hc => ?_) (fun hc => ?_)
    | (refine l_o ?_; first | refine l_op rfl (by first | (apply k_callf; first | exact ops_callz (hfc := hz) | fail) | fail) (hk := ?_) | refine l_op (hk := ?_) | (refine l_g ?_; first | refine l_y rfl rfl rfl ?_ | refine l_n rfl rfl rfl rfl (hk := ?_) | refine l_n' rfl rfl rfl (hk := ?_) | refine l_spnd rfl rfl rfl (h1 := fun hc => ?_) (h2 := fun hc => ?_) | refine l_spd rfl rfl rfl (h1 := fun hc => ?_) (h2 := fun hc => ?_) | refine l_spn rfl rfl rfl (h1 := fun hc => ?_) (h2 := fun hc => ?_) | refine l_sp rfl rfl rfl (h1 := fun hc => ?_) (h2 := fun hc => ?_)))
    | refine d_nil ?_
    | (refine d_o ?_; first | refine d_fl (hk := ?_) | refine d_ef rfl (by first | exact .callz (hfc := hz) | exact .callzY (hfc := hz) | fail) (hk := ?_) | refine d_ef (hk := ?_) | (refine d_g ?_; first | refine d_spnd rfl rfl rfl (h1 := fun hc => ?_) (h2 := fun hc => ?_) | refine d_spd rfl rfl rfl (h1 := fun hc => ?_) (h2 := fun hc => ?_) | refine d_spn rfl rfl rfl (h1 := fun hc => ?_) (h2 := fun hc => ?_) | refine d_sp rfl rfl rfl (h1 := fun hc => ?_) (h2 := fun hc => ?_)))
    | (refine w_o ?_; first | refine w_draw (id := 10) (fun _ => true) (fun k => [2, 3].contains k) [[], []] 64 (by kernel_rfl) rfl (by kernel_rfl) (by simp [nm, nset, -List.map_take, -List.map_drop]) ?_)
  · refine en_one (hf := Try.results8) (h := ?_); simp only [lget]; first | refine congrArg RVb ?_ | refine congrArg RVi ?_ | skip
  have hs := smFm_of (l := F) (left := 1048576) (by omega) (by omega)
  have hS := specBornF_ok F
  have hI := implBornF_ok F
  generalize goodF F = x at *
  generalize bornF F = y at *
  repeat' first
    | refine w_seq ?_
    | refine w_region ?_
    | refine l_nil ?_
    | refine rt_n ?_
    | refine w_ret ?_
    | refine rt_ret ?_
    | refine w_skip ?_
    | refine w_cond_t rfl ?_
    | refine w_cond_f rfl ?_
    | refine w_cnd rfl (fun hc => ?_) (fun hc => ?_)
    | refine w_cd rfl (fun hc => ?_) (fun hc => ?_)
    | refine w_cn rfl (fun hc => ?_) (fun hc => ?_)
    | refine w_cond rfl (fun hc => ?_) (fun hc => ?_)
    | (refine l_o ?_; first | refine l_op rfl (by first | (apply k_callf; first | exact ops_callz (hfc := toForm_ok F hs) | exact ops_callz (hfc := hS) | exact ops_callz (hfc := hI) | exact ops_callz (hfc := eqForm_ok F F) | fail) | fail) (hk := ?_) | refine l_op (hk := ?_) | (refine l_g ?_; first | refine l_y rfl rfl rfl ?_ | refine l_n rfl rfl rfl rfl (hk := ?_) | refine l_n' rfl rfl rfl (hk := ?_) | refine l_spnd rfl rfl rfl (h1 := fun hc => ?_) (h2 := fun hc => ?_) | refine l_spd rfl rfl rfl (h1 := fun hc => ?_) (h2 := fun hc => ?_) | refine l_spn rfl rfl rfl (h1 := fun hc => ?_) (h2 := fun hc => ?_) | refine l_sp rfl rfl rfl (h1 := fun hc => ?_) (h2 := fun hc => ?_)))
    | refine d_nil ?_
    | (refine d_o ?_; first | refine d_fl (hk := ?_) | refine d_ef rfl (by first | exact .callz (hfc := toForm_ok F hs) | exact .callz (hfc := hS) | exact .callz (hfc := hI) | exact .callz (hfc := eqForm_ok F F) | exact .callzY (hfc := toForm_ok F hs) | exact .callzY (hfc := hS) | exact .callzY (hfc := hI) | exact .callzY (hfc := eqForm_ok F F) | fail) (hk := ?_) | refine d_ef (hk := ?_) | (refine d_g ?_; first | refine d_spnd rfl rfl rfl (h1 := fun hc => ?_) (h2 := fun hc => ?_) | refine d_spd rfl rfl rfl (h1 := fun hc => ?_) (h2 := fun hc => ?_) | refine d_spn rfl rfl rfl (h1 := fun hc => ?_) (h2 := fun hc => ?_) | refine d_sp rfl rfl rfl (h1 := fun hc => ?_) (h2 := fun hc => ?_)))
    | (refine w_o ?_; first | refine w_draw (id := 10) (fun _ => true) (fun k => [2, 3].contains k) [[], []] 64 (by kernel_rfl) rfl (by kernel_rfl) (by simp [nm, nset, -List.map_take, -List.map_drop]) ?_)
  all_goals first
    | exact absurd rfl hc
    | (refine en_one (hf := Try.results8) (h := ?_); simp only [lget]; first | refine congrArg RVb ?_ | refine congrArg RVi ?_ | skip; done)
    | (exfalso; simp at hc; done)
    | trace_state
end Go.Proofs.Ytdignmbeiohhiaa
