/- The program's new memo, and a position's misere value. For all arguments. -/
import Derived.Test.YtmfbcipjknjicaaGreatCallM
import Derived.Test.YtmfbcipjknjicaaGreatHpG
import Derived.Test.YtmfbcipjknjicaaGreatMisV
namespace Go.Proofs.YtmfbcipjknjicaaGreat
open Eng
attribute [local irreducible] OpS OpG FC FCr Rel Fl Ef DR Fs
attribute [local simp] RV.fzR_names
set_option linter.unusedSimpArgs false
set_option linter.unusedVariables false
set_option maxHeartbeats 0
set_option maxRecDepth 100000

theorem newMisere_ok (c : List Int) : FC Tryz.prog 20 [RIs c] [] fun rv O => ∃ b : Nat, True ∧ rv = .agg [RIs c, .v (.map (some b))] ∧ O = [(4, 0, MSI b [])] := by
  refine (fc_in Tryz.func20 rfl (by simp only [Tryz.ntmps20, anys, List.length_cons, List.length_nil, Nat.reduceAdd, Nat.reduceSub, List.replicate_succ, List.replicate_zero, List.cons_append, List.nil_append] <;> rfl) ?_)
  repeat' first
    | refine w_seq ?_
    | refine w_region ?_
    | refine l_nil ?_
    | refine rt_n ?_
    | refine w_ret ?_
    | refine rt_ret ?_
    | refine w_skip ?_
    | (refine l_o ?_; first | refine l_op (hk := ?_))
  refine l_makeSI (hk := fun b => ?_)
  repeat' first
    | refine w_seq ?_
    | refine w_region ?_
    | refine l_nil ?_
    | refine rt_n ?_
    | refine w_ret ?_
    | refine rt_ret ?_
    | refine w_skip ?_
    | (refine l_o ?_; first | refine l_op (hk := ?_))
  refine en_ex b trivial ?_
  refine en_le _ (le_perm [2, 4] rfl rfl) ?_
  refine en_endm ([(2, 2, [RV.agg [RIs c, .v (.map (some b))]])]) (hf := Tryz.results20) (hO := ?_) (hr := ?_)
  · rfl
  · rfl
theorem sum_fill : ∀ (h : List Int), (∀ x ∈ h, 0 ≤ x) → (fillH h).sum = h.sum
  | [], _ => rfl
  | x :: xs, hx => by
    have ih := sum_fill xs fun y hy => hx y (by simp [hy])
    have h0 := hx x (by simp)
    unfold fillH at ih ⊢
    rw [List.filter_cons]
    split
    · rw [List.sum_cons, List.sum_cons, ih]
    · rename_i hn
      have hn : ¬ 0 < x := by simpa using hn
      rw [ih, List.sum_cons]; omega
theorem fillH_vld {h : List Int} (hg : ghp h = true) {n : Nat} (hs : h.sum ≤ n) (hn : n ≤ 20 := by omega) : vld (fillH h) 0 0 := by
  simp only [ghp, Bool.and_eq_true, decide_eq_true_eq] at hg
  obtain ⟨h1, h2⟩ := ghpF_pos hg.2
  refine ⟨⟨fillH_pos, ?_⟩, ?_, .inl ⟨rfl, rfl⟩⟩
  · unfold fillH; exact h2.filter _
  · rw [sum_fill h fun x hx => (h1 x hx).1]; omega
theorem small_ok (c h : List Int) (m : Nat) (hc : c.length ≤ 1048576) (hl : h.length ≤ 1048576) (hm : m ≤ 1000) : FCr Tryz.prog 44 [RIs c, RIs h, RVn m] (RVb (gcode c && ghp h && decide (h.sum ≤ m))) := by
  have hC := goodCode_ok c hc
  have hH := goodHeaps_ok h hl
  have hT : ghp h = true → FCr Tryz.prog 62 [RIs h] (RVi h.sum) := fun e => by
    simp only [ghp, Bool.and_eq_true, decide_eq_true_eq] at e
    exact total_ok h e.1 (fun x hx => ghpF_pos e.2 |>.1 x hx)
  generalize gcode c = a at *
  generalize ghp h = b at *
  refine (fcr_in Tryz.func44 rfl (by simp only [Tryz.ntmps44, anys, List.length_cons, List.length_nil, Nat.reduceAdd, Nat.reduceSub, List.replicate_succ, List.replicate_zero, List.cons_append, List.nil_append] <;> rfl) ?_)
  cases a with
  | false =>
    repeat' first
      | refine w_seq ?_
      | refine w_region ?_
      | refine l_nil ?_
      | refine rt_n ?_
      | refine w_ret ?_
      | refine rt_ret ?_
      | refine w_skip ?_
      | (refine l_o ?_; first | refine l_op rfl (by first | (apply k_callf; first | exact ops_callf (hfc := hC) | fail) | fail) (hk := ?_) | refine l_op (hk := ?_) | (refine l_g ?_; first | refine l_y rfl rfl rfl ?_ | refine l_n rfl rfl rfl rfl (hk := ?_) | refine l_n' rfl rfl rfl (hk := ?_) | refine l_spnd rfl rfl rfl (h1 := fun hc => ?_) (h2 := fun hc => ?_) | refine l_spd rfl rfl rfl (h1 := fun hc => ?_) (h2 := fun hc => ?_) | refine l_spn rfl rfl rfl (h1 := fun hc => ?_) (h2 := fun hc => ?_) | refine l_sp rfl rfl rfl (h1 := fun hc => ?_) (h2 := fun hc => ?_)))
    refine en_one (hf := Tryz.results44) (h := ?_); simp only [lget]; first | refine congrArg RVb ?_ | refine congrArg RVi ?_ | skip
    rfl
  | true =>
    cases b with
    | false =>
      repeat' first
        | refine w_seq ?_
        | refine w_region ?_
        | refine l_nil ?_
        | refine rt_n ?_
        | refine w_ret ?_
        | refine rt_ret ?_
        | refine w_skip ?_
        | (refine l_o ?_; first | refine l_op rfl (by first | (apply k_callf; first | exact ops_callf (hfc := hC) | exact ops_callf (hfc := hH) | fail) | fail) (hk := ?_) | refine l_op (hk := ?_) | (refine l_g ?_; first | refine l_y rfl rfl rfl ?_ | refine l_n rfl rfl rfl rfl (hk := ?_) | refine l_n' rfl rfl rfl (hk := ?_) | refine l_spnd rfl rfl rfl (h1 := fun hc => ?_) (h2 := fun hc => ?_) | refine l_spd rfl rfl rfl (h1 := fun hc => ?_) (h2 := fun hc => ?_) | refine l_spn rfl rfl rfl (h1 := fun hc => ?_) (h2 := fun hc => ?_) | refine l_sp rfl rfl rfl (h1 := fun hc => ?_) (h2 := fun hc => ?_)))
      refine en_one (hf := Tryz.results44) (h := ?_); simp only [lget]; first | refine congrArg RVb ?_ | refine congrArg RVi ?_ | skip
      rfl
    | true =>
      have hT := hT rfl
      repeat' first
        | refine w_seq ?_
        | refine w_region ?_
        | refine l_nil ?_
        | refine rt_n ?_
        | refine w_ret ?_
        | refine rt_ret ?_
        | refine w_skip ?_
        | (refine l_o ?_; first | refine l_op rfl (by first | (apply k_callf; first | exact ops_callf (hfc := hC) | exact ops_callf (hfc := hH) | exact ops_callf (hfc := hT) | fail) | fail) (hk := ?_) | refine l_op (hk := ?_) | (refine l_g ?_; first | refine l_y rfl rfl rfl ?_ | refine l_n rfl rfl rfl rfl (hk := ?_) | refine l_n' rfl rfl rfl (hk := ?_) | refine l_spnd rfl rfl rfl (h1 := fun hc => ?_) (h2 := fun hc => ?_) | refine l_spd rfl rfl rfl (h1 := fun hc => ?_) (h2 := fun hc => ?_) | refine l_spn rfl rfl rfl (h1 := fun hc => ?_) (h2 := fun hc => ?_) | refine l_sp rfl rfl rfl (h1 := fun hc => ?_) (h2 := fun hc => ?_)))
      refine en_one (hf := Tryz.results44) (h := ?_); simp only [lget]; first | refine congrArg RVb ?_ | refine congrArg RVi ?_ | skip
      rfl
theorem misereValue_ok (c h : List Int) (hc : c.length ≤ 1048576) (hl : h.length ≤ 1048576) : FCr Tryz.prog 27 [RIs c, RIs h] (if gcode c && ghp h && decide (h.sum ≤ 20) then .tup [RVi (mv c (fillH h) 0 0), RVb true] else .tup [RVi 0, RVb false]) := by
  have hS := small_ok c h 20 hc hl (by omega)
  have hF := filled_ok h hl
  have hN := newMisere_ok c
  have hv : (gcode c && ghp h && decide (h.sum ≤ ((20 : Nat) : Int))) = true → ∃ m', VC c (fillH h) 0 0 [] m' := fun e => by
    simp only [Bool.and_eq_true, decide_eq_true_eq] at e
    have hp := fillH_vld e.1.2 e.2
    obtain ⟨m', _, hm⟩ := value_all c e.1.1 _ (fillH h) 0 0 [] hp (Nat.lt_succ_self _) (memOk_nil c)
    exact ⟨m', hm⟩
  rw [show ((20 : Int)) = ((20 : Nat) : Int) from rfl]
  generalize (gcode c && ghp h && decide (h.sum ≤ ((20 : Nat) : Int))) = b at *
  cases b with
  | false =>
    refine (fcr_in Tryz.func27 rfl (by simp only [Tryz.ntmps27, anys, List.length_cons, List.length_nil, Nat.reduceAdd, Nat.reduceSub, List.replicate_succ, List.replicate_zero, List.cons_append, List.nil_append] <;> rfl) ?_)
    repeat' first
      | refine w_seq ?_
      | refine w_region ?_
      | refine l_nil ?_
      | refine rt_n ?_
      | refine w_ret ?_
      | refine rt_ret ?_
      | refine w_skip ?_
      | refine w_cond_t rfl ?_
      | refine w_cond_f rfl ?_
      | refine w_cnd rfl (fun hc => ?_) (fun hc => ?_)
      | refine w_cd rfl (fun hc => ?_) (fun hc => ?_)
      | refine w_cn rfl (fun hc => ?_) (fun hc => ?_)
      | refine w_cond rfl (fun hc => ?_) (fun hc => ?_)
      | (refine l_o ?_; first | refine l_op rfl (by first | (apply k_callf; first | exact ops_callf (hfc := hS) | fail) | fail) (hk := ?_) | refine l_op (hk := ?_))
    refine en_end (hf := Tryz.results27) (hr := ?_); simp only [ne, nf, nl, nr, lget, reduceIte, Nat.reduceEqDiff]; first | rfl | refine congrArg RVb ?_ | refine congrArg RVi ?_ | skip
  | true =>
    obtain ⟨m', hm'⟩ := hv rfl
    unfold VC at hm'
    generalize mv c (fillH h) 0 0 = V at *
    generalize fillH h = H at *
    refine (fcr_in Tryz.func27 rfl (by simp only [Tryz.ntmps27, anys, List.length_cons, List.length_nil, Nat.reduceAdd, Nat.reduceSub, List.replicate_succ, List.replicate_zero, List.cons_append, List.nil_append] <;> rfl) ?_)
    repeat' first
      | refine w_seq ?_
      | refine w_region ?_
      | refine l_nil ?_
      | refine rt_n ?_
      | refine w_ret ?_
      | refine rt_ret ?_
      | refine w_skip ?_
      | refine w_cond_t rfl ?_
      | refine w_cond_f rfl ?_
      | refine w_cnd rfl (fun hc => ?_) (fun hc => ?_)
      | refine w_cd rfl (fun hc => ?_) (fun hc => ?_)
      | refine w_cn rfl (fun hc => ?_) (fun hc => ?_)
      | refine w_cond rfl (fun hc => ?_) (fun hc => ?_)
      | (refine l_o ?_; first | refine l_op rfl (by first | (apply k_callf; first | exact ops_callf (hfc := hS) | fail) | fail) (hk := ?_) | refine l_op (hk := ?_))
    refine l_callM (hfc := hN) (hk := fun b _ => ?_)
    have hb := hm' b
    repeat' first
      | refine w_seq ?_
      | refine w_region ?_
      | refine l_nil ?_
      | refine rt_n ?_
      | refine w_ret ?_
      | refine rt_ret ?_
      | refine w_skip ?_
      | refine w_cond_t rfl ?_
      | refine w_cond_f rfl ?_
      | refine w_cnd rfl (fun hc => ?_) (fun hc => ?_)
      | refine w_cd rfl (fun hc => ?_) (fun hc => ?_)
      | refine w_cn rfl (fun hc => ?_) (fun hc => ?_)
      | refine w_cond rfl (fun hc => ?_) (fun hc => ?_)
      | (refine l_o ?_; first | refine l_op rfl (by first | (apply k_callf; first | exact ops_callP (d := 14) 11 (MSI b m') (hfc := hb) | exact ops_callf (d := 13) (hfc := hF) | fail) | fail) (hk := ?_) | refine l_op (hk := ?_))
    refine en_end (hf := Tryz.results27) (hr := ?_); simp only [ne, nf, nl, nr, lget, reduceIte, Nat.reduceEqDiff]; first | rfl | refine congrArg RVb ?_ | refine congrArg RVi ?_ | skip
theorem misereWins_ok (c h : List Int) (hc : c.length ≤ 1048576) (hl : h.length ≤ 1048576) : FCr Tryz.prog 9 [RIs c, RIs h] (if gcode c && ghp h && decide (h.sum ≤ 20) then .tup [RVb (decide (mv c (fillH h) 0 0 ≠ 0)), RVb true] else .tup [RVb false, RVb false]) := by
  have hV := misereValue_ok c h hc hl
  generalize (gcode c && ghp h && decide (h.sum ≤ (20 : Int))) = b at *
  generalize mv c (fillH h) 0 0 = V at *
  cases b with
  | false =>
    refine (fcr_in Tryz.func9 rfl (by simp only [Tryz.ntmps9, anys, List.length_cons, List.length_nil, Nat.reduceAdd, Nat.reduceSub, List.replicate_succ, List.replicate_zero, List.cons_append, List.nil_append] <;> rfl) ?_)
    repeat' first
      | refine w_seq ?_
      | refine w_region ?_
      | refine l_nil ?_
      | refine rt_n ?_
      | refine w_ret ?_
      | refine rt_ret ?_
      | refine w_skip ?_
      | (refine l_o ?_; first | refine l_op rfl (by first | (apply k_callf; first | exact ops_callf (hfc := hV) | fail) | fail) (hk := ?_) | refine l_op (hk := ?_) | (refine l_g ?_; first | refine l_y rfl rfl rfl ?_ | refine l_n rfl rfl rfl rfl (hk := ?_) | refine l_n' rfl rfl rfl (hk := ?_) | refine l_spnd rfl rfl rfl (h1 := fun hc => ?_) (h2 := fun hc => ?_) | refine l_spd rfl rfl rfl (h1 := fun hc => ?_) (h2 := fun hc => ?_) | refine l_spn rfl rfl rfl (h1 := fun hc => ?_) (h2 := fun hc => ?_) | refine l_sp rfl rfl rfl (h1 := fun hc => ?_) (h2 := fun hc => ?_)))
    refine en_end (hf := Tryz.results9) (hr := ?_); simp only [ne, nf, nl, nr, lget, reduceIte, Nat.reduceEqDiff]; first | rfl | refine congrArg RVb ?_ | refine congrArg RVi ?_ | skip
  | true =>
    refine (fcr_in Tryz.func9 rfl (by simp only [Tryz.ntmps9, anys, List.length_cons, List.length_nil, Nat.reduceAdd, Nat.reduceSub, List.replicate_succ, List.replicate_zero, List.cons_append, List.nil_append] <;> rfl) ?_)
    repeat' first
      | refine w_seq ?_
      | refine w_region ?_
      | refine l_nil ?_
      | refine rt_n ?_
      | refine w_ret ?_
      | refine rt_ret ?_
      | refine w_skip ?_
      | (refine l_o ?_; first | refine l_op rfl (by first | (apply k_callf; first | exact ops_callf (hfc := hV) | fail) | fail) (hk := ?_) | refine l_op (hk := ?_) | (refine l_g ?_; first | refine l_y rfl rfl rfl ?_ | refine l_n rfl rfl rfl rfl (hk := ?_) | refine l_n' rfl rfl rfl (hk := ?_) | refine l_spnd rfl rfl rfl (h1 := fun hc => ?_) (h2 := fun hc => ?_) | refine l_spd rfl rfl rfl (h1 := fun hc => ?_) (h2 := fun hc => ?_) | refine l_spn rfl rfl rfl (h1 := fun hc => ?_) (h2 := fun hc => ?_) | refine l_sp rfl rfl rfl (h1 := fun hc => ?_) (h2 := fun hc => ?_)))
    refine en_end (hf := Tryz.results9) (hr := ?_); simp only [ne, nf, nl, nr, lget, reduceIte, Nat.reduceEqDiff]; first | rfl | refine congrArg RVb ?_ | refine congrArg RVi ?_ | skip
end Go.Proofs.YtmfbcipjknjicaaGreat
