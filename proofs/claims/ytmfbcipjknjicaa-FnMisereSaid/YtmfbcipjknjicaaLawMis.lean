/- The law FnMisere answers true. For all bytes. -/
import Derived.Test.YtmfbcipjknjicaaDrawN
import Derived.Test.YtmfbcipjknjicaaLawB
import Derived.Test.YtmfbcipjknjicaaSpW
namespace Go.Proofs.Ytmfbcipjknjicaa
open Eng
attribute [local irreducible] OpS OpG FC FCr Rel Fl Ef DR Fs
attribute [local simp] RV.fzR_names
set_option linter.unusedSimpArgs false
set_option linter.unusedVariables false
set_option maxHeartbeats 0
set_option maxRecDepth 100000

def nmv (c h : List Int) : Nat := (h.map fun x => (hms c x).length).sum
theorem hms_pos {c : List Int} {x : Int} (h : hms c x ≠ []) : 0 < x := by
  cases hm : hms c x with
  | nil => exact absurd hm h
  | cons m ms =>
    have := hms_mem (c := c) (n := x) (m := m) (by rw [hm]; simp)
    omega
theorem nsum_zero : ∀ {l : List Nat}, l.sum = 0 ↔ ∀ x ∈ l, x = 0
  | [] => by simp
  | x :: xs => by
    have := nsum_zero (l := xs)
    simp only [List.sum_cons, List.mem_cons, forall_eq_or_imp, ← this]; omega
theorem nmv_zero {c h : List Int} (hh : h.Pairwise (· ≤ ·)) : nmv c h = 0 ↔ vis c (fillH h) = [] := by
  have hf : (fillH h).Pairwise (· ≤ ·) := by unfold fillH; exact hh.filter _
  rw [nmv, nsum_zero, List.eq_nil_iff_forall_not_mem]
  constructor
  · intro h0 p hp
    obtain ⟨i, hi, m, hm, rfl⟩ := (vis_iff hf).1 hp
    have hx : (fillH h)[i] ∈ h := (List.mem_filter.1 (List.getElem_mem hi)).1
    have := h0 _ (List.mem_map.2 ⟨_, hx, rfl⟩)
    rw [List.eq_nil_of_length_eq_zero this] at hm
    cases hm
  · intro h0 n hn
    obtain ⟨x, hx, rfl⟩ := List.mem_map.1 hn
    apply Classical.byContradiction
    intro hne
    have hne2 : hms c x ≠ [] := fun e => hne (by rw [e]; rfl)
    have hxf : x ∈ fillH h := List.mem_filter.2 ⟨hx, by simpa using hms_pos hne2⟩
    obtain ⟨i, hi, rfl⟩ := List.mem_iff_getElem.1 hxf
    cases hm : hms c (fillH h)[i] with
    | nil => exact hne2 hm
    | cons m ms => exact h0 _ ((vis_iff hf).2 ⟨i, hi, m, by rw [hm]; simp, rfl⟩)
theorem mexL_zero {l : List Int} : mexL l ≠ 0 ↔ (0 : Int) ∈ l := by
  constructor
  · intro h
    apply Classical.byContradiction
    intro h0
    exact h (mexL_eq (by simpa using h0) (by intro j hj; omega))
  · intro h h0
    have := mexL_not l
    rw [h0] at this
    exact this (by simpa using h)
theorem wins_iff {c h : List Int} (hh : posH h) : mv c h 0 0 ≠ 0 ↔ vis c h = [] ∨ losL c h ≠ [] := by
  rw [mv_eq hh]
  have e : optM c h 0 0 = (vis c h).map (fun p => mv c p 0 0) := by simp [optM]
  rw [e, mexO]
  have hl : losL c h ≠ [] ↔ (0 : Int) ∈ (vis c h).map (fun p => mv c p 0 0) := by
    rw [List.mem_map]
    constructor
    · intro h0
      cases hm : losL c h with
      | nil => exact absurd hm h0
      | cons p ps =>
        have hp : p ∈ losL c h := by rw [hm]; simp
        unfold losL at hp
        obtain ⟨h1, h2⟩ := List.mem_filter.1 hp
        exact ⟨p, rch_iff.1 h1, by simpa using h2⟩
    · rintro ⟨p, h1, h2⟩ h0
      have hp : p ∈ losL c h := by
        unfold losL
        exact List.mem_filter.2 ⟨rch_iff.2 h1, by simpa using h2⟩
      rw [h0] at hp; cases hp
  rw [hl]
  by_cases hv : vis c h = []
  · simp [hv]
  · rw [if_neg (by simpa using hv), ← mexL_zero]
    constructor
    · intro h1; exact .inr fun h2 => h1 (by omega)
    · rintro (h1 | h1)
      · exact absurd h1 hv
      · intro h2; exact h1 (by omega)
theorem losL_mem {c h p : List Int} (hv : vld h 0 0) (hp : p ∈ losL c h) : ghp p = true ∧ p.sum ≤ 20 ∧ p.length ≤ 20 ∧ fillH p = p ∧ mv c p 0 0 = 0 := by
  unfold losL at hp
  obtain ⟨h1, h2⟩ := List.mem_filter.1 hp
  have hpv := vld_vis hv (rch_iff.1 h1)
  obtain ⟨_, _, h3, h4⟩ := vld_le hpv
  have hg : ∀ (l : List Int) (a : Int), (∀ x ∈ l, 0 < x ∧ x ≤ 20) → l.Pairwise (· ≤ ·) → (∀ x ∈ l, a ≤ x) → ghpF a l = true := by
    intro l
    induction l with
    | nil => intro a _ _ _; rfl
    | cons x xs ih =>
      intro a k1 k2 k3
      rw [List.pairwise_cons] at k2
      have q1 := k1 x (by simp)
      have q2 := k3 x (by simp)
      simp only [ghpF, Bool.and_eq_true, Bool.not_eq_true', decide_eq_false_iff_not]
      exact ⟨⟨by omega, by omega⟩, ih x (fun y hy => k1 y (by simp [hy])) k2.2 k2.1⟩
  refine ⟨?_, hpv.2.1, h3, fillH_id hpv.1.1, by simpa using h2⟩
  unfold ghp
  rw [decide_eq_true h3, hg p 0 h4 hpv.1.2 fun x hx => by have := h4 x hx; omega]; rfl
theorem losL_len {c h : List Int} (hc : gcode c = true) (hv : vld h 0 0) : (losL c h).length ≤ 20000 := by
  obtain ⟨_, _, hl, hx⟩ := vld_le hv
  have h5 := vis_len (gcode_len hc).2 h h.length (fun x hxx => by have := (hx x hxx).2; omega) (Nat.le_refl _)
  have h6 := ordH_len (vis c h)
  have h7 := List.length_filter_le (fun p => decide (mv c p 0 0 = 0)) (rch c h)
  unfold losL; unfold rch at h7; unfold rch; unfold vis at h6 h7 ⊢; omega
theorem implHeapMoves_ok (c : List Int) (n : Int) (hc : c.length ≤ 1048576) : FCr Try.prog 15 [RIs c, RVi n] (if gcode c && decide (0 ≤ n) && decide (n ≤ 300) then .tup [.ow 1 ((hms c n).map RIs), RVb true] else .tup [.ow 1 [], RVb false]) := by
  have hC := goodCode_ok c hc
  by_cases h1 : gcode c && decide (0 ≤ n) && decide (n ≤ 300)
  · rw [if_pos h1]
    simp only [Bool.and_eq_true, decide_eq_true_eq] at h1
    have hM := heapMoves_ok c n h1.1.1 h1.2 (by omega)
    rw [h1.1.1] at hC
    refine (fcr_in Try.func15 rfl (by simp only [Try.ntmps15, anys, List.length_cons, List.length_nil, Nat.reduceAdd, Nat.reduceSub, List.replicate_succ, List.replicate_zero, List.cons_append, List.nil_append] <;> rfl) ?_)
    repeat' first
      | refine w_seq ?_
      | refine w_region ?_
      | refine l_nil ?_
      | refine rt_n ?_
      | refine w_ret ?_
      | refine rt_ret ?_
      | refine w_skip ?_
      | refine w_cond_t rfl ?_
      | refine w_cond_f rfl ?_
      | refine w_cnd rfl (fun hc => ?_) (fun hc => ?_)
      | refine w_cd rfl (fun hc => ?_) (fun hc => ?_)
      | refine w_cn rfl (fun hc => ?_) (fun hc => ?_)
      | refine w_cond rfl (fun hc => ?_) (fun hc => ?_)
      | (exfalso; omega)
      | (refine l_o ?_; first | refine l_op rfl (by first | (apply k_callf; first | exact ops_callf (hfc := hC) | exact ops_call (hfc := hM) | fail) | fail) (hk := ?_) | refine l_op (hk := ?_) | (refine l_g ?_; first | refine l_y rfl rfl rfl ?_ | refine l_n rfl rfl rfl rfl (hk := ?_) | refine l_n' rfl rfl rfl (hk := ?_) | refine l_spnd rfl rfl rfl (h1 := fun hc => ?_) (h2 := fun hc => ?_) | refine l_spd rfl rfl rfl (h1 := fun hc => ?_) (h2 := fun hc => ?_) | refine l_spn rfl rfl rfl (h1 := fun hc => ?_) (h2 := fun hc => ?_) | refine l_sp rfl rfl rfl (h1 := fun hc => ?_) (h2 := fun hc => ?_)))
    refine en_end (hf := Try.results15) (hr := ?_); simp only [ne, nf, nl, nr, lget, reduceIte, Nat.reduceEqDiff]; first | rfl | refine congrArg RVb ?_ | refine congrArg RVi ?_ | skip
  · rw [if_neg h1]
    by_cases hg : gcode c = true
    · rw [hg] at hC
      simp only [hg, Bool.true_and, Bool.and_eq_true, decide_eq_true_eq] at h1
      refine (fcr_in Try.func15 rfl (by simp only [Try.ntmps15, anys, List.length_cons, List.length_nil, Nat.reduceAdd, Nat.reduceSub, List.replicate_succ, List.replicate_zero, List.cons_append, List.nil_append] <;> rfl) ?_)
      repeat' first
        | refine w_seq ?_
        | refine w_region ?_
        | refine l_nil ?_
        | refine rt_n ?_
        | refine w_ret ?_
        | refine rt_ret ?_
        | refine w_skip ?_
        | refine w_cond_t rfl ?_
        | refine w_cond_f rfl ?_
        | refine w_cnd rfl (fun hc => ?_) (fun hc => ?_)
        | refine w_cd rfl (fun hc => ?_) (fun hc => ?_)
        | refine w_cn rfl (fun hc => ?_) (fun hc => ?_)
        | refine w_cond rfl (fun hc => ?_) (fun hc => ?_)
        | (exfalso; omega)
        | (refine l_o ?_; first | refine l_op rfl (by first | (apply k_callf; first | exact ops_callf (hfc := hC) | fail) | fail) (hk := ?_) | refine l_op (hk := ?_) | (refine l_g ?_; first | refine l_y rfl rfl rfl ?_ | refine l_n rfl rfl rfl rfl (hk := ?_) | refine l_n' rfl rfl rfl (hk := ?_) | refine l_spnd rfl rfl rfl (h1 := fun hc => ?_) (h2 := fun hc => ?_) | refine l_spd rfl rfl rfl (h1 := fun hc => ?_) (h2 := fun hc => ?_) | refine l_spn rfl rfl rfl (h1 := fun hc => ?_) (h2 := fun hc => ?_) | refine l_sp rfl rfl rfl (h1 := fun hc => ?_) (h2 := fun hc => ?_)))
      all_goals
        refine en_endn ([.ow 1 [], RVb false]) (hf := Try.results15) (hr := ?_); simp only [ne]; first | rfl | skip
    · rw [Bool.not_eq_true] at hg
      rw [hg] at hC
      refine (fcr_in Try.func15 rfl (by simp only [Try.ntmps15, anys, List.length_cons, List.length_nil, Nat.reduceAdd, Nat.reduceSub, List.replicate_succ, List.replicate_zero, List.cons_append, List.nil_append] <;> rfl) ?_)
      repeat' first
        | refine w_seq ?_
        | refine w_region ?_
        | refine l_nil ?_
        | refine rt_n ?_
        | refine w_ret ?_
        | refine rt_ret ?_
        | refine w_skip ?_
        | refine w_cond_t rfl ?_
        | refine w_cond_f rfl ?_
        | refine w_cnd rfl (fun hc => ?_) (fun hc => ?_)
        | refine w_cd rfl (fun hc => ?_) (fun hc => ?_)
        | refine w_cn rfl (fun hc => ?_) (fun hc => ?_)
        | refine w_cond rfl (fun hc => ?_) (fun hc => ?_)
        | (refine l_o ?_; first | refine l_op rfl (by first | (apply k_callf; first | exact ops_callf (hfc := hC) | fail) | fail) (hk := ?_) | refine l_op (hk := ?_) | (refine l_g ?_; first | refine l_y rfl rfl rfl ?_ | refine l_n rfl rfl rfl rfl (hk := ?_) | refine l_n' rfl rfl rfl (hk := ?_) | refine l_spnd rfl rfl rfl (h1 := fun hc => ?_) (h2 := fun hc => ?_) | refine l_spd rfl rfl rfl (h1 := fun hc => ?_) (h2 := fun hc => ?_) | refine l_spn rfl rfl rfl (h1 := fun hc => ?_) (h2 := fun hc => ?_) | refine l_sp rfl rfl rfl (h1 := fun hc => ?_) (h2 := fun hc => ?_)))
      refine en_endn ([.ow 1 [], RVb false]) (hf := Try.results15) (hr := ?_); simp only [ne]; first | rfl | skip
theorem lawMisere_ok (code : List UInt8) : FCr Try.prog 3 [RYs code] (RVb true) := by
  have hB := rBigQ_ok code
  have hD := drawMM_ok code
  by_cases hbig : (65536 : Int) < (code.length : Nat)
  · rw [decide_eq_true hbig] at hB
    refine (fcr_in Try.func3 rfl (by simp only [Try.ntmps3, anys, List.length_cons, List.length_nil, Nat.reduceAdd, Nat.reduceSub, List.replicate_succ, List.replicate_zero, List.cons_append, List.nil_append] <;> rfl) ?_)
    repeat' first
      | refine w_seq ?_
      | refine w_block ?_
      | refine rb_n ?_
      | refine rb_ret ?_
      | refine rb_eq ?_
      | refine rb_ne (by rfl) ?_
      | refine w_exit ?_
      | refine rt_exit ?_
      | refine w_region ?_
      | refine l_nil ?_
      | refine rt_n ?_
      | refine w_ret ?_
      | refine rt_ret ?_
      | refine w_skip ?_
      | refine w_cond_t rfl ?_
      | refine w_cond_f rfl ?_
      | refine w_cnd rfl (fun hc => ?_) (fun hc => ?_)
      | refine w_cd rfl (fun hc => ?_) (fun hc => ?_)
      | refine w_cn rfl (fun hc => ?_) (fun hc => ?_)
      | refine w_cond rfl (fun hc => ?_) (fun hc => ?_)
      | (refine l_o ?_; first | refine l_eqnil rfl (by kernel_rfl) (by intro b; simp only [nz]; rfl) (fun b hb => ?_) | refine l_op rfl (by first | (apply k_callf; first | exact ops_callf (hfc := hB) | fail) | fail) (hk := ?_) | refine l_op (hk := ?_) | (refine l_g ?_; first | refine l_y rfl rfl rfl ?_ | refine l_n rfl rfl rfl rfl (hk := ?_) | refine l_n' rfl rfl rfl (hk := ?_) | refine l_spnd rfl rfl rfl (h1 := fun hc => ?_) (h2 := fun hc => ?_) | refine l_spd rfl rfl rfl (h1 := fun hc => ?_) (h2 := fun hc => ?_) | refine l_spn rfl rfl rfl (h1 := fun hc => ?_) (h2 := fun hc => ?_) | refine l_sp rfl rfl rfl (h1 := fun hc => ?_) (h2 := fun hc => ?_)))
    refine en_one (hf := Try.results3) (h := ?_); simp only [lget]; first | refine congrArg RVb ?_ | refine congrArg RVi ?_ | skip
  rw [decide_eq_false hbig] at hB
  refine (fcr_in Try.func3 rfl (by simp only [Try.ntmps3, anys, List.length_cons, List.length_nil, Nat.reduceAdd, Nat.reduceSub, List.replicate_succ, List.replicate_zero, List.cons_append, List.nil_append] <;> rfl) ?_)
  repeat' first
    | refine w_seq ?_
    | refine w_block ?_
    | refine rb_n ?_
    | refine rb_ret ?_
    | refine rb_eq ?_
    | refine rb_ne (by rfl) ?_
    | refine w_exit ?_
    | refine rt_exit ?_
    | refine w_region ?_
    | refine l_nil ?_
    | refine rt_n ?_
    | refine w_ret ?_
    | refine rt_ret ?_
    | refine w_skip ?_
    | refine w_cond_t rfl ?_
    | refine w_cond_f rfl ?_
    | refine w_cnd rfl (fun hc => ?_) (fun hc => ?_)
    | refine w_cd rfl (fun hc => ?_) (fun hc => ?_)
    | refine w_cn rfl (fun hc => ?_) (fun hc => ?_)
    | refine w_cond rfl (fun hc => ?_) (fun hc => ?_)
    | (refine l_o ?_; first | refine l_eqnil rfl (by kernel_rfl) (by intro b; simp only [nz]; rfl) (fun b hb => ?_) | refine l_op rfl (by first | (apply k_callf; first | exact ops_callf (hfc := hB) | fail) | fail) (hk := ?_) | refine l_op (hk := ?_) | (refine l_g ?_; first | refine l_y rfl rfl rfl ?_ | refine l_n rfl rfl rfl rfl (hk := ?_) | refine l_n' rfl rfl rfl (hk := ?_) | refine l_spnd rfl rfl rfl (h1 := fun hc => ?_) (h2 := fun hc => ?_) | refine l_spd rfl rfl rfl (h1 := fun hc => ?_) (h2 := fun hc => ?_) | refine l_spn rfl rfl rfl (h1 := fun hc => ?_) (h2 := fun hc => ?_) | refine l_sp rfl rfl rfl (h1 := fun hc => ?_) (h2 := fun hc => ?_)))
  refine l_callX _ _ hD (hk := fun x hx => ?_)
  obtain ⟨c, h⟩ := x
  obtain ⟨hcl, hhl⟩ := hx
  dsimp only at hcl hhl ⊢
  refine l_le _ (le_trans (le_freeze 1024 rfl (by simp only [nz, nf, nl, nb, nr, ng, nq, nu, reduceIte, Nat.reduceEqDiff, Nat.reduceAdd]; rfl) (by simp only [nz, nf, nl, nb, nr, ng, nq, nu, reduceIte, Nat.reduceEqDiff, Nat.reduceAdd]; rfl)) (le_freeze 2024 rfl (by simp only [nz, nf, nl, nb, nr, ng, nq, nu, reduceIte, Nat.reduceEqDiff, Nat.reduceAdd]; rfl) (by simp only [nz, nf, nl, nb, nr, ng, nq, nu, reduceIte, Nat.reduceEqDiff, Nat.reduceAdd]; rfl))) ?_
  have hW := misereWins_ok c h (by omega) (by omega)
  have hW2 := sMisereWins_ok c h (by omega) (by omega)
  have hM := misereMoves_ok c h (by omega) (by omega)
  have hM2 := sMisereMoves_ok c h (by omega) (by omega)
  by_cases hg : (gcode c && ghp h && decide (h.sum ≤ 20)) = true
  · rw [hg] at hW hW2 hM hM2
    simp only [reduceIte] at hW hW2 hM hM2
    simp only [Bool.and_eq_true, decide_eq_true_eq] at hg
    have hv := fillH_vld hg.1.2 (n := 20) hg.2
    have hgp : h.length ≤ 20 ∧ ghpF 0 h = true := by
      have := hg.1.2
      simpa [ghp] using this
    have hgx := ghpF_pos hgp.2
    have hwi := wins_iff (c := c) hv.1
    have hnz := nmv_zero (c := c) hgx.2
    rw [← hnz] at hwi
    have hZm : ∀ p ∈ losL c (fillH h), ghp p = true ∧ p.sum ≤ 20 ∧ p.length ≤ 20 ∧ fillH p = p ∧ mv c p 0 0 = 0 := fun p hp => losL_mem hv hp
    have hLs := rListsM_ok (losL c (fillH h)) (losL c (fillH h))
    rw [decide_eq_true rfl] at hLs
    have hHM : ∀ i, (hi : i < h.length) → FCr Try.prog 15 [RIs c, RVi h[i]] (.tup [.ow 1 ((hms c h[i]).map RIs), RVb true]) := fun i hi => by
      have h1 := implHeapMoves_ok c h[i] (by omega)
      have h2 := hgx.1 _ (List.getElem_mem hi)
      rw [hg.1.1, decide_eq_true h2.1, decide_eq_true h2.2] at h1
      exact h1
    have hnm : ∀ i, (hi : i < h.length) → nmv c (h.take (i + 1)) = nmv c (h.take i) + (hms c h[i]).length := fun i hi => by
      unfold nmv
      rw [List.take_succ_eq_append_getElem hi, List.map_append, List.sum_append]; simp
    have hnl : ∀ i, (hi : i < h.length) → (hms c h[i]).length ≤ 912 := fun i hi => hms_len (hgx.1 _ (List.getElem_mem hi)).2 (gcode_len hg.1.1).2
    have hZl := losL_len hg.1.1 hv
    generalize losL c (fillH h) = Z at *
    generalize hwe : decide (mv c (fillH h) 0 0 ≠ 0) = wv at *
    repeat' first
      | refine w_seq ?_
      | refine w_block ?_
      | refine rb_n ?_
      | refine rb_ret ?_
      | refine rb_eq ?_
      | refine rb_ne (by rfl) ?_
      | refine w_exit ?_
      | refine rt_exit ?_
      | refine w_region ?_
      | refine l_nil ?_
      | refine rt_n ?_
      | refine w_ret ?_
      | refine rt_ret ?_
      | refine w_skip ?_
      | refine w_cond_t rfl ?_
      | refine w_cond_f rfl ?_
      | refine w_cnd rfl (fun hc => ?_) (fun hc => ?_)
      | refine w_cd rfl (fun hc => ?_) (fun hc => ?_)
      | refine w_cn rfl (fun hc => ?_) (fun hc => ?_)
      | refine w_cond rfl (fun hc => ?_) (fun hc => ?_)
      | (exfalso; exact hc rfl)
      | (refine l_o ?_; first | refine l_eqnil rfl (by kernel_rfl) (by intro b; simp only [nz]; rfl) (fun b hb => ?_) | refine l_op rfl (by first | (apply k_callf; first | exact ops_callf (d := 30) (hfc := hW) | exact ops_callf (d := 36) (hfc := hW2) | exact ops_callf (d := 42) (hfc := hM) | exact ops_callf (d := 48) (hfc := hM2) | exact ops_callf (d := 67) (hfc := hLs) | fail) | fail) (hk := ?_) | refine l_op (hk := ?_) | (refine l_g ?_; first | refine l_y rfl rfl rfl ?_ | refine l_n rfl rfl rfl rfl (hk := ?_) | refine l_n' rfl rfl rfl (hk := ?_) | refine l_spnd rfl rfl rfl (h1 := fun hc => ?_) (h2 := fun hc => ?_) | refine l_spd rfl rfl rfl (h1 := fun hc => ?_) (h2 := fun hc => ?_) | refine l_spn rfl rfl rfl (h1 := fun hc => ?_) (h2 := fun hc => ?_) | refine l_sp rfl rfl rfl (h1 := fun hc => ?_) (h2 := fun hc => ?_)))
    refine w_loopm (ι := Nat × Nat) (fun q => [(14, RVn q.1), (13, RVn q.2), (15, .any), (16, .any)]) (fun q => []) (fun q => q.1 ≤ h.length ∧ q.2 = nmv c (h.take q.1) ∧ q.2 ≤ 912 * q.1) (fun q => h.length - q.1) (0, 0) (h0 := ?_) (hs := ?_) (round := ?_)
    · exact ⟨Nat.zero_le _, by simp [nmv], Nat.le_refl _⟩
    · refine le_eq (by (repeat' first | exact .nil | refine .keep ?_ | refine .any ?_); first | done | fail) rfl rfl
    · intro ⟨k, n⟩ ⟨hk, hn, hnb⟩
      dsimp only at hk hn hnb ⊢
      by_cases hk2 : k < h.length
      · have hH := hHM k hk2
        have hsu := hnm k hk2
        have hmb := hnl k hk2
        generalize hms c h[k] = M at *
        repeat' first
          | refine w_seq ?_
          | refine w_block ?_
          | refine rb_n ?_
          | refine rb_ret ?_
          | refine rb_eq ?_
          | refine rb_ne (by rfl) ?_
          | refine w_exit ?_
          | refine rt_exit ?_
          | refine w_region ?_
          | refine l_nil ?_
          | refine rt_n ?_
          | refine w_ret ?_
          | refine rt_ret ?_
          | refine w_skip ?_
          | refine w_cond_t rfl ?_
          | refine w_cond_f rfl ?_
          | refine w_cnd rfl (fun hc => ?_) (fun hc => ?_)
          | refine w_cd rfl (fun hc => ?_) (fun hc => ?_)
          | refine w_cn rfl (fun hc => ?_) (fun hc => ?_)
          | refine w_cond rfl (fun hc => ?_) (fun hc => ?_)
          | (exfalso; omega)
          | (refine l_o ?_; first | refine l_eqnil rfl (by kernel_rfl) (by intro b; simp only [nz]; rfl) (fun b hb => ?_) | refine l_op rfl (by first | (apply k_add; first | exact ops_addn (a := n) (b := M.length) rfl rfl (by omega) | fail) | (apply k_callf; first | exact ops_callf (d := 84) (hfc := hH) | fail) | fail) (hk := ?_) | refine l_op (hk := ?_) | (refine l_g ?_; first | refine l_y rfl rfl rfl ?_ | refine l_n rfl rfl rfl rfl (hk := ?_) | refine l_n' rfl rfl rfl (hk := ?_) | refine l_spnd rfl rfl rfl (h1 := fun hc => ?_) (h2 := fun hc => ?_) | refine l_spd rfl rfl rfl (h1 := fun hc => ?_) (h2 := fun hc => ?_) | refine l_spn rfl rfl rfl (h1 := fun hc => ?_) (h2 := fun hc => ?_) | refine l_sp rfl rfl rfl (h1 := fun hc => ?_) (h2 := fun hc => ?_)))
        refine rn_mk (k + 1, n + M.length) ?_ (by first | omega | (dsimp only; omega)) (le_eq (by (repeat' first | exact .nil | refine .keep ?_ | refine .any ?_); first | done | fail) rfl rfl)
        exact ⟨hk2, by rw [hsu, hn], by dsimp only; omega⟩
      · obtain rfl : k = h.length := by omega
        rw [List.take_length] at hn
        rw [← hn] at hwi
        repeat' first
          | refine w_seq ?_
          | refine w_block ?_
          | refine rb_n ?_
          | refine rb_ret ?_
          | refine rb_eq ?_
          | refine rb_ne (by rfl) ?_
          | refine w_exit ?_
          | refine rt_exit ?_
          | refine w_region ?_
          | refine l_nil ?_
          | refine rt_n ?_
          | refine w_ret ?_
          | refine rt_ret ?_
          | refine w_skip ?_
          | refine w_cond_t rfl ?_
          | refine w_cond_f rfl ?_
          | refine w_cnd rfl (fun hc => ?_) (fun hc => ?_)
          | refine w_cd rfl (fun hc => ?_) (fun hc => ?_)
          | refine w_cn rfl (fun hc => ?_) (fun hc => ?_)
          | refine w_cond rfl (fun hc => ?_) (fun hc => ?_)
          | (exfalso; omega)
          | (refine l_o ?_; first | refine l_eqnil rfl (by kernel_rfl) (by intro b; simp only [nz]; rfl) (fun b hb => ?_) | refine l_op (hk := ?_) | (refine l_g ?_; first | refine l_y rfl rfl rfl ?_ | refine l_n rfl rfl rfl rfl (hk := ?_) | refine l_n' rfl rfl rfl (hk := ?_) | refine l_spnd rfl rfl rfl (h1 := fun hc => ?_) (h2 := fun hc => ?_) | refine l_spd rfl rfl rfl (h1 := fun hc => ?_) (h2 := fun hc => ?_) | refine l_spn rfl rfl rfl (h1 := fun hc => ?_) (h2 := fun hc => ?_) | refine l_sp rfl rfl rfl (h1 := fun hc => ?_) (h2 := fun hc => ?_)))
        refine w_loopm (ι := Nat) (fun k => [(17, RVn k), (18, .any), (19, .any)]) (fun q => []) (fun k => k ≤ Z.length) (fun k => Z.length - k) 0 (h0 := ?_) (hs := ?_) (round := ?_)
        · exact Nat.zero_le _
        · refine le_eq (by (repeat' first | exact .nil | refine .keep ?_ | refine .any ?_); first | done | fail) rfl rfl
        · intro j hj
          by_cases hj2 : j < Z.length
          · obtain ⟨z1, z2, z3, z4, z5⟩ := hZm _ (List.getElem_mem hj2)
            have hWz := misereWins_ok c Z[j] (by omega) (by omega)
            rw [hg.1.1, z1, decide_eq_true z2, z4, decide_eq_false (p := mv c Z[j] 0 0 ≠ 0) (fun h => h z5)] at hWz
            simp only [Bool.and_self, reduceIte] at hWz
            repeat' first
              | refine w_seq ?_
              | refine w_block ?_
              | refine rb_n ?_
              | refine rb_ret ?_
              | refine rb_eq ?_
              | refine rb_ne (by rfl) ?_
              | refine w_exit ?_
              | refine rt_exit ?_
              | refine w_region ?_
              | refine l_nil ?_
              | refine rt_n ?_
              | refine w_ret ?_
              | refine rt_ret ?_
              | refine w_skip ?_
              | refine w_cond_t rfl ?_
              | refine w_cond_f rfl ?_
              | refine w_cnd rfl (fun hc => ?_) (fun hc => ?_)
              | refine w_cd rfl (fun hc => ?_) (fun hc => ?_)
              | refine w_cn rfl (fun hc => ?_) (fun hc => ?_)
              | refine w_cond rfl (fun hc => ?_) (fun hc => ?_)
              | (exfalso; omega)
              | (refine l_o ?_; first | refine l_eqnil rfl (by kernel_rfl) (by intro b; simp only [nz]; rfl) (fun b hb => ?_) | refine l_op rfl (by first | (apply k_callf; first | exact ops_callf (d := 105) (hfc := hWz) | fail) | fail) (hk := ?_) | refine l_op (hk := ?_) | (refine l_g ?_; first | refine l_y rfl rfl rfl ?_ | refine l_n rfl rfl rfl rfl (hk := ?_) | refine l_n' rfl rfl rfl (hk := ?_) | refine l_spnd rfl rfl rfl (h1 := fun hc => ?_) (h2 := fun hc => ?_) | refine l_spd rfl rfl rfl (h1 := fun hc => ?_) (h2 := fun hc => ?_) | refine l_spn rfl rfl rfl (h1 := fun hc => ?_) (h2 := fun hc => ?_) | refine l_sp rfl rfl rfl (h1 := fun hc => ?_) (h2 := fun hc => ?_)))
            refine rn_mk (j + 1) ?_ (by exact Nat.sub_lt_sub_left hj2 (Nat.lt_succ_self _)) (le_eq (by (repeat' first | exact .nil | refine .keep ?_ | refine .any ?_); first | done | fail) rfl rfl)
            exact hj2
          · repeat' first
              | refine w_seq ?_
              | refine w_block ?_
              | refine rb_n ?_
              | refine rb_ret ?_
              | refine rb_eq ?_
              | refine rb_ne (by rfl) ?_
              | refine w_exit ?_
              | refine rt_exit ?_
              | refine w_region ?_
              | refine l_nil ?_
              | refine rt_n ?_
              | refine w_ret ?_
              | refine rt_ret ?_
              | refine w_skip ?_
              | refine w_cond_t rfl ?_
              | refine w_cond_f rfl ?_
              | refine w_cnd rfl (fun hc => ?_) (fun hc => ?_)
              | refine w_cd rfl (fun hc => ?_) (fun hc => ?_)
              | refine w_cn rfl (fun hc => ?_) (fun hc => ?_)
              | refine w_cond rfl (fun hc => ?_) (fun hc => ?_)
              | (exfalso; omega)
              | (refine l_o ?_; first | refine l_eqnil rfl (by kernel_rfl) (by intro b; simp only [nz]; rfl) (fun b hb => ?_) | refine l_op (hk := ?_) | (refine l_g ?_; first | refine l_y rfl rfl rfl ?_ | refine l_n rfl rfl rfl rfl (hk := ?_) | refine l_n' rfl rfl rfl (hk := ?_) | refine l_spnd rfl rfl rfl (h1 := fun hc => ?_) (h2 := fun hc => ?_) | refine l_spd rfl rfl rfl (h1 := fun hc => ?_) (h2 := fun hc => ?_) | refine l_spn rfl rfl rfl (h1 := fun hc => ?_) (h2 := fun hc => ?_) | refine l_sp rfl rfl rfl (h1 := fun hc => ?_) (h2 := fun hc => ?_)))
            · refine en_one (hf := Try.results3) (h := ?_); simp only [lget]; first | refine congrArg RVb ?_ | refine congrArg RVi ?_ | skip
              have hw1 : wv = true := by rw [← hwe, decide_eq_true_eq, hwi]; left; omega
              rw [hw1]; rfl
            · refine en_one (hf := Try.results3) (h := ?_); simp only [lget]; first | refine congrArg RVb ?_ | refine congrArg RVi ?_ | skip
              by_cases hz : Z = []
              · have hw1 : wv = false := by
                  rw [← hwe, decide_eq_false_iff_not, hwi]
                  rintro (h1 | h1)
                  · omega
                  · exact h1 hz
                rw [hw1, hz]; rfl
              · have hw1 : wv = true := by rw [← hwe, decide_eq_true_eq, hwi]; exact .inr hz
                have hz2 := List.length_pos_iff.2 hz
                rw [hw1, decide_eq_true (by omega)]; rfl
  · rw [Bool.not_eq_true] at hg
    rw [hg] at hW hW2 hM hM2
    have hLs := rListsM_ok [] []
    rw [decide_eq_true rfl] at hLs
    repeat' first
      | refine w_seq ?_
      | refine w_block ?_
      | refine rb_n ?_
      | refine rb_ret ?_
      | refine rb_eq ?_
      | refine rb_ne (by rfl) ?_
      | refine w_exit ?_
      | refine rt_exit ?_
      | refine w_region ?_
      | refine l_nil ?_
      | refine rt_n ?_
      | refine w_ret ?_
      | refine rt_ret ?_
      | refine w_skip ?_
      | refine w_cond_t rfl ?_
      | refine w_cond_f rfl ?_
      | refine w_cnd rfl (fun hc => ?_) (fun hc => ?_)
      | refine w_cd rfl (fun hc => ?_) (fun hc => ?_)
      | refine w_cn rfl (fun hc => ?_) (fun hc => ?_)
      | refine w_cond rfl (fun hc => ?_) (fun hc => ?_)
      | (exfalso; exact hc rfl)
      | (refine l_o ?_; first | refine l_eqnil rfl (by kernel_rfl) (by intro b; simp only [nz]; rfl) (fun b hb => ?_) | refine l_op rfl (by first | (apply k_callf; first | exact ops_callf (d := 30) (hfc := hW) | exact ops_callf (d := 36) (hfc := hW2) | exact ops_callf (d := 42) (hfc := hM) | exact ops_callf (d := 48) (hfc := hM2) | exact ops_callf (d := 67) (hfc := hLs) | fail) | fail) (hk := ?_) | refine l_op (hk := ?_) | (refine l_g ?_; first | refine l_y rfl rfl rfl ?_ | refine l_n rfl rfl rfl rfl (hk := ?_) | refine l_n' rfl rfl rfl (hk := ?_) | refine l_spnd rfl rfl rfl (h1 := fun hc => ?_) (h2 := fun hc => ?_) | refine l_spd rfl rfl rfl (h1 := fun hc => ?_) (h2 := fun hc => ?_) | refine l_spn rfl rfl rfl (h1 := fun hc => ?_) (h2 := fun hc => ?_) | refine l_sp rfl rfl rfl (h1 := fun hc => ?_) (h2 := fun hc => ?_)))
    refine en_one (hf := Try.results3) (h := ?_); simp only [lget]; first | refine congrArg RVb ?_ | refine congrArg RVi ?_ | skip
end Go.Proofs.Ytmfbcipjknjicaa
