/- The law FnGenus answers true. For all bytes. -/
import Derived.Test.YtmfbcipjknjicaaGreatDoorGenS
import Derived.Test.YtmfbcipjknjicaaGreatDoorGenT
import Derived.Test.YtmfbcipjknjicaaGreatDoorJ43
import Derived.Test.YtmfbcipjknjicaaGreatDoorJ46
namespace Go.Proofs.YtmfbcipjknjicaaGreatDoor
set_option linter.unusedSectionVars false
variable [One Bool]
open Eng
attribute [local irreducible] OpS OpG FC FCr Rel Fl Ef DR Fs
attribute [local simp] RV.fzR_names
set_option linter.unusedSimpArgs false
set_option linter.unusedVariables false
set_option maxHeartbeats 0
set_option maxRecDepth 100000

theorem xorG_16 {c : List Int} {l : List Int} (hl : ∀ x ∈ l, x ≤ 12) : xorG c l < 16 := by
  unfold xorG
  have key : ∀ (l : List Int) z, z < 16 → (∀ x ∈ l, x ≤ 12) → l.foldl (fun x h => x ^^^ gv c h.toNat) z < 16 := by
    intro l
    induction l with
    | nil => intro z hz _; exact hz
    | cons x xs ih =>
      intro z hz hl
      rw [List.foldl_cons]
      have hx := hl x (by simp)
      have := gv_le c x.toNat
      exact ih _ (Nat.xor_lt_two_pow (n := 4) hz (by omega)) fun y hy => hl y (by simp [hy])
  exact key l 0 (by omega) hl
theorem mv_ms (c : List Int) : ∀ (n : Nat) (h : List Int) (t o : Nat), posH h → msH h t o ≤ n → mv c h t o ≤ n + 1
  | n, h, t, o, hh, hn => by
    have hs := (sum_nn hh.1).1
    have hall : ∀ x ∈ optM c h t o, x ≤ n := by
      intro x hx
      unfold optM at hx
      rcases List.mem_append.1 hx with hx | hx
      · rcases List.mem_append.1 hx with hx | hx
        · obtain ⟨p, hp, rfl⟩ := List.mem_map.1 hx
          have hv := vis_mem hh hp
          have hs2 := (sum_nn hv.1.1).1
          have hlt : msH p t o ≤ n - 1 ∧ 1 ≤ n := by unfold msH at hn ⊢; omega
          have := mv_ms c (n - 1) p t o hv.1 hlt.1
          omega
        · split at hx
          · rename_i ht
            have h1 : msH h (t - 1) o ≤ n - 1 ∧ msH h (t - 1) (o + 1) ≤ n - 1 ∧ 1 ≤ n := by unfold msH at hn ⊢; omega
            have a1 := mv_ms c (n - 1) h (t - 1) o hh h1.1
            have a2 := mv_ms c (n - 1) h (t - 1) (o + 1) hh h1.2.1
            simp only [List.mem_cons, List.not_mem_nil, or_false] at hx
            omega
          · cases hx
      · split at hx
        · rename_i ho
          have h1 : msH h t (o - 1) ≤ n - 1 ∧ 1 ≤ n := by unfold msH at hn ⊢; omega
          have a1 := mv_ms c (n - 1) h t (o - 1) hh h1.1
          simp only [List.mem_cons, List.not_mem_nil, or_false] at hx
          omega
        · cases hx
    rw [mv_eq hh]
    unfold mexO
    split
    · omega
    · by_cases h0 : mexL (optM c h t o) = 0
      · omega
      · have := hall _ (mexL_below _ (mexL (optM c h t o) - 1) (by omega))
        omega
termination_by n => n
decreasing_by all_goals omega
theorem drawGn_ok (code : List UInt8) : FC Tryz.prog 19 [RYs code] [] (fun rv O => ∃ x : List Int × List Int, (x.1.length ≤ 60 ∧ x.2.length ≤ 60) ∧ rv = .tup [OIs x.1, OIs x.2] ∧ O = []) := by
  have q1 := drawCode_ok ⟨code, 0, 0⟩ (by show (0 : Nat) ≤ _; omega)
  refine (fc_in Tryz.func19 rfl (by simp only [Tryz.ntmps19, anys, List.length_cons, List.length_nil, Nat.reduceAdd, Nat.reduceSub, List.replicate_succ, List.replicate_zero, List.cons_append, List.nil_append] <;> rfl) ?_)
  repeat' first | apply w_seq | apply w_region | apply l_nil | apply rt_n | apply w_ret | apply rt_ret | apply w_skip | (refine l_o ?_; first | refine l_op (hk := ?_))
  refine l_callPx (MD 0) (fun x => OIs x.1) 8 (fun x => [RCur x.2]) q1 (hk := fun x hx => ?_)
  obtain ⟨a, c1⟩ := x
  obtain ⟨a1, a2⟩ := hx
  dsimp only at a1 a2 ⊢
  have p7 := among_ok c1 [6, 10, 12, 13] (by omega) (by decide) (by decide)
  have a7 := pickC_at c1 ([6, 10, 12, 13] : List Int).length
  have hr : ∃ m : Nat, ([6, 10, 12, 13] : List Int).getD (pickV c1 ([6, 10, 12, 13] : List Int).length) 0 = m ∧ 1 ≤ m ∧ m ≤ 100 := by
    have hv := pickV_lt c1 ([6, 10, 12, 13] : List Int).length (by decide)
    generalize pickV c1 ([6, 10, 12, 13] : List Int).length = v at *
    have hv : v < 4 := hv
    obtain rfl | rfl | rfl | rfl : v = 0 ∨ v = 1 ∨ v = 2 ∨ v = 3 := by omega
    · exact ⟨6, rfl, by omega, by omega⟩
    · exact ⟨10, rfl, by omega, by omega⟩
    · exact ⟨12, rfl, by omega, by omega⟩
    · exact ⟨13, rfl, by omega, by omega⟩
  obtain ⟨m, hm, hm1⟩ := hr
  rw [hm] at p7
  generalize pickC c1 ([6, 10, 12, 13] : List Int).length = c2 at *
  repeat' first | apply w_seq | apply w_region | apply l_nil | apply rt_n | apply w_ret | apply rt_ret | apply w_skip | (refine l_o ?_; first | refine l_op rfl (by first | (apply k_buildSlice; first | exact ops_buildSlice_fz (d := some 14) (k := 1) rfl rfl rfl (by decide) (by decide) (by kernel_rfl) (by decide +kernel) rfl | fail) | (apply k_callf; first | exact ops_callP (d := 15) 8 [RCur c2] (hfc := p7) | fail) | fail) (hk := ?_) | refine l_op (hk := ?_))
  have q2 := drawHeaps_ok c2 m hm1 (by omega)
  refine l_callPx (MD c2.at_) (fun x => OIs x.1) 8 (fun x => [RCur x.2]) q2 (hk := fun x hx => ?_)
  obtain ⟨b, c3⟩ := x
  obtain ⟨b1, b2⟩ := hx
  dsimp only at b1 b2 ⊢
  repeat' first | apply w_seq | apply w_region | apply l_nil | apply rt_n | apply w_ret | apply rt_ret | apply w_skip | (refine l_o ?_; first | refine l_op (hk := ?_))
  refine en_ex (a, b) ⟨a1, b1⟩ ?_
  refine en_endm ([(8, 3, [RCur c3])]) (hf := Tryz.results19) (hO := ?_) (hr := ?_)
  · rfl
  · rfl
theorem lawGn_ok (hJ : JT) (code : List UInt8) : FCr Tryz.prog 4 [RYs code] (RVb true) := by
  have hB := rBigQ_ok code
  have hD := drawGn_ok code
  by_cases hbig : (65536 : Int) < (code.length : Nat)
  · rw [decide_eq_true hbig] at hB
    refine (fcr_in Tryz.func4 rfl (by simp only [Tryz.ntmps4, anys, List.length_cons, List.length_nil, Nat.reduceAdd, Nat.reduceSub, List.replicate_succ, List.replicate_zero, List.cons_append, List.nil_append] <;> rfl) ?_)
    repeat' first | apply w_seq | apply w_region | apply l_nil | apply rt_n | apply w_ret | apply rt_ret | apply w_skip | refine w_cond_t rfl ?_ | refine w_cond_f rfl ?_ | ((first | refine w_cnd rfl ?_ ?_ | refine w_cd rfl ?_ ?_ | refine w_cn rfl ?_ ?_ | refine w_cond rfl ?_ ?_) <;> intro hc) | (refine l_o ?_; first | refine l_eqnil rfl (by kernel_rfl) (by intro b; simp only [nz]; rfl) (fun b hb => ?_) | refine l_op rfl (by first | (apply k_callf; first | exact ops_callf (hfc := hB) | fail) | fail) (hk := ?_) | refine l_op (hk := ?_) | (refine l_g ?_; first | refine l_y rfl rfl rfl ?_ | refine l_n rfl rfl rfl rfl (hk := ?_) | refine l_n' rfl rfl rfl (hk := ?_) | refine l_spnd rfl rfl rfl (h1 := fun hc => ?_) (h2 := fun hc => ?_) | refine l_spd rfl rfl rfl (h1 := fun hc => ?_) (h2 := fun hc => ?_) | refine l_spn rfl rfl rfl (h1 := fun hc => ?_) (h2 := fun hc => ?_) | refine l_sp rfl rfl rfl (h1 := fun hc => ?_) (h2 := fun hc => ?_)))
    refine en_one (hf := Tryz.results4) (h := ?_); simp only [lget]; first | refine congrArg RVb ?_ | refine congrArg RVi ?_ | skip
  rw [decide_eq_false hbig] at hB
  refine (fcr_in Tryz.func4 rfl (by simp only [Tryz.ntmps4, anys, List.length_cons, List.length_nil, Nat.reduceAdd, Nat.reduceSub, List.replicate_succ, List.replicate_zero, List.cons_append, List.nil_append] <;> rfl) ?_)
  repeat' first | apply w_seq | apply w_region | apply l_nil | apply rt_n | apply w_ret | apply rt_ret | apply w_skip | refine w_cond_t rfl ?_ | refine w_cond_f rfl ?_ | ((first | refine w_cnd rfl ?_ ?_ | refine w_cd rfl ?_ ?_ | refine w_cn rfl ?_ ?_ | refine w_cond rfl ?_ ?_) <;> intro hc) | (refine l_o ?_; first | refine l_eqnil rfl (by kernel_rfl) (by intro b; simp only [nz]; rfl) (fun b hb => ?_) | refine l_op rfl (by first | (apply k_callf; first | exact ops_callf (hfc := hB) | fail) | fail) (hk := ?_) | refine l_op (hk := ?_) | (refine l_g ?_; first | refine l_y rfl rfl rfl ?_ | refine l_n rfl rfl rfl rfl (hk := ?_) | refine l_n' rfl rfl rfl (hk := ?_) | refine l_spnd rfl rfl rfl (h1 := fun hc => ?_) (h2 := fun hc => ?_) | refine l_spd rfl rfl rfl (h1 := fun hc => ?_) (h2 := fun hc => ?_) | refine l_spn rfl rfl rfl (h1 := fun hc => ?_) (h2 := fun hc => ?_) | refine l_sp rfl rfl rfl (h1 := fun hc => ?_) (h2 := fun hc => ?_)))
  refine l_callX _ _ hD (hk := fun x hx => ?_)
  obtain ⟨c, h⟩ := x
  obtain ⟨hcl, hhl⟩ := hx
  dsimp only at hcl hhl ⊢
  refine l_le _ (le_trans (le_freeze 1021 rfl (by simp only [nz, nf, nl, nb, nr, ng, nq, nu, reduceIte, Nat.reduceEqDiff, Nat.reduceAdd]; rfl) (by simp only [nz, nf, nl, nb, nr, ng, nq, nu, reduceIte, Nat.reduceEqDiff, Nat.reduceAdd]; rfl)) (le_freeze 2021 rfl (by simp only [nz, nf, nl, nb, nr, ng, nq, nu, reduceIte, Nat.reduceEqDiff, Nat.reduceAdd]; rfl) (by simp only [nz, nf, nl, nb, nr, ng, nq, nu, reduceIte, Nat.reduceEqDiff, Nat.reduceAdd]; rfl))) ?_
  have hI := genus_ok c h (by omega) (by omega) (fun hg n hn => gv_255 hg hn)
  have hS := sGenus_ok c h (by omega) (by omega) (fun hg n hn => gv_255 hg hn)
  have hV := heapsValue_ok c h (by omega) (by omega) (fun hg n hn => gv_255 hg hn)
  have hM := misereValue_ok c h (by omega) (by omega)
  by_cases hg : (gcode c && ghp h && decide (h.sum ≤ 12)) = true
  · rw [hg] at hI hS
    simp only [Bool.and_eq_true, decide_eq_true_eq] at hg
    rw [hg.1.1, hg.1.2] at hV
    rw [hg.1.1, hg.1.2, decide_eq_true (show h.sum ≤ 20 by omega)] at hM
    simp only [Bool.and_self, reduceIte] at hI hS hV hM
    have hv := fillH_vld hg.1.2 (n := 20) (by omega)
    have hgp := hg.1.2
    simp only [ghp, Bool.and_eq_true, decide_eq_true_eq] at hgp
    have hgx := ghpF_pos hgp.2
    have hsf : (fillH h).sum = h.sum := sum_fill h fun x hx => (hgx.1 x hx).1
    have hle : ∀ l : List Int, (∀ x ∈ l, 0 ≤ x) → ∀ x ∈ l, x ≤ l.sum := by
      intro l
      induction l with
      | nil => intro _ x hx; cases hx
      | cons a ys ih =>
        intro h0 x hx
        have h1 : ∀ l : List Int, (∀ x ∈ l, 0 ≤ x) → 0 ≤ l.sum := by
          intro l
          induction l with
          | nil => intro _; simp
          | cons b bs ih => intro h0; have := ih fun y hy => h0 y (by simp [hy]); have := h0 b (by simp); rw [List.sum_cons]; omega
        have h2 := h1 ys fun y hy => h0 y (by simp [hy])
        have h3 := h0 a (by simp)
        rw [List.sum_cons]
        rcases List.mem_cons.1 hx with rfl | hx
        · omega
        · have := ih (fun y hy => h0 y (by simp [hy])) x hx; omega
    have hx16 : xorG c h < 16 := xorG_16 fun x hx => by have := hle h (fun y hy => (hgx.1 y hy).1) x hx; omega
    have hmv : ∀ t : Nat, t ≤ 3 → 0 ≤ mv c (fillH h) t 0 ∧ mv c (fillH h) t 0 ≤ 20 := fun t ht => by
      have := mv_ms c 18 (fillH h) t 0 hv.1 (by unfold msH; omega)
      exact ⟨mv_nn hv.1, by omega⟩
    have hGl : (gnI c h).length = 5 := by simp [gnI]
    have hGb : ∀ x ∈ gnI c h, 0 ≤ x ∧ x < 100 := by
      intro x hx
      unfold gnI at hx
      rcases List.mem_cons.1 hx with rfl | hx
      · omega
      · obtain ⟨t, ht, rfl⟩ := List.mem_map.1 hx
        have := hmv t (by have := List.mem_range.1 ht; omega)
        omega
    have hG0 : (gnI c h)[0]? = some ((xorG c h : Nat) : Int) := rfl
    have hG1 : (gnI c h)[1]? = some (mv c (fillH h) 0 0) := rfl
    have hT := genusText_ok hJ (gnI c h) hGl hGb
    have hU := sGenusText_ok (gnI c h) hGl hGb
    have hL := rIntsM_ok (gnI c h) (gnI c h)
    rw [decide_eq_true rfl] at hL
    generalize gnT (gnI c h) = X at *
    generalize gnI c h = G at *
    have e0 : G[0] = ((xorG c h : Nat) : Int) := (List.getElem?_eq_some_iff.1 hG0).2
    have e1 : G[1] = mv c (fillH h) 0 0 := (List.getElem?_eq_some_iff.1 hG1).2
    clear hG0 hG1
    repeat' first | apply w_seq | apply w_region | apply l_nil | apply rt_n | apply w_ret | apply rt_ret | apply w_skip | refine w_cond_t rfl ?_ | refine w_cond_f rfl ?_ | ((first | refine w_cnd rfl ?_ ?_ | refine w_cd rfl ?_ ?_ | refine w_cn rfl ?_ ?_ | refine w_cond rfl ?_ ?_) <;> intro hc) | (exfalso; exact hc rfl) | (exfalso; exact hc e0) | (exfalso; exact hc e1) | (exfalso; omega) | (refine l_o ?_; first | refine l_eqnil rfl (by kernel_rfl) (by intro b; simp only [nz]; rfl) (fun b hb => ?_) | refine l_op rfl (by first | (apply k_callf; first | exact ops_callf (d := 27) (hfc := hI) | exact ops_callf (d := 33) (hfc := hS) | exact ops_callf (d := 42) (hfc := hL) | exact ops_callf (d := 50) (hfc := hV) | exact ops_callf (d := 56) (hfc := hM) | exact ops_callf (d := 61) (hfc := hT) | exact ops_callf (d := 66) (hfc := hU) | fail) | fail) (hk := ?_) | refine l_op (hk := ?_) | (refine l_g ?_; first | refine l_y rfl rfl rfl ?_ | refine l_n rfl rfl rfl rfl (hk := ?_) | refine l_n' rfl rfl rfl (hk := ?_) | refine l_spnd rfl rfl rfl (h1 := fun hc => ?_) (h2 := fun hc => ?_) | refine l_spd rfl rfl rfl (h1 := fun hc => ?_) (h2 := fun hc => ?_) | refine l_spn rfl rfl rfl (h1 := fun hc => ?_) (h2 := fun hc => ?_) | refine l_sp rfl rfl rfl (h1 := fun hc => ?_) (h2 := fun hc => ?_)))
    all_goals
      refine en_one (hf := Tryz.results4) (h := ?_); simp only [lget]; first | refine congrArg RVb ?_ | refine congrArg RVi ?_ | skip
      try simp
  · rw [Bool.not_eq_true] at hg
    rw [hg] at hI hS
    have hL := rIntsM_ok [] []
    rw [decide_eq_true rfl] at hL
    repeat' first | apply w_seq | apply w_region | apply l_nil | apply rt_n | apply w_ret | apply rt_ret | apply w_skip | refine w_cond_t rfl ?_ | refine w_cond_f rfl ?_ | ((first | refine w_cnd rfl ?_ ?_ | refine w_cd rfl ?_ ?_ | refine w_cn rfl ?_ ?_ | refine w_cond rfl ?_ ?_) <;> intro hc) | (exfalso; exact hc rfl) | (refine l_o ?_; first | refine l_eqnil rfl (by kernel_rfl) (by intro b; simp only [nz]; rfl) (fun b hb => ?_) | refine l_op rfl (by first | (apply k_callf; first | exact ops_callf (d := 27) (hfc := hI) | exact ops_callf (d := 33) (hfc := hS) | exact ops_callf (d := 42) (hfc := hL) | fail) | fail) (hk := ?_) | refine l_op (hk := ?_) | (refine l_g ?_; first | refine l_y rfl rfl rfl ?_ | refine l_n rfl rfl rfl rfl (hk := ?_) | refine l_n' rfl rfl rfl (hk := ?_) | refine l_spnd rfl rfl rfl (h1 := fun hc => ?_) (h2 := fun hc => ?_) | refine l_spd rfl rfl rfl (h1 := fun hc => ?_) (h2 := fun hc => ?_) | refine l_spn rfl rfl rfl (h1 := fun hc => ?_) (h2 := fun hc => ?_) | refine l_sp rfl rfl rfl (h1 := fun hc => ?_) (h2 := fun hc => ?_)))
    refine en_one (hf := Tryz.results4) (h := ?_); simp only [lget]; first | refine congrArg RVb ?_ | refine congrArg RVi ?_ | skip
end Go.Proofs.YtmfbcipjknjicaaGreatDoor
