/- The reference's genus. For all arguments. -/
import Derived.Test.YtmfbcipjknjicaaGreatDoorGenI
import Derived.Test.YtmfbcipjknjicaaGreatDoorGvS
import Derived.Test.YtmfbcipjknjicaaGreatDoorJ38
namespace Go.Proofs.YtmfbcipjknjicaaGreatDoor
set_option linter.unusedSectionVars false
variable [One Bool]
open Eng
attribute [local irreducible] OpS OpG FC FCr Rel Fl Ef DR Fs
attribute [local simp] RV.fzR_names
set_option linter.unusedSimpArgs false
set_option linter.unusedVariables false
set_option maxHeartbeats 0
set_option maxRecDepth 100000

def knwV (c h : List Int) : List Nat := if h = [] then [0] else gvL c ((h.getD (h.length - 1) 0).toNat + 1)
theorem l17Known_ok (c h : List Int) (hc0 : gcode c = true) (hl : h.length ≤ 1048576) (hh : ∀ x ∈ h, 0 ≤ x ∧ x ≤ 300) : FCr Tryz.prog 57 [RIs c, RIs h] (.ow 1 ((knwV c h).map RVn)) := by
  by_cases h0 : h = []
  · subst h0
    rw [knwV, if_pos rfl]
    refine (fcr_in Tryz.func57 rfl (by simp only [Tryz.ntmps57, anys, List.length_cons, List.length_nil, Nat.reduceAdd, Nat.reduceSub, List.replicate_succ, List.replicate_zero, List.cons_append, List.nil_append] <;> rfl) ?_)
    repeat' first | apply w_seq | apply w_region | apply l_nil | apply rt_n | apply w_ret | apply rt_ret | apply w_skip | refine w_cond_t rfl ?_ | refine w_cond_f rfl ?_ | ((first | refine w_cnd rfl ?_ ?_ | refine w_cd rfl ?_ ?_ | refine w_cn rfl ?_ ?_ | refine w_cond rfl ?_ ?_) <;> intro hc) | (exfalso; omega) | (refine l_o ?_; first | refine l_eqnil rfl (by kernel_rfl) (by intro b; simp only [nz]; rfl) (fun b hb => ?_) | refine l_op (hk := ?_))
    refine en_end (hf := Tryz.results57) (hr := ?_); simp only [ne, nf, nl, nr, lget, reduceIte, Nat.reduceEqDiff]; first | rfl | refine congrArg RVb ?_ | refine congrArg RVi ?_ | skip
  · have hp := List.length_pos_iff.2 h0
    have hx := hh (h[h.length - 1]'(by omega)) (List.getElem_mem _)
    have hV := l17Values_ok c (h[h.length - 1]'(by omega)).toNat hc0 (by omega)
    have e : RVn (h[h.length - 1]'(by omega)).toNat = RVi (h[h.length - 1]'(by omega)) := by show RVi _ = RVi _; rw [Int.toNat_of_nonneg hx.1]
    rw [e] at hV
    rw [knwV, if_neg h0, getD_at (by omega)]
    generalize gvL c ((h[h.length - 1]'(by omega)).toNat + 1) = G at *
    refine (fcr_in Tryz.func57 rfl (by simp only [Tryz.ntmps57, anys, List.length_cons, List.length_nil, Nat.reduceAdd, Nat.reduceSub, List.replicate_succ, List.replicate_zero, List.cons_append, List.nil_append] <;> rfl) ?_)
    repeat' first | apply w_seq | apply w_region | apply l_nil | apply rt_n | apply w_ret | apply rt_ret | apply w_skip | refine w_cond_t rfl ?_ | refine w_cond_f rfl ?_ | ((first | refine w_cnd rfl ?_ ?_ | refine w_cd rfl ?_ ?_ | refine w_cn rfl ?_ ?_ | refine w_cond rfl ?_ ?_) <;> intro hc) | (exfalso; omega) | (refine l_o ?_; first | refine l_eqnil rfl (by kernel_rfl) (by intro b; simp only [nz]; rfl) (fun b hb => ?_) | refine l_op rfl (by first | (apply k_sub; first | exact ops_subn (a := h.length) (b := 1) rfl rfl (by omega) (by omega) | fail) | (apply k_callf; first | exact ops_call (hfc := hV) | fail) | fail) (hk := ?_) | refine l_op (hk := ?_))
    refine en_end (hf := Tryz.results57) (hr := ?_); simp only [ne, nf, nl, nr, lget, reduceIte, Nat.reduceEqDiff]; first | rfl | refine congrArg RVb ?_ | refine congrArg RVi ?_ | skip
theorem l17Value_ok (v : List Nat) (h : List Int) (hl : h.length ≤ 1048576) (hh : ∀ x ∈ h, 0 ≤ x ∧ x.toNat < v.length) (hv : ∀ x ∈ v, x < 256) : FCr Tryz.prog 56 [.sh (v.map RVn), RIs h] (RVn (xorV v h)) := by
  have hb : ∀ k : Nat, xorV v (h.take k) < 256 := fun k => xorV_lt hv _
  have hs : ∀ k : Nat, (hk : k < h.length) → xorV v (h.take (k + 1)) = xorV v (h.take k) ^^^ v[h[k].toNat]'((hh _ (List.getElem_mem hk)).2) := fun k hk => by
    rw [List.take_succ_eq_append_getElem hk]
    unfold xorV
    rw [List.foldl_append]
    simp only [List.foldl_cons, List.foldl_nil]
    rw [List.getD_eq_getElem?_getD, List.getElem?_eq_getElem (hh _ (List.getElem_mem hk)).2]; rfl
  refine (fcr_in Tryz.func56 rfl (by simp only [Tryz.ntmps56, anys, List.length_cons, List.length_nil, Nat.reduceAdd, Nat.reduceSub, List.replicate_succ, List.replicate_zero, List.cons_append, List.nil_append] <;> rfl) ?_)
  repeat' first | apply w_seq | apply w_block | apply rb_n | apply rb_ret | apply rb_eq | refine rb_ne (by rfl) ?_ | apply w_exit | apply rt_exit | apply w_region | apply l_nil | apply rt_n | apply w_ret | apply rt_ret | apply w_skip | refine w_cond_t rfl ?_ | refine w_cond_f rfl ?_ | ((first | refine w_cnd rfl ?_ ?_ | refine w_cd rfl ?_ ?_ | refine w_cn rfl ?_ ?_ | refine w_cond rfl ?_ ?_) <;> intro hc) | (refine l_o ?_; first | refine l_op (hk := ?_))
  refine w_loopm (ι := Nat) (fun k => [(6, RVn k), (5, RVn (xorV v (h.take k)))]) (fun _ => []) (fun k => k ≤ h.length) (fun k => h.length - k) 0 (h0 := ?_) (hs := ?_) (round := ?_)
  · exact Nat.zero_le _
  · refine le_eq (by (repeat' first | exact .nil | refine .keep ?_ | refine .any ?_); first | done | fail) rfl rfl
  · intro k hk
    by_cases hk2 : k < h.length
    · have hx := hh _ (List.getElem_mem hk2)
      have hi := hx.2
      have hbk := hb k
      have hvk := hv _ (List.getElem_mem hi)
      have hsk := hs k hk2
      generalize hZ2 : xorV v (h.take (k + 1)) = Z2 at *
      generalize xorV v (h.take k) = Z at *
      repeat' first | apply w_seq | apply w_block | apply rb_n | apply rb_ret | apply rb_eq | refine rb_ne (by rfl) ?_ | apply w_exit | apply rt_exit | apply w_region | apply l_nil | apply rt_n | apply w_ret | apply rt_ret | apply w_skip | refine w_cond_t rfl ?_ | refine w_cond_f rfl ?_ | ((first | refine w_cnd rfl ?_ ?_ | refine w_cd rfl ?_ ?_ | refine w_cn rfl ?_ ?_ | refine w_cond rfl ?_ ?_) <;> intro hc) | (exfalso; omega) | (refine l_o ?_; first | refine l_op rfl (by first | (apply k_xor; first | exact ops_xorn (m := Z) rfl rfl (by omega) (by omega) | fail) | fail) (hk := ?_) | refine l_op (hk := ?_))
      rw [← hsk, ← hZ2]
      refine rn_mk (k + 1) ?_ (by first | omega | (dsimp only; omega)) (le_eq (by (repeat' first | exact .nil | refine .keep ?_ | refine .any ?_); first | done | fail) rfl rfl)
      exact hk2
    · obtain rfl : k = h.length := by omega
      rw [List.take_length]
      repeat' first | apply w_seq | apply w_block | apply rb_n | apply rb_ret | apply rb_eq | refine rb_ne (by rfl) ?_ | apply w_exit | apply rt_exit | apply w_region | apply l_nil | apply rt_n | apply w_ret | apply rt_ret | apply w_skip | refine w_cond_t rfl ?_ | refine w_cond_f rfl ?_ | ((first | refine w_cnd rfl ?_ ?_ | refine w_cd rfl ?_ ?_ | refine w_cn rfl ?_ ?_ | refine w_cond rfl ?_ ?_) <;> intro hc) | (exfalso; omega) | (refine l_o ?_; first | refine l_op (hk := ?_))
      refine en_one (hf := Tryz.results56) (h := ?_); simp only [lget]; first | refine congrArg RVb ?_ | refine congrArg RVi ?_ | skip
theorem xorV_le {c : List Int} {n : Nat} {m : List Int} (h : ∀ x ∈ m, 0 ≤ x ∧ x < n) : xorV (gvL c n) m = xorG c m := by
  unfold xorV xorG
  have key : ∀ z, m.foldl (fun x h => x ^^^ (gvL c n).getD h.toNat 0) z = m.foldl (fun x h => x ^^^ gv c h.toNat) z := ?_
  · exact key 0
  intro z
  induction m generalizing z with
  | nil => rfl
  | cons x xs ih =>
    have hx := h x (by simp)
    rw [List.foldl_cons, List.foldl_cons, gvL_at c (by omega), ih fun y hy => h y (by simp [hy])]
theorem last_max {h : List Int} (hs : h.Pairwise (· ≤ ·)) : ∀ x ∈ h, x ≤ h.getD (h.length - 1) 0 := by
  intro x hx
  obtain ⟨i, hi, rfl⟩ := List.mem_iff_getElem.1 hx
  rw [getD_at (by omega)]
  rcases Nat.lt_or_ge i (h.length - 1) with h1 | h1
  · exact List.pairwise_iff_getElem.1 hs i (h.length - 1) hi (by omega) h1
  · have : i = h.length - 1 := by omega
    subst this; exact Int.le_refl _
theorem knwV_ok {c h : List Int} (hh : ∀ x ∈ h, 0 ≤ x) (hs : h.Pairwise (· ≤ ·)) : xorV (knwV c h) h = xorG c h ∧ ∀ x ∈ h, x.toNat < (knwV c h).length := by
  by_cases h0 : h = []
  · subst h0; exact ⟨rfl, by simp⟩
  · rw [knwV, if_neg h0]
    have hm := last_max hs
    refine ⟨xorV_le fun x hx => ⟨hh x hx, ?_⟩, fun x hx => ?_⟩
    · have h1 := hm x hx; have h2 := hh x hx; omega
    · rw [gvL_len]; have h1 := hm x hx; have h2 := hh x hx; omega
theorem knwV_lt {c h : List Int} (h255 : B255 c) (hh : ∀ x ∈ h, 0 ≤ x ∧ x ≤ 300) : ∀ x ∈ knwV c h, x < 256 := by
  by_cases h0 : h = []
  · subst h0; simp [knwV]
  · rw [knwV, if_neg h0, getD_at (by have := List.length_pos_iff.2 h0; omega)]
    have hp := List.length_pos_iff.2 h0
    have hx := hh (h[h.length - 1]'(by omega)) (List.getElem_mem _)
    exact gvL_lt (n := 300) (fun k hk => h255 k hk) (by omega)
theorem sGenus_ok (c h : List Int) (hc : c.length ≤ 1048576) (hl : h.length ≤ 1048576) (h255 : gcode c = true → B255 c) : FCr Tryz.prog 21 [RIs c, RIs h] (if gcode c && ghp h && decide (h.sum ≤ 12) then .tup [.ow 1 ((gnI c h).map RVi), RVb true] else .tup [.ow 1 [], RVb false]) := by
  have hG := l19Good_ok c h hc hl
  have hS := l17Sorted_ok h hl
  obtain ⟨K0, V0, hb0, hN⟩ := sbook_new c
  by_cases hg : (gcode c && ghp h && decide (h.sum ≤ 20)) = true
  · rw [hg] at hG
    have hg' := hg
    simp only [Bool.and_eq_true, decide_eq_true_eq] at hg
    have hgp : h.length ≤ 20 ∧ ghpF 0 h = true := by
      have := hg.1.2
      simpa [ghp] using this
    have hgx := ghpF_pos hgp.2
    have hSu := l19Sum_ok h hgp.1 hgx.1
    by_cases h12 : h.sum ≤ 12
    · rw [if_pos (by rw [hg.1.1, hg.1.2, decide_eq_true h12]; rfl)]
      rw [srt0_fill hg.1.2] at hS
      obtain ⟨nx, hnx⟩ := bx_all hg.1.1
      have hv0 := fillH_vld hg.1.2 (n := 20) (by omega)
      have hsf : (fillH h).sum ≤ 12 := by rw [sum_fill h fun x hx => (hgx.1 x hx).1]; exact h12
      have hvt : ∀ t : Nat, t ≤ 3 → vld (fillH h) t 0 := fun t ht => ⟨hv0.1, hv0.2.1, .inr ⟨hsf, by omega⟩⟩
      have hK := l17Known_ok c h hg.1.1 hl hgx.1
      have hkw := knwV_ok (c := c) (fun x hx => (hgx.1 x hx).1) hgx.2
      have hV := l17Value_ok (knwV c h) h hl (fun x hx => ⟨(hgx.1 x hx).1, hkw.2 x hx⟩) (knwV_lt (h255 hg.1.1) hgx.1)
      rw [hkw.1] at hV
      have hgn : gnI c h = ((xorG c h : Nat) : Int) :: (List.range 4).map fun t => mv c (fillH h) t 0 := rfl
      generalize gnI c h = GN at *
      generalize xorG c h = X at *
      generalize fillH h = H at *
      generalize knwV c h = KN at *
      refine (fcr_in Tryz.func21 rfl (by simp only [Tryz.ntmps21, anys, List.length_cons, List.length_nil, Nat.reduceAdd, Nat.reduceSub, List.replicate_succ, List.replicate_zero, List.cons_append, List.nil_append] <;> rfl) ?_)
      repeat' first | apply w_seq | apply w_block | apply rb_n | apply rb_ret | apply rb_eq | refine rb_ne (by rfl) ?_ | apply w_exit | apply rt_exit | apply w_region | apply l_nil | apply rt_n | apply w_ret | apply rt_ret | apply w_skip | refine w_cond_t rfl ?_ | refine w_cond_f rfl ?_ | ((first | refine w_cnd rfl ?_ ?_ | refine w_cd rfl ?_ ?_ | refine w_cn rfl ?_ ?_ | refine w_cond rfl ?_ ?_) <;> intro hc) | (exfalso; omega) | (refine l_o ?_; first | refine l_op rfl (by first | (apply k_callf; first | exact ops_callf (hfc := hG) | exact ops_callf (hfc := hSu) | fail) | fail) (hk := ?_) | refine l_op (hk := ?_) | (refine l_g ?_; first | refine l_y rfl rfl rfl ?_ | refine l_n rfl rfl rfl rfl (hk := ?_) | refine l_n' rfl rfl rfl (hk := ?_) | refine l_spnd rfl rfl rfl (h1 := fun hc => ?_) (h2 := fun hc => ?_) | refine l_spd rfl rfl rfl (h1 := fun hc => ?_) (h2 := fun hc => ?_) | refine l_spn rfl rfl rfl (h1 := fun hc => ?_) (h2 := fun hc => ?_) | refine l_sp rfl rfl rfl (h1 := fun hc => ?_) (h2 := fun hc => ?_)))
      refine l_book 1000 1009 1006 1007 hN (hk := ?_)
      repeat' first | apply w_seq | apply w_block | apply rb_n | apply rb_ret | apply rb_eq | refine rb_ne (by rfl) ?_ | apply w_exit | apply rt_exit | apply w_region | apply l_nil | apply rt_n | apply w_ret | apply rt_ret | apply w_skip | refine w_cond_t rfl ?_ | refine w_cond_f rfl ?_ | ((first | refine w_cnd rfl ?_ ?_ | refine w_cd rfl ?_ ?_ | refine w_cn rfl ?_ ?_ | refine w_cond rfl ?_ ?_) <;> intro hc) | (refine l_o ?_; first | refine l_op rfl (by first | (apply k_callf; first | exact ops_callf (hfc := hS) | exact ops_callf (hfc := hK) | exact ops_callf (hfc := hV) | fail) | fail) (hk := ?_) | refine l_op (hk := ?_) | (refine l_g ?_; first | refine l_y rfl rfl rfl ?_ | refine l_n rfl rfl rfl rfl (hk := ?_) | refine l_n' rfl rfl rfl (hk := ?_) | refine l_spnd rfl rfl rfl (h1 := fun hc => ?_) (h2 := fun hc => ?_) | refine l_spd rfl rfl rfl (h1 := fun hc => ?_) (h2 := fun hc => ?_) | refine l_spn rfl rfl rfl (h1 := fun hc => ?_) (h2 := fun hc => ?_) | refine l_sp rfl rfl rfl (h1 := fun hc => ?_) (h2 := fun hc => ?_)))
      refine w_loopm (ι := Nat × List Int × Bok) (fun q => [(9, RVn q.1), (8, .ref 28 0 q.2.1.length), (28, .any)]) (fun q => [(28, 1, q.2.1.map RVi), (1009, 3, [.agg [RIs c, .ref 1006 0 8192, .ref 1007 0 8192]]), (1006, 1, q.2.2.1.map RVi), (1007, 1, q.2.2.2.map RVi)]) (fun q => q.1 ≤ 4 ∧ q.2.1.length = q.1 + 1 ∧ q.2.1 = (X : Int) :: (List.range q.1).map (fun t => mv c H t 0) ∧ bookOk c q.2.2.1 q.2.2.2) (fun q => 4 - q.1) (0, [(X : Int)], K0, V0) (h0 := ?_) (hs := ?_) (round := ?_)
      · exact ⟨Nat.zero_le _, rfl, rfl, hb0⟩
      · refine le_eq (by (repeat' first | exact .nil | refine .keep ?_ | refine .any ?_); first | done | fail) rfl rfl
      · intro ⟨j, L, K, V⟩ ⟨hj, hLl, hL, hB⟩
        dsimp only at hj hLl hL hB ⊢
        by_cases hj2 : j < 4
        · have hq := hnx H j 0 (K, V) (hvt j (by omega)) hB
          have hcall := hq.2
          have hb2 := hq.1
          unfold SVC at hcall
          dsimp only at hcall
          generalize hVe : mv c H j 0 = r at *
          generalize nx H j 0 (K, V) = B4 at *
          obtain ⟨K4, V4⟩ := B4
          dsimp only at hcall hb2
          repeat' first | apply w_seq | apply w_block | apply rb_n | apply rb_ret | apply rb_eq | refine rb_ne (by rfl) ?_ | apply w_exit | apply rt_exit | apply w_region | apply l_nil | apply rt_n | apply w_ret | apply rt_ret | apply w_skip | refine w_cond_t rfl ?_ | refine w_cond_f rfl ?_ | ((first | refine w_cnd rfl ?_ ?_ | refine w_cd rfl ?_ ?_ | refine w_cn rfl ?_ ?_ | refine w_cond rfl ?_ ?_) <;> intro hc) | (exfalso; omega) | (refine l_o ?_; first | refine l_op rfl (by first | (apply k_callf; first | exact ops_callG (d := 37) [1009, 1006, 1007] [] (BK c K4 V4) (hfc := hcall) | fail) | fail) (hk := ?_) | refine l_op (hk := ?_) | (refine l_g ?_; first | refine l_y rfl rfl rfl ?_ | refine l_n rfl rfl rfl rfl (hk := ?_) | refine l_n' rfl rfl rfl (hk := ?_) | refine l_spnd rfl rfl rfl (h1 := fun hc => ?_) (h2 := fun hc => ?_) | refine l_spd rfl rfl rfl (h1 := fun hc => ?_) (h2 := fun hc => ?_) | refine l_spn rfl rfl rfl (h1 := fun hc => ?_) (h2 := fun hc => ?_) | refine l_sp rfl rfl rfl (h1 := fun hc => ?_) (h2 := fun hc => ?_)))
          refine rn_mk (j + 1, L ++ [r], K4, V4) ?_ (by dsimp only; omega) (le_trans (le_perm [28, 1009, 1006, 1007] rfl rfl) (le_eq (by (repeat' first | exact .nil | refine .keep ?_ | refine .any ?_); first | done | fail) rfl rfl))
          refine ⟨hj2, by simp [hLl], ?_, hb2⟩
          dsimp only
          rw [List.range_succ, List.map_append, ← List.cons_append, ← hL]
          simp [hVe]
        · obtain rfl : j = 4 := by omega
          rw [← hgn] at hL
          repeat' first | apply w_seq | apply w_block | apply rb_n | apply rb_ret | apply rb_eq | refine rb_ne (by rfl) ?_ | apply w_exit | apply rt_exit | apply w_region | apply l_nil | apply rt_n | apply w_ret | apply rt_ret | apply w_skip | refine w_cond_t rfl ?_ | refine w_cond_f rfl ?_ | ((first | refine w_cnd rfl ?_ ?_ | refine w_cd rfl ?_ ?_ | refine w_cn rfl ?_ ?_ | refine w_cond rfl ?_ ?_) <;> intro hc) | (exfalso; omega) | (refine l_o ?_; first | refine l_op (hk := ?_) | (refine l_g ?_; first | refine l_y rfl rfl rfl ?_ | refine l_n rfl rfl rfl rfl (hk := ?_) | refine l_n' rfl rfl rfl (hk := ?_) | refine l_spnd rfl rfl rfl (h1 := fun hc => ?_) (h2 := fun hc => ?_) | refine l_spd rfl rfl rfl (h1 := fun hc => ?_) (h2 := fun hc => ?_) | refine l_spn rfl rfl rfl (h1 := fun hc => ?_) (h2 := fun hc => ?_) | refine l_sp rfl rfl rfl (h1 := fun hc => ?_) (h2 := fun hc => ?_)))
          refine en_end (hf := Tryz.results21) (hr := ?_); simp only [ne, nf, nl, nr, lget, reduceIte, Nat.reduceEqDiff]; first | rfl | refine congrArg RVb ?_ | refine congrArg RVi ?_ | skip
          rw [hL]
    · rw [if_neg (by rw [decide_eq_false h12]; simp)]
      refine (fcr_in Tryz.func21 rfl (by simp only [Tryz.ntmps21, anys, List.length_cons, List.length_nil, Nat.reduceAdd, Nat.reduceSub, List.replicate_succ, List.replicate_zero, List.cons_append, List.nil_append] <;> rfl) ?_)
      repeat' first | apply w_seq | apply w_block | apply rb_n | apply rb_ret | apply rb_eq | refine rb_ne (by rfl) ?_ | apply w_exit | apply rt_exit | apply w_region | apply l_nil | apply rt_n | apply w_ret | apply rt_ret | apply w_skip | refine w_cond_t rfl ?_ | refine w_cond_f rfl ?_ | ((first | refine w_cnd rfl ?_ ?_ | refine w_cd rfl ?_ ?_ | refine w_cn rfl ?_ ?_ | refine w_cond rfl ?_ ?_) <;> intro hc) | (exfalso; omega) | (refine l_o ?_; first | refine l_op rfl (by first | (apply k_callf; first | exact ops_callf (hfc := hG) | exact ops_callf (hfc := hSu) | fail) | fail) (hk := ?_) | refine l_op (hk := ?_) | (refine l_g ?_; first | refine l_y rfl rfl rfl ?_ | refine l_n rfl rfl rfl rfl (hk := ?_) | refine l_n' rfl rfl rfl (hk := ?_) | refine l_spnd rfl rfl rfl (h1 := fun hc => ?_) (h2 := fun hc => ?_) | refine l_spd rfl rfl rfl (h1 := fun hc => ?_) (h2 := fun hc => ?_) | refine l_spn rfl rfl rfl (h1 := fun hc => ?_) (h2 := fun hc => ?_) | refine l_sp rfl rfl rfl (h1 := fun hc => ?_) (h2 := fun hc => ?_)))
      refine en_endn ([.ow 1 [], RVb false]) (hf := Tryz.results21) (hr := ?_); simp only [ne]; first | rfl | skip
  · rw [if_neg (by
      intro h1
      simp only [Bool.and_eq_true, decide_eq_true_eq] at h1 hg
      exact hg ⟨h1.1, by omega⟩)]
    rw [Bool.not_eq_true] at hg
    rw [hg] at hG
    refine (fcr_in Tryz.func21 rfl (by simp only [Tryz.ntmps21, anys, List.length_cons, List.length_nil, Nat.reduceAdd, Nat.reduceSub, List.replicate_succ, List.replicate_zero, List.cons_append, List.nil_append] <;> rfl) ?_)
    repeat' first | apply w_seq | apply w_block | apply rb_n | apply rb_ret | apply rb_eq | refine rb_ne (by rfl) ?_ | apply w_exit | apply rt_exit | apply w_region | apply l_nil | apply rt_n | apply w_ret | apply rt_ret | apply w_skip | refine w_cond_t rfl ?_ | refine w_cond_f rfl ?_ | ((first | refine w_cnd rfl ?_ ?_ | refine w_cd rfl ?_ ?_ | refine w_cn rfl ?_ ?_ | refine w_cond rfl ?_ ?_) <;> intro hc) | (refine l_o ?_; first | refine l_op rfl (by first | (apply k_callf; first | exact ops_callf (hfc := hG) | fail) | fail) (hk := ?_) | refine l_op (hk := ?_) | (refine l_g ?_; first | refine l_y rfl rfl rfl ?_ | refine l_n rfl rfl rfl rfl (hk := ?_) | refine l_n' rfl rfl rfl (hk := ?_) | refine l_spnd rfl rfl rfl (h1 := fun hc => ?_) (h2 := fun hc => ?_) | refine l_spd rfl rfl rfl (h1 := fun hc => ?_) (h2 := fun hc => ?_) | refine l_spn rfl rfl rfl (h1 := fun hc => ?_) (h2 := fun hc => ?_) | refine l_sp rfl rfl rfl (h1 := fun hc => ?_) (h2 := fun hc => ?_)))
    refine en_endn ([.ow 1 [], RVb false]) (hf := Tryz.results21) (hr := ?_); simp only [ne]; first | rfl | skip
end Go.Proofs.YtmfbcipjknjicaaGreatDoor
