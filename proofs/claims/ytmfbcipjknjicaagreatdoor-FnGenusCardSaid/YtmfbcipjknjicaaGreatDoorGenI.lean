/- The program's genus. For all arguments. -/
import Derived.Test.YtmfbcipjknjicaaGreatDoorGvI
import Derived.Test.YtmfbcipjknjicaaGreatDoorJ38
namespace Go.Proofs.YtmfbcipjknjicaaGreatDoor
set_option linter.unusedSectionVars false
variable [One Bool]
open Eng
attribute [local irreducible] OpS OpG FC FCr Rel Fl Ef DR Fs
attribute [local simp] RV.fzR_names
set_option linter.unusedSimpArgs false
set_option linter.unusedVariables false
set_option maxHeartbeats 0
set_option maxRecDepth 100000

theorem xorG_snoc (c : List Int) (l : List Int) (x : Int) : xorG c (l ++ [x]) = xorG c l ^^^ gv c x.toNat := by simp [xorG]
def B255 (c : List Int) : Prop := ∀ n : Nat, n ≤ 300 → gv c n ≤ 255
theorem xorG_lt {c : List Int} (hc : B255 c) {l : List Int} (hl : ∀ x ∈ l, x ≤ 300) : xorG c l < 256 := by
  unfold xorG
  have key : ∀ (l : List Int) z, z < 256 → (∀ x ∈ l, x ≤ 300) → l.foldl (fun x h => x ^^^ gv c h.toNat) z < 256 := by
    intro l
    induction l with
    | nil => intro z hz _; exact hz
    | cons x xs ih =>
      intro z hz hl
      rw [List.foldl_cons]
      have hx := hl x (by simp)
      have := hc x.toNat (by omega)
      exact ih _ (Nat.xor_lt_two_pow (n := 8) hz (by omega)) fun y hy => hl y (by simp [hy])
  exact key l 0 (by omega) hl
theorem heapsValue_ok (c h : List Int) (hc : c.length ≤ 1048576) (hl : h.length ≤ 1048576) (h255 : gcode c = true → B255 c) : FCr Tryz.prog 22 [RIs c, RIs h] (if gcode c && ghp h then .tup [RVn (xorG c h), RVb true] else .tup [RVi 0, RVb false]) := by
  have hC := goodCode_ok c hc
  have hH := goodHeaps_ok h hl
  by_cases hg : gcode c = true
  · rw [hg] at hC
    by_cases hh : ghp h = true
    · rw [hh] at hH
      rw [if_pos (by rw [hg, hh]; rfl)]
      have hhx : ∀ x ∈ h, 0 ≤ x ∧ x ≤ 300 := by
        simp only [ghp, Bool.and_eq_true, decide_eq_true_eq] at hh
        exact (ghpF_pos hh.2).1
      have hV := values_ok c 300 hg (by omega) (fun k hk => h255 hg k hk)
      have hgl := gvL_len c 301
      have hga : ∀ k : Nat, (h : k < 301) → (gvL c 301)[k]'(by rw [hgl]; exact h) = gv c k := fun k h => by
        have e := gvL_at c (i := k) (n := 301) h
        rwa [List.getD_eq_getElem?_getD, List.getElem?_eq_getElem (by rw [gvL_len]; exact h), Option.getD_some] at e
      have hxl : ∀ k : Nat, xorG c (h.take k) < 256 := fun k => xorG_lt (h255 hg) fun x hx => (hhx x (List.mem_of_mem_take hx)).2
      have hxs : ∀ k : Nat, (hk : k < h.length) → xorG c (h.take (k + 1)) = xorG c (h.take k) ^^^ gv c h[k].toNat := fun k hk => by
        rw [List.take_succ_eq_append_getElem hk, xorG_snoc]
      rw [show (300 + 1 : Nat) = 301 from rfl] at hV
      generalize gvL c 301 = G at *
      refine (fcr_in Tryz.func22 rfl (by simp only [Tryz.ntmps22, anys, List.length_cons, List.length_nil, Nat.reduceAdd, Nat.reduceSub, List.replicate_succ, List.replicate_zero, List.cons_append, List.nil_append] <;> rfl) ?_)
      repeat' first | apply w_seq | apply w_block | apply rb_n | apply rb_ret | apply rb_eq | refine rb_ne (by rfl) ?_ | apply w_exit | apply rt_exit | apply w_region | apply l_nil | apply rt_n | apply w_ret | apply rt_ret | apply w_skip | refine w_cond_t rfl ?_ | refine w_cond_f rfl ?_ | ((first | refine w_cnd rfl ?_ ?_ | refine w_cd rfl ?_ ?_ | refine w_cn rfl ?_ ?_ | refine w_cond rfl ?_ ?_) <;> intro hc) | (refine l_o ?_; first | refine l_op rfl (by first | (apply k_callf; first | exact ops_callf (hfc := hC) | exact ops_callf (hfc := hH) | exact ops_callf (hfc := hV) | fail) | fail) (hk := ?_) | refine l_op (hk := ?_) | (refine l_g ?_; first | refine l_y rfl rfl rfl ?_ | refine l_n rfl rfl rfl rfl (hk := ?_) | refine l_n' rfl rfl rfl (hk := ?_) | refine l_spnd rfl rfl rfl (h1 := fun hc => ?_) (h2 := fun hc => ?_) | refine l_spd rfl rfl rfl (h1 := fun hc => ?_) (h2 := fun hc => ?_) | refine l_spn rfl rfl rfl (h1 := fun hc => ?_) (h2 := fun hc => ?_) | refine l_sp rfl rfl rfl (h1 := fun hc => ?_) (h2 := fun hc => ?_)))
      refine w_loopm (ι := Nat) (fun k => [(28, RVn k), (8, RVn (xorG c (h.take k))), (10, .any)]) (fun _ => []) (fun k => k ≤ h.length) (fun k => h.length - k) 0 (h0 := ?_) (hs := ?_) (round := ?_)
      · exact Nat.zero_le _
      · refine le_eq (by (repeat' first | exact .nil | refine .keep ?_ | refine .any ?_); first | done | fail) rfl rfl
      · intro k hk
        by_cases hk2 : k < h.length
        · have hx := hhx _ (List.getElem_mem hk2)
          have hi : h[k].toNat < G.length := by omega
          have hGk := hga h[k].toNat (by omega)
          have hb := hxl k
          have hgb := h255 hg h[k].toNat (by omega)
          have hs := hxs k hk2
          generalize hZ2 : xorG c (h.take (k + 1)) = Z2 at *
          generalize xorG c (h.take k) = Z at *
          repeat' first | apply w_seq | apply w_block | apply rb_n | apply rb_ret | apply rb_eq | refine rb_ne (by rfl) ?_ | apply w_exit | apply rt_exit | apply w_region | apply l_nil | apply rt_n | apply w_ret | apply rt_ret | apply w_skip | refine w_cond_t rfl ?_ | refine w_cond_f rfl ?_ | ((first | refine w_cnd rfl ?_ ?_ | refine w_cd rfl ?_ ?_ | refine w_cn rfl ?_ ?_ | refine w_cond rfl ?_ ?_) <;> intro hc) | (exfalso; omega) | (refine l_o ?_; first | refine l_op rfl (by first | (apply k_xor; first | exact ops_xorn (m := Z) rfl rfl (by omega) (by omega) | fail) | fail) (hk := ?_) | refine l_op (hk := ?_) | (refine l_g ?_; first | refine l_y rfl rfl rfl ?_ | refine l_n rfl rfl rfl rfl (hk := ?_) | refine l_n' rfl rfl rfl (hk := ?_) | refine l_spnd rfl rfl rfl (h1 := fun hc => ?_) (h2 := fun hc => ?_) | refine l_spd rfl rfl rfl (h1 := fun hc => ?_) (h2 := fun hc => ?_) | refine l_spn rfl rfl rfl (h1 := fun hc => ?_) (h2 := fun hc => ?_) | refine l_sp rfl rfl rfl (h1 := fun hc => ?_) (h2 := fun hc => ?_)))
          rw [hGk, ← hs]
          rw [← hZ2]
          refine rn_mk (k + 1) ?_ (by first | omega | (dsimp only; omega)) (le_eq (by (repeat' first | exact .nil | refine .keep ?_ | refine .any ?_); first | done | fail) rfl rfl)
          exact hk2
        · obtain rfl : k = h.length := by omega
          rw [List.take_length]
          repeat' first | apply w_seq | apply w_block | apply rb_n | apply rb_ret | apply rb_eq | refine rb_ne (by rfl) ?_ | apply w_exit | apply rt_exit | apply w_region | apply l_nil | apply rt_n | apply w_ret | apply rt_ret | apply w_skip | refine w_cond_t rfl ?_ | refine w_cond_f rfl ?_ | ((first | refine w_cnd rfl ?_ ?_ | refine w_cd rfl ?_ ?_ | refine w_cn rfl ?_ ?_ | refine w_cond rfl ?_ ?_) <;> intro hc) | (exfalso; omega) | (refine l_o ?_; first | refine l_op (hk := ?_) | (refine l_g ?_; first | refine l_y rfl rfl rfl ?_ | refine l_n rfl rfl rfl rfl (hk := ?_) | refine l_n' rfl rfl rfl (hk := ?_) | refine l_spnd rfl rfl rfl (h1 := fun hc => ?_) (h2 := fun hc => ?_) | refine l_spd rfl rfl rfl (h1 := fun hc => ?_) (h2 := fun hc => ?_) | refine l_spn rfl rfl rfl (h1 := fun hc => ?_) (h2 := fun hc => ?_) | refine l_sp rfl rfl rfl (h1 := fun hc => ?_) (h2 := fun hc => ?_)))
          refine en_end (hf := Tryz.results22) (hr := ?_); simp only [ne, nf, nl, nr, lget, reduceIte, Nat.reduceEqDiff]; first | rfl | refine congrArg RVb ?_ | refine congrArg RVi ?_ | skip
    · rw [Bool.not_eq_true] at hh
      rw [hh] at hH
      rw [hg, hh]
      refine (fcr_in Tryz.func22 rfl (by simp only [Tryz.ntmps22, anys, List.length_cons, List.length_nil, Nat.reduceAdd, Nat.reduceSub, List.replicate_succ, List.replicate_zero, List.cons_append, List.nil_append] <;> rfl) ?_)
      repeat' first | apply w_seq | apply w_block | apply rb_n | apply rb_ret | apply rb_eq | refine rb_ne (by rfl) ?_ | apply w_exit | apply rt_exit | apply w_region | apply l_nil | apply rt_n | apply w_ret | apply rt_ret | apply w_skip | refine w_cond_t rfl ?_ | refine w_cond_f rfl ?_ | ((first | refine w_cnd rfl ?_ ?_ | refine w_cd rfl ?_ ?_ | refine w_cn rfl ?_ ?_ | refine w_cond rfl ?_ ?_) <;> intro hc) | (refine l_o ?_; first | refine l_op rfl (by first | (apply k_callf; first | exact ops_callf (hfc := hC) | exact ops_callf (hfc := hH) | fail) | fail) (hk := ?_) | refine l_op (hk := ?_) | (refine l_g ?_; first | refine l_y rfl rfl rfl ?_ | refine l_n rfl rfl rfl rfl (hk := ?_) | refine l_n' rfl rfl rfl (hk := ?_) | refine l_spnd rfl rfl rfl (h1 := fun hc => ?_) (h2 := fun hc => ?_) | refine l_spd rfl rfl rfl (h1 := fun hc => ?_) (h2 := fun hc => ?_) | refine l_spn rfl rfl rfl (h1 := fun hc => ?_) (h2 := fun hc => ?_) | refine l_sp rfl rfl rfl (h1 := fun hc => ?_) (h2 := fun hc => ?_)))
      refine en_end (hf := Tryz.results22) (hr := ?_); simp only [ne, nf, nl, nr, lget, reduceIte, Nat.reduceEqDiff]; first | rfl | refine congrArg RVb ?_ | refine congrArg RVi ?_ | skip
  · rw [Bool.not_eq_true] at hg
    rw [hg] at hC
    rw [hg]
    refine (fcr_in Tryz.func22 rfl (by simp only [Tryz.ntmps22, anys, List.length_cons, List.length_nil, Nat.reduceAdd, Nat.reduceSub, List.replicate_succ, List.replicate_zero, List.cons_append, List.nil_append] <;> rfl) ?_)
    repeat' first | apply w_seq | apply w_block | apply rb_n | apply rb_ret | apply rb_eq | refine rb_ne (by rfl) ?_ | apply w_exit | apply rt_exit | apply w_region | apply l_nil | apply rt_n | apply w_ret | apply rt_ret | apply w_skip | refine w_cond_t rfl ?_ | refine w_cond_f rfl ?_ | ((first | refine w_cnd rfl ?_ ?_ | refine w_cd rfl ?_ ?_ | refine w_cn rfl ?_ ?_ | refine w_cond rfl ?_ ?_) <;> intro hc) | (refine l_o ?_; first | refine l_op rfl (by first | (apply k_callf; first | exact ops_callf (hfc := hC) | exact ops_callf (hfc := hH) | fail) | fail) (hk := ?_) | refine l_op (hk := ?_) | (refine l_g ?_; first | refine l_y rfl rfl rfl ?_ | refine l_n rfl rfl rfl rfl (hk := ?_) | refine l_n' rfl rfl rfl (hk := ?_) | refine l_spnd rfl rfl rfl (h1 := fun hc => ?_) (h2 := fun hc => ?_) | refine l_spd rfl rfl rfl (h1 := fun hc => ?_) (h2 := fun hc => ?_) | refine l_spn rfl rfl rfl (h1 := fun hc => ?_) (h2 := fun hc => ?_) | refine l_sp rfl rfl rfl (h1 := fun hc => ?_) (h2 := fun hc => ?_)))
    refine en_end (hf := Tryz.results22) (hr := ?_); simp only [ne, nf, nl, nr, lget, reduceIte, Nat.reduceEqDiff]; first | rfl | refine congrArg RVb ?_ | refine congrArg RVi ?_ | skip
def gnI (c h : List Int) : List Int := ((xorG c h : Nat) : Int) :: (List.range 4).map fun t => mv c (fillH h) t 0
theorem genus_ok (c h : List Int) (hc : c.length ≤ 1048576) (hl : h.length ≤ 1048576) (h255 : gcode c = true → B255 c) : FCr Tryz.prog 20 [RIs c, RIs h] (if gcode c && ghp h && decide (h.sum ≤ 12) then .tup [.ow 1 ((gnI c h).map RVi), RVb true] else .tup [.ow 1 [], RVb false]) := by
  have hS := small_ok c h 12 hc hl (by omega)
  have hF := filled_ok h hl
  have hN := newMisere_ok c
  have hHV := heapsValue_ok c h hc hl h255
  rw [show ((12 : Nat) : Int) = (12 : Int) from rfl] at hS
  by_cases hg : (gcode c && ghp h && decide (h.sum ≤ 12)) = true
  · rw [hg] at hS ⊢
    simp only [Bool.and_eq_true, decide_eq_true_eq] at hg
    rw [hg.1.1, hg.1.2] at hHV
    simp only [Bool.and_self, reduceIte] at hHV ⊢
    obtain ⟨nx, hnx⟩ := nx_all hg.1.1
    have hv0 := fillH_vld hg.1.2 (n := 20) (by omega)
    have hsf : (fillH h).sum ≤ 12 := by
      have hh := hg.1.2
      simp only [ghp, Bool.and_eq_true, decide_eq_true_eq] at hh
      rw [sum_fill h fun x hx => ((ghpF_pos hh.2).1 x hx).1]; exact hg.2
    have hvt : ∀ t : Nat, t ≤ 3 → vld (fillH h) t 0 := fun t ht => ⟨hv0.1, hv0.2.1, .inr ⟨hsf, by omega⟩⟩
    have hgn : gnI c h = ((xorG c h : Nat) : Int) :: (List.range 4).map fun t => mv c (fillH h) t 0 := rfl
    generalize gnI c h = GN at *
    generalize xorG c h = X at *
    generalize fillH h = H at *
    refine (fcr_in Tryz.func20 rfl (by simp only [Tryz.ntmps20, anys, List.length_cons, List.length_nil, Nat.reduceAdd, Nat.reduceSub, List.replicate_succ, List.replicate_zero, List.cons_append, List.nil_append] <;> rfl) ?_)
    repeat' first | apply w_seq | apply w_block | apply rb_n | apply rb_ret | apply rb_eq | refine rb_ne (by rfl) ?_ | apply w_exit | apply rt_exit | apply w_region | apply l_nil | apply rt_n | apply w_ret | apply rt_ret | apply w_skip | refine w_cond_t rfl ?_ | refine w_cond_f rfl ?_ | ((first | refine w_cnd rfl ?_ ?_ | refine w_cd rfl ?_ ?_ | refine w_cn rfl ?_ ?_ | refine w_cond rfl ?_ ?_) <;> intro hc) | (refine l_o ?_; first | refine l_op rfl (by first | (apply k_callf; first | exact ops_callf (hfc := hS) | exact ops_callf (hfc := hHV) | fail) | fail) (hk := ?_) | refine l_op (hk := ?_)) | refine d_nil ?_ | (refine d_o ?_; first | refine d_fl (hk := ?_) | refine d_ef rfl (by first | exact .callf (hfc := hS) | exact .callf (hfc := hHV) | fail) (hk := ?_) | refine d_ef (hk := ?_)) | (refine w_o ?_; first | refine w_draw (id := 11) (fun _ => true) (fun k => [3, 5, 6, 7].contains k) [[], [], [], []] 64 (by kernel_rfl) rfl (by kernel_rfl) (by simp [nm, nset, -List.map_take, -List.map_drop]) ?_)
    refine l_callM (hfc := hN) (hk := fun b _ => ?_)
    repeat' first | apply w_seq | apply w_block | apply rb_n | apply rb_ret | apply rb_eq | refine rb_ne (by rfl) ?_ | apply w_exit | apply rt_exit | apply w_region | apply l_nil | apply rt_n | apply w_ret | apply rt_ret | apply w_skip | refine w_cond_t rfl ?_ | refine w_cond_f rfl ?_ | ((first | refine w_cnd rfl ?_ ?_ | refine w_cd rfl ?_ ?_ | refine w_cn rfl ?_ ?_ | refine w_cond rfl ?_ ?_) <;> intro hc) | (refine l_o ?_; first | refine l_op (hk := ?_)) | refine d_nil ?_ | (refine d_o ?_; first | refine d_fl (hk := ?_) | refine d_ef (hk := ?_)) | (refine w_o ?_; first | refine w_draw (id := 11) (fun _ => true) (fun k => [3, 5, 6, 7].contains k) [[], [], [], []] 64 (by kernel_rfl) rfl (by kernel_rfl) (by simp [nm, nset, -List.map_take, -List.map_drop]) ?_)
    refine w_le _ (le_perm [24, 9, 26] rfl rfl) ?_
    refine w_loopm (ι := Nat × List Int × Mem) (fun q => [(27, RVn q.1), (8, .ref 24 0 q.2.1.length), (24, .any), (10, .any)]) (fun q => [(24, 1, q.2.1.map RVi), (9, 2, [RV.agg [RIs c, RV.v (Value.map (some b))]]), (26, 0, MSI b q.2.2)]) (fun q => q.1 ≤ 4 ∧ q.2.1.length = q.1 + 1 ∧ q.2.1 = (X : Int) :: (List.range q.1).map (fun t => mv c H t 0) ∧ memOk c q.2.2) (fun q => 4 - q.1) (0, [(X : Int)], []) (h0 := ?_) (hs := ?_) (round := ?_)
    · exact ⟨Nat.zero_le _, rfl, rfl, memOk_nil c⟩
    · refine le_eq (by (repeat' first | exact .nil | refine .keep ?_ | refine .any ?_); first | done | fail) rfl rfl
    · intro ⟨j, L, M⟩ ⟨hj, hLl, hL, hM⟩
      dsimp only at hj hLl hL hM ⊢
      by_cases hj2 : j < 4
      · have hq := hnx H j 0 M (hvt j (by omega)) hM
        have hcall := hq.2 b
        generalize hVe : mv c H j 0 = r at *
        generalize nx H j 0 M = M2 at *
        repeat' first | apply w_seq | apply w_block | apply rb_n | apply rb_ret | apply rb_eq | refine rb_ne (by rfl) ?_ | apply w_exit | apply rt_exit | apply w_region | apply l_nil | apply rt_n | apply w_ret | apply rt_ret | apply w_skip | refine w_cond_t rfl ?_ | refine w_cond_f rfl ?_ | ((first | refine w_cnd rfl ?_ ?_ | refine w_cd rfl ?_ ?_ | refine w_cn rfl ?_ ?_ | refine w_cond rfl ?_ ?_) <;> intro hc) | (exfalso; omega) | (refine l_o ?_; first | refine l_op rfl (by first | (apply k_callf; first | exact ops_callP (d := 35) 26 (MSI b M2) (hfc := hcall) | exact ops_callf (d := 33) (hfc := hF) | fail) | fail) (hk := ?_) | refine l_op (hk := ?_)) | refine d_nil ?_ | (refine d_o ?_; first | refine d_fl rfl (by first | exact .pl (by first | (apply q_callf; first | exact fs_callf (d := 33) (hfc := hF) | fail) | fail) | fail) (hk := ?_) | refine d_fl (hk := ?_) | refine d_ef rfl (by first | exact .callP (d := 35) 26 (MSI b M2) (hfc := hcall) | fail) (hk := ?_) | refine d_ef (hk := ?_)) | (refine w_o ?_; first | refine w_draw (id := 11) (roL [9]) (fun k => [5, 6, 7, 8].contains k) [[],[36],[37],[]] 64 (by kernel_rfl) rfl (by kernel_rfl) (by simp [nm, nset, -List.map_take, -List.map_drop]) ?_)
        refine rn_mk (j + 1, L ++ [r], M2) ?_ (by dsimp only; omega) (le_trans (le_kill 24 (by simp only [nz, nf, nl, nb, nr, ng, nq, nu, reduceIte, Nat.reduceEqDiff, Nat.reduceAdd]; rfl)) (le_trans (le_ren 37 24 (by decide) (by decide) (by simp [nm, ng, renL_id, onames, MSI_ren, -List.map_append, -List.map_take, -List.map_drop]) (by simp [nm, ng, renL_id, onames, MSI_ren, -List.map_append, -List.map_take, -List.map_drop]) (by simp only [ng, nm, nu, renL_id, reduceIte, Nat.reduceEqDiff, MSI_ren] <;> rfl) (by simp only [ng, nm, nu, renL_id, reduceIte, Nat.reduceEqDiff, MSI_ren] <;> rfl)) (le_eq (by (repeat' first | exact .nil | refine .keep ?_ | refine .any ?_); first | done | fail) rfl rfl)))
        refine ⟨hj2, by simp [hLl], ?_, hq.1⟩
        dsimp only
        rw [List.range_succ, List.map_append, ← List.cons_append, ← hL]
        simp [hVe]
      · obtain rfl : j = 4 := by omega
        rw [← hgn] at hL
        repeat' first | apply w_seq | apply w_block | apply rb_n | apply rb_ret | apply rb_eq | refine rb_ne (by rfl) ?_ | apply w_exit | apply rt_exit | apply w_region | apply l_nil | apply rt_n | apply w_ret | apply rt_ret | apply w_skip | refine w_cond_t rfl ?_ | refine w_cond_f rfl ?_ | ((first | refine w_cnd rfl ?_ ?_ | refine w_cd rfl ?_ ?_ | refine w_cn rfl ?_ ?_ | refine w_cond rfl ?_ ?_) <;> intro hc) | (exfalso; omega) | (refine l_o ?_; first | refine l_op (hk := ?_)) | refine d_nil ?_ | (refine d_o ?_; first | refine d_fl (hk := ?_) | refine d_ef (hk := ?_)) | (refine w_o ?_; first | refine w_draw (id := 11) (fun _ => true) (fun k => [3, 5, 6, 7].contains k) [[], [], [], []] 64 (by kernel_rfl) rfl (by kernel_rfl) (by simp [nm, nset, -List.map_take, -List.map_drop]) ?_)
        refine en_end (hf := Tryz.results20) (hr := ?_); simp only [ne, nf, nl, nr, lget, reduceIte, Nat.reduceEqDiff]; first | rfl | refine congrArg RVb ?_ | refine congrArg RVi ?_ | skip
        rw [hL]
  · rw [Bool.not_eq_true] at hg
    rw [hg] at hS ⊢
    refine (fcr_in Tryz.func20 rfl (by simp only [Tryz.ntmps20, anys, List.length_cons, List.length_nil, Nat.reduceAdd, Nat.reduceSub, List.replicate_succ, List.replicate_zero, List.cons_append, List.nil_append] <;> rfl) ?_)
    repeat' first | apply w_seq | apply w_block | apply rb_n | apply rb_ret | apply rb_eq | refine rb_ne (by rfl) ?_ | apply w_exit | apply rt_exit | apply w_region | apply l_nil | apply rt_n | apply w_ret | apply rt_ret | apply w_skip | refine w_cond_t rfl ?_ | refine w_cond_f rfl ?_ | ((first | refine w_cnd rfl ?_ ?_ | refine w_cd rfl ?_ ?_ | refine w_cn rfl ?_ ?_ | refine w_cond rfl ?_ ?_) <;> intro hc) | (refine l_o ?_; first | refine l_op rfl (by first | (apply k_callf; first | exact ops_callf (hfc := hS) | fail) | fail) (hk := ?_) | refine l_op (hk := ?_)) | refine d_nil ?_ | (refine d_o ?_; first | refine d_fl (hk := ?_) | refine d_ef rfl (by first | exact .callf (hfc := hS) | fail) (hk := ?_) | refine d_ef (hk := ?_)) | (refine w_o ?_; first | refine w_draw (id := 11) (fun _ => true) (fun k => [3, 5, 6, 7].contains k) [[], [], [], []] 64 (by kernel_rfl) rfl (by kernel_rfl) (by simp [nm, nset, -List.map_take, -List.map_drop]) ?_)
    refine en_endn ([.ow 1 [], RVb false]) (hf := Tryz.results20) (hr := ?_); simp only [ne]; first | rfl | skip
end Go.Proofs.YtmfbcipjknjicaaGreatDoor
