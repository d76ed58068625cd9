/- The program's boxes: looked at, all positions, two positions together. For all boxes and positions of the sizes that the theorems name. -/
import Derived.Test.YtmfbcipjknjicaaGreatDoorJ24
namespace Go.Proofs.YtmfbcipjknjicaaGreatDoor
open Eng
attribute [local irreducible] OpS OpG FC FCr Rel Fl Ef DR Fs
attribute [local simp] RV.fzR_names
set_option linter.unusedSimpArgs false
set_option linter.unusedVariables false
set_option maxHeartbeats 0
set_option maxRecDepth 100000

abbrev RBx (s m : Int) : RV := .agg [RVi s, RVi m]
theorem goodBox_ok (s m : Int) : FCr Tryz.prog 31 [RBx s m] (RVb (goodB s m)) := by
  by_cases h4 : 1 ≤ s ∧ 1 ≤ m ∧ s ≤ 6 ∧ m ≤ 6
  · obtain ⟨a, rfl⟩ : ∃ a : Nat, s = a := ⟨s.toNat, by omega⟩
    obtain ⟨b, rfl⟩ : ∃ b : Nat, m = b := ⟨m.toNat, by omega⟩
    have hab : a * b ≤ 36 := Nat.mul_le_mul (show a ≤ 6 by omega) (show b ≤ 6 by omega)
    have hg : goodB (a : Int) (b : Int) = decide (((a * b : Nat) : Int) ≤ 6) := by
      simp only [goodB]
      rw [decide_eq_true h4.1, decide_eq_true h4.2.1, decide_eq_true h4.2.2.1, decide_eq_true h4.2.2.2, Int.natCast_mul]; rfl
    rw [hg]
    refine (fcr_in Tryz.func31 rfl (by simp only [Tryz.ntmps31, anys, List.length_cons, List.length_nil, Nat.reduceAdd, Nat.reduceSub, List.replicate_succ, List.replicate_zero, List.cons_append, List.nil_append] <;> rfl) ?_)
    repeat' first | apply w_seq | apply w_region | apply l_nil | apply rt_n | apply w_ret | apply rt_ret | apply w_skip | (exfalso; omega) | (refine l_o ?_; first | refine l_op rfl (by first | (apply k_mul; first | exact ops_muln (m := a) (n := b) rfl rfl (by omega) | fail) | fail) (hk := ?_) | refine l_op (hk := ?_) | (refine l_g ?_; first | refine l_y rfl rfl rfl ?_ | refine l_n rfl rfl rfl rfl (hk := ?_) | refine l_n' rfl rfl rfl (hk := ?_) | refine l_spnd rfl rfl rfl (h1 := fun hc => ?_) (h2 := fun hc => ?_) | refine l_spd rfl rfl rfl (h1 := fun hc => ?_) (h2 := fun hc => ?_) | refine l_spn rfl rfl rfl (h1 := fun hc => ?_) (h2 := fun hc => ?_) | refine l_sp rfl rfl rfl (h1 := fun hc => ?_) (h2 := fun hc => ?_)))
    refine en_one (hf := Tryz.results31) (h := ?_); simp only [lget]; first | refine congrArg RVb ?_ | refine congrArg RVi ?_ | skip
  · have hg : goodB s m = false := by
      cases hb : goodB s m with
      | false => rfl
      | true =>
        simp only [goodB, Bool.and_eq_true, decide_eq_true_eq] at hb
        exact absurd ⟨hb.1.1.1.1, hb.1.1.1.2, hb.1.1.2, hb.1.2⟩ h4
    rw [hg]
    refine (fcr_in Tryz.func31 rfl (by simp only [Tryz.ntmps31, anys, List.length_cons, List.length_nil, Nat.reduceAdd, Nat.reduceSub, List.replicate_succ, List.replicate_zero, List.cons_append, List.nil_append] <;> rfl) ?_)
    repeat' first | apply w_seq | apply w_region | apply l_nil | apply rt_n | apply w_ret | apply rt_ret | apply w_skip | (exfalso; omega) | (refine l_o ?_; first | refine l_op (hk := ?_) | (refine l_g ?_; first | refine l_y rfl rfl rfl ?_ | refine l_n rfl rfl rfl rfl (hk := ?_) | refine l_n' rfl rfl rfl (hk := ?_) | refine l_spnd rfl rfl rfl (h1 := fun hc => ?_) (h2 := fun hc => ?_) | refine l_spd rfl rfl rfl (h1 := fun hc => ?_) (h2 := fun hc => ?_) | refine l_spn rfl rfl rfl (h1 := fun hc => ?_) (h2 := fun hc => ?_) | refine l_sp rfl rfl rfl (h1 := fun hc => ?_) (h2 := fun hc => ?_)))
    all_goals (refine en_one (hf := Tryz.results31) (h := ?_); simp only [lget]; first | refine congrArg RVb ?_ | refine congrArg RVi ?_ | skip)
theorem lists_ok {s : Nat} (m : Int) (hs : s ≤ 6) : ∀ (k n : Nat), k ≤ 6 → n ≤ 100 → FCr Tryz.prog 73 [RBx s m, RVn k, RVn n] (.ow 1 ((lstB s k n).map RIs))
  | 0, n, _, _ => by
    refine (fcr_in Tryz.func73 rfl (by simp only [Tryz.ntmps73, anys, List.length_cons, List.length_nil, Nat.reduceAdd, Nat.reduceSub, List.replicate_succ, List.replicate_zero, List.cons_append, List.nil_append] <;> rfl) ?_)
    repeat' first | apply w_seq | apply w_block | apply rb_n | apply rb_ret | apply rb_eq | refine rb_ne (by rfl) ?_ | apply w_exit | apply rt_exit | apply w_region | apply l_nil | apply rt_n | apply w_ret | apply rt_ret | apply w_skip | refine w_cond_t rfl ?_ | refine w_cond_f rfl ?_ | ((first | refine w_cnd rfl ?_ ?_ | refine w_cd rfl ?_ ?_ | refine w_cn rfl ?_ ?_ | refine w_cond rfl ?_ ?_) <;> intro hc) | (exfalso; omega) | (refine l_o ?_; first | refine l_eqnil rfl (by kernel_rfl) (by intro b; simp only [nz]; rfl) (fun b hb => ?_) | refine l_op rfl (by first | (apply k_buildSlice; first | exact ops_buildSlice_fz (d := some 13) (k := 1) rfl rfl rfl (by decide) (by decide) (by kernel_rfl) (by decide +kernel) rfl | fail) | fail) (hk := ?_) | refine l_op (hk := ?_))
    refine en_end (hf := Tryz.results73) (hr := ?_); simp only [ne, nf, nl, nr, lget, reduceIte, Nat.reduceEqDiff]; first | rfl | refine congrArg RVb ?_ | refine congrArg RVi ?_ | skip
  | k + 1, n, hk, hn => by
    have ih := lists_ok m hs k
    have hb := fun n => lstB_len hs k n
    have hpk : 7 ^ k ≤ 7 ^ 6 := Nat.pow_le_pow_right (by omega) (by omega)
    rw [lstB_succ]
    refine (fcr_in Tryz.func73 rfl (by simp only [Tryz.ntmps73, anys, List.length_cons, List.length_nil, Nat.reduceAdd, Nat.reduceSub, List.replicate_succ, List.replicate_zero, List.cons_append, List.nil_append] <;> rfl) ?_)
    repeat' first | apply w_seq | apply w_block | apply rb_n | apply rb_ret | apply rb_eq | refine rb_ne (by rfl) ?_ | apply w_exit | apply rt_exit | apply w_region | apply l_nil | apply rt_n | apply w_ret | apply rt_ret | apply w_skip | refine w_cond_t rfl ?_ | refine w_cond_f rfl ?_ | ((first | refine w_cnd rfl ?_ ?_ | refine w_cd rfl ?_ ?_ | refine w_cn rfl ?_ ?_ | refine w_cond rfl ?_ ?_) <;> intro hc) | (exfalso; omega) | (refine l_o ?_; first | refine l_eqnil rfl (by kernel_rfl) (by intro b; simp only [nz]; rfl) (fun b hb => ?_) | refine l_op (hk := ?_))
    refine w_loopm (ι := Nat × List (List Int)) (fun q => [(8, RVn (n + q.1)), (7, .ref 15 0 q.2.length), (15, .any), (10, .any)]) (fun q => [(15, 1, q.2.map RIs), (3, 2, [RBx s m])]) (fun q => q.1 ≤ s + 1 - n ∧ q.2 = lstT s k n q.1 ∧ q.2.length ≤ q.1 * 117649) (fun q => s + 1 - n - q.1) (0, []) (h0 := ?_) (hs := ?_) (round := ?_)
    · exact ⟨Nat.zero_le _, by simp [lstT], by simp⟩
    · refine le_eq (by (repeat' first | exact .nil | refine .keep ?_ | refine .any ?_); first | done | fail) rfl rfl
    · intro ⟨j, L⟩ ⟨hj, hL, hLl⟩
      dsimp only at hj hL hLl ⊢
      by_cases hj2 : j < s + 1 - n
      · have hcl := ih (n + j) (by omega) (by omega)
        have hM := hb (n + j)
        have hsu := lstT_succ s k n j
        rw [← hL] at hsu
        have hMm : ∀ l ∈ lstB s k (n + j), l ∈ lstB s k (n + j) := fun l h => h
        have hMm2 : ∀ l ∈ lstB s k (n + j), l.length = k := fun l h => (lstB_mem h).1
        clear hMm
        generalize lstB s k (n + j) = M at *
        repeat' first | apply w_seq | apply w_block | apply rb_n | apply rb_ret | apply rb_eq | refine rb_ne (by rfl) ?_ | apply w_exit | apply rt_exit | apply w_region | apply l_nil | apply rt_n | apply w_ret | apply rt_ret | apply w_skip | refine w_cond_t rfl ?_ | refine w_cond_f rfl ?_ | ((first | refine w_cnd rfl ?_ ?_ | refine w_cd rfl ?_ ?_ | refine w_cn rfl ?_ ?_ | refine w_cond rfl ?_ ?_) <;> intro hc) | (exfalso; omega) | (refine l_o ?_; first | refine l_eqnil rfl (by kernel_rfl) (by intro b; simp only [nz]; rfl) (fun b hb => ?_) | refine l_op rfl (by first | (apply k_sub; first | exact ops_pred (a := k) rfl (by omega) | fail) | (apply k_callf; first | exact ops_callf (d := 27) (hfc := hcl) | fail) | fail) (hk := ?_) | refine l_op (hk := ?_))
        refine w_loopm (ι := Nat × List (List Int)) (fun q => [(29, RVn q.1), (7, .ref 15 0 q.2.length), (10, .any)]) (fun q => [(15, 1, q.2.map RIs), (3, 2, [RBx s m])]) (fun q => q.1 ≤ M.length ∧ q.2.length = L.length + q.1 ∧ q.2 = L ++ (M.take q.1).map (fun l => ((n + j : Nat) : Int) :: l)) (fun q => M.length - q.1) (0, L) (h0 := ?_) (hs := ?_) (round := ?_)
        · exact ⟨Nat.zero_le _, rfl, by simp⟩
        · refine le_eq (by (repeat' first | exact .nil | refine .keep ?_ | refine .any ?_); first | done | fail) rfl rfl
        · intro ⟨i, L2⟩ ⟨hi, hl2, hL2⟩
          dsimp only at hi hl2 hL2 ⊢
          by_cases hi2 : i < M.length
          · have hrl : M[i].length ≤ 10 := by
              have := hMm2 _ (List.getElem_mem hi2)
              omega
            repeat' first | apply w_seq | apply w_block | apply rb_n | apply rb_ret | apply rb_eq | refine rb_ne (by rfl) ?_ | apply w_exit | apply rt_exit | apply w_region | apply l_nil | apply rt_n | apply w_ret | apply rt_ret | apply w_skip | refine w_cond_t rfl ?_ | refine w_cond_f rfl ?_ | ((first | refine w_cnd rfl ?_ ?_ | refine w_cd rfl ?_ ?_ | refine w_cn rfl ?_ ?_ | refine w_cond rfl ?_ ?_) <;> intro hc) | (exfalso; omega) | (refine l_at_buildSlice (d := some 38) ?_; refine l_le _ (le_freeze 35 rfl (by simp only [nz, nf, nl, nb, nr, ng, nq, nu, reduceIte, Nat.reduceEqDiff, Nat.reduceAdd]; rfl) (by simp only [nz, nf, nl, nb, nr, ng, nq, nu, reduceIte, Nat.reduceEqDiff, Nat.reduceAdd]; rfl)) ?_) | (refine l_o ?_; first | refine l_eqnil rfl (by kernel_rfl) (by intro b; simp only [nz]; rfl) (fun b hb => ?_) | refine l_op (hk := ?_))
            have e : List.map RIs L2 ++ [RV.sh (RV.fzL ([RVn (n + j)] ++ List.map RVi M[i]))] = (L2 ++ [((n + j : Nat) : Int) :: M[i]]).map RIs := by
              rw [List.map_append, show [RVn (n + j)] ++ List.map RVi M[i] = (((n + j : Nat) : Int) :: M[i]).map RVi from rfl, fz_RIs]; rfl
            rw [e, List.length_map]
            refine rn_mk (i + 1, L2 ++ [((n + j : Nat) : Int) :: M[i]]) ?_ (by first | omega | (dsimp only; omega)) (le_eq (by (repeat' first | exact .nil | refine .keep ?_ | refine .any ?_); first | done | fail) rfl rfl)
            refine ⟨hi2, by dsimp only; simp; omega, ?_⟩
            dsimp only
            rw [hL2, List.take_succ_eq_append_getElem hi2, List.map_append, List.append_assoc]; rfl
          · obtain rfl : i = M.length := by omega
            rw [List.take_length, ← hsu] at hL2
            repeat' first | apply w_seq | apply w_block | apply rb_n | apply rb_ret | apply rb_eq | refine rb_ne (by rfl) ?_ | apply w_exit | apply rt_exit | apply w_region | apply l_nil | apply rt_n | apply w_ret | apply rt_ret | apply w_skip | refine w_cond_t rfl ?_ | refine w_cond_f rfl ?_ | ((first | refine w_cnd rfl ?_ ?_ | refine w_cd rfl ?_ ?_ | refine w_cn rfl ?_ ?_ | refine w_cond rfl ?_ ?_) <;> intro hc) | (exfalso; omega) | (refine l_o ?_; first | refine l_eqnil rfl (by kernel_rfl) (by intro b; simp only [nz]; rfl) (fun b hb => ?_) | refine l_op (hk := ?_))
            refine rn_mk (j + 1, L2) ?_ (by first | omega | (dsimp only; omega)) (le_eq (by (repeat' first | exact .nil | refine .keep ?_ | refine .any ?_); first | done | fail) rfl rfl)
            exact ⟨hj2, hL2, by dsimp only; omega⟩
      · obtain rfl : j = s + 1 - n := by omega
        rw [← hL]
        repeat' first | apply w_seq | apply w_block | apply rb_n | apply rb_ret | apply rb_eq | refine rb_ne (by rfl) ?_ | apply w_exit | apply rt_exit | apply w_region | apply l_nil | apply rt_n | apply w_ret | apply rt_ret | apply w_skip | refine w_cond_t rfl ?_ | refine w_cond_f rfl ?_ | ((first | refine w_cnd rfl ?_ ?_ | refine w_cd rfl ?_ ?_ | refine w_cn rfl ?_ ?_ | refine w_cond rfl ?_ ?_) <;> intro hc) | (exfalso; omega) | (refine l_o ?_; first | refine l_eqnil rfl (by kernel_rfl) (by intro b; simp only [nz]; rfl) (fun b hb => ?_) | refine l_op (hk := ?_))
        refine en_end (hf := Tryz.results73) (hr := ?_); simp only [ne, nf, nl, nr, lget, reduceIte, Nat.reduceEqDiff]; first | rfl | refine congrArg RVb ?_ | refine congrArg RVi ?_ | skip
theorem positions_ok {s m : Nat} (hs : s ≤ 6) (hm : m ≤ 6) : FCr Tryz.prog 38 [RBx s m] (.ow 1 ((posB s m).map RIs)) := by
  have hl := posT_len hs
  have hL1 := fun j (hj : j ≤ 6) => lists_ok (m : Int) hs j 1 hj (by omega)
  have hb := fun j => lstB_len hs j 1
  refine (fcr_in Tryz.func38 rfl (by simp only [Tryz.ntmps38, anys, List.length_cons, List.length_nil, Nat.reduceAdd, Nat.reduceSub, List.replicate_succ, List.replicate_zero, List.cons_append, List.nil_append] <;> rfl) ?_)
  repeat' first | apply w_seq | apply w_block | apply rb_n | apply rb_ret | apply rb_eq | refine rb_ne (by rfl) ?_ | apply w_exit | apply rt_exit | apply w_region | apply l_nil | apply rt_n | apply w_ret | apply rt_ret | apply w_skip | refine w_cond_t rfl ?_ | refine w_cond_f rfl ?_ | ((first | refine w_cnd rfl ?_ ?_ | refine w_cd rfl ?_ ?_ | refine w_cn rfl ?_ ?_ | refine w_cond rfl ?_ ?_) <;> intro hc) | (refine l_o ?_; first | refine l_op (hk := ?_))
  refine w_loopm (ι := Nat × List (List Int)) (fun q => [(9, RVn q.1), (3, .ref 5 0 q.2.length), (5, .any), (4, .any)]) (fun q => [(5, 1, q.2.map RIs), (1, 2, [RBx s m])]) (fun q => q.1 ≤ m + 1 ∧ q.2 = posT s q.1) (fun q => m + 1 - q.1) (0, []) (h0 := ?_) (hs := ?_) (round := ?_)
  · exact ⟨Nat.zero_le _, by simp [posT]⟩
  · refine le_eq (by (repeat' first | exact .nil | refine .keep ?_ | refine .any ?_); first | done | fail) rfl rfl
  · intro ⟨j, L⟩ ⟨hj, hL⟩
    dsimp only at hj hL ⊢
    by_cases hj2 : j < m + 1
    · have hLl := hl j (by omega)
      rw [← hL] at hLl
      have hcl := hL1 j (by omega)
      have hbl := hb j
      have hpk : 7 ^ j ≤ 7 ^ 6 := Nat.pow_le_pow_right (by omega) (by omega)
      have hsu := posT_succ s j
      rw [← hL] at hsu
      generalize lstB s j 1 = M at *
      repeat' first | apply w_seq | apply w_block | apply rb_n | apply rb_ret | apply rb_eq | refine rb_ne (by rfl) ?_ | apply w_exit | apply rt_exit | apply w_region | apply l_nil | apply rt_n | apply w_ret | apply rt_ret | apply w_skip | refine w_cond_t rfl ?_ | refine w_cond_f rfl ?_ | ((first | refine w_cnd rfl ?_ ?_ | refine w_cd rfl ?_ ?_ | refine w_cn rfl ?_ ?_ | refine w_cond rfl ?_ ?_) <;> intro hc) | (exfalso; omega) | (refine l_o ?_; first | refine l_op rfl (by first | (apply k_callf; first | exact ops_callf (d := 15) (hfc := hcl) | fail) | fail) (hk := ?_) | refine l_op (hk := ?_))
      refine rn_mk (j + 1, L ++ M) ?_ (by first | omega | (dsimp only; omega)) (le_eq (by (repeat' first | exact .nil | refine .keep ?_ | refine .any ?_); first | done | fail) rfl rfl)
      exact ⟨hj2, hsu.symm⟩
    · obtain rfl : j = m + 1 := by omega
      repeat' first | apply w_seq | apply w_block | apply rb_n | apply rb_ret | apply rb_eq | refine rb_ne (by rfl) ?_ | apply w_exit | apply rt_exit | apply w_region | apply l_nil | apply rt_n | apply w_ret | apply rt_ret | apply w_skip | refine w_cond_t rfl ?_ | refine w_cond_f rfl ?_ | ((first | refine w_cnd rfl ?_ ?_ | refine w_cd rfl ?_ ?_ | refine w_cn rfl ?_ ?_ | refine w_cond rfl ?_ ?_) <;> intro hc) | (exfalso; omega) | (refine l_o ?_; first | refine l_op (hk := ?_))
      refine en_end (hf := Tryz.results38) (hr := ?_); simp only [ne, nf, nl, nr, lget, reduceIte, Nat.reduceEqDiff]; first | rfl | refine congrArg RVb ?_ | refine congrArg RVi ?_ | skip
      rw [hL]; rfl
theorem filled_okL (h : List Int) (hl : h.length ≤ 4194304) : FCr Tryz.prog 52 [RIs h] (OIs (fillH h)) := by
  refine (fcr_in Tryz.func52 rfl (by simp only [Tryz.ntmps52, anys, List.length_cons, List.length_nil, Nat.reduceAdd, Nat.reduceSub, List.replicate_succ, List.replicate_zero, List.cons_append, List.nil_append] <;> rfl) ?_)
  repeat' first | apply w_seq | apply w_block | apply rb_n | apply rb_ret | apply rb_eq | refine rb_ne (by rfl) ?_ | apply w_exit | apply rt_exit | apply w_region | apply l_nil | apply rt_n | apply w_ret | apply rt_ret | apply w_skip | refine w_cond_t rfl ?_ | refine w_cond_f rfl ?_ | ((first | refine w_cnd rfl ?_ ?_ | refine w_cd rfl ?_ ?_ | refine w_cn rfl ?_ ?_ | refine w_cond rfl ?_ ?_) <;> intro hc) | (refine l_o ?_; first | refine l_op (hk := ?_))
  refine w_loopm (ι := Nat × List Int) (fun q => [(9, RVn q.1), (3, .ref 6 0 q.2.length), (6, .any)]) (fun q => [(6, 1, q.2.map RVi)]) (fun q => q.1 ≤ h.length ∧ q.2.length ≤ q.1 ∧ q.2 = fillH (h.take q.1)) (fun q => h.length - q.1) (0, []) (h0 := ?_) (hs := ?_) (round := ?_)
  · exact ⟨Nat.zero_le _, Nat.le_refl _, rfl⟩
  · refine le_eq (by (repeat' first | exact .nil | refine .keep ?_ | refine .any ?_); first | done | fail) rfl rfl
  · intro ⟨k, L⟩ ⟨hk, hLl, hL⟩
    dsimp only at hk hLl hL ⊢
    by_cases hk2 : k < h.length
    · have e : fillH (h.take (k + 1)) = if 0 < h[k] then L ++ [h[k]] else L := by
        rw [List.take_succ_eq_append_getElem hk2, fillH, List.filter_append, hL]
        split
        · rename_i h1; simp [h1, fillH]
        · rename_i h1; simp [h1, fillH]
      by_cases hp : 0 < h[k]
      · rw [if_pos hp] at e
        repeat' first | apply w_seq | apply w_block | apply rb_n | apply rb_ret | apply rb_eq | refine rb_ne (by rfl) ?_ | apply w_exit | apply rt_exit | apply w_region | apply l_nil | apply rt_n | apply w_ret | apply rt_ret | apply w_skip | refine w_cond_t rfl ?_ | refine w_cond_f rfl ?_ | ((first | refine w_cnd rfl ?_ ?_ | refine w_cd rfl ?_ ?_ | refine w_cn rfl ?_ ?_ | refine w_cond rfl ?_ ?_) <;> intro hc) | (exfalso; omega) | (refine l_o ?_; first | refine l_op (hk := ?_))
        refine rn_mk (k + 1, L ++ [h[k]]) ?_ (by first | omega | (dsimp only; omega)) (le_eq (by (repeat' first | exact .nil | refine .keep ?_ | refine .any ?_); first | done | fail) rfl rfl)
        exact ⟨hk2, by dsimp only; simp; omega, e.symm⟩
      · rw [if_neg hp] at e
        repeat' first | apply w_seq | apply w_block | apply rb_n | apply rb_ret | apply rb_eq | refine rb_ne (by rfl) ?_ | apply w_exit | apply rt_exit | apply w_region | apply l_nil | apply rt_n | apply w_ret | apply rt_ret | apply w_skip | refine w_cond_t rfl ?_ | refine w_cond_f rfl ?_ | ((first | refine w_cnd rfl ?_ ?_ | refine w_cd rfl ?_ ?_ | refine w_cn rfl ?_ ?_ | refine w_cond rfl ?_ ?_) <;> intro hc) | (exfalso; omega) | (refine l_o ?_; first | refine l_op (hk := ?_))
        refine rn_mk (k + 1, L) ?_ (by first | omega | (dsimp only; omega)) (le_eq (by (repeat' first | exact .nil | refine .keep ?_ | refine .any ?_); first | done | fail) rfl rfl)
        exact ⟨hk2, by dsimp only; omega, e.symm⟩
    · obtain rfl : k = h.length := by omega
      rw [List.take_length] at hL
      subst hL
      repeat' first | apply w_seq | apply w_block | apply rb_n | apply rb_ret | apply rb_eq | refine rb_ne (by rfl) ?_ | apply w_exit | apply rt_exit | apply w_region | apply l_nil | apply rt_n | apply w_ret | apply rt_ret | apply w_skip | refine w_cond_t rfl ?_ | refine w_cond_f rfl ?_ | ((first | refine w_cnd rfl ?_ ?_ | refine w_cd rfl ?_ ?_ | refine w_cn rfl ?_ ?_ | refine w_cond rfl ?_ ?_) <;> intro hc) | (exfalso; omega) | (refine l_o ?_; first | refine l_op (hk := ?_))
      refine en_end (hf := Tryz.results52) (hr := ?_); simp only [ne, nf, nl, nr, lget, reduceIte, Nat.reduceEqDiff]; first | rfl | refine congrArg RVb ?_ | refine congrArg RVi ?_ | skip
theorem together_ok (a p : List Int) (ha : a.length ≤ 1048576) (hp : p.length ≤ 1048576) : FCr Tryz.prog 74 [RIs a, RIs p] (OIs (togH a p)) := by
  have eX : [a, p].flatten = a ++ p := by simp
  have hXl : (a ++ p).length ≤ 2097152 := by simp; omega
  have hC := concat_ok [a, p] (by simp) (by rw [eX]; omega)
  rw [eX] at hC
  have hF := filled_okL (a ++ p) (by omega)
  have hfl := fillH_len (a ++ p)
  have hS := sortI_ok (fillH (a ++ p)) (by omega)
  rw [show srtI (fillH (a ++ p)) = togH a p from rfl] at hS
  have hlen : (fillH (a ++ p)).length = (togH a p).length := by rw [togH, srtI_len]
  generalize fillH (a ++ p) = Z at *
  generalize a ++ p = X at *
  generalize togH a p = Y at *
  refine (fcr_in Tryz.func74 rfl (by simp only [Tryz.ntmps74, anys, List.length_cons, List.length_nil, Nat.reduceAdd, Nat.reduceSub, List.replicate_succ, List.replicate_zero, List.cons_append, List.nil_append] <;> rfl) ?_)
  repeat' first | apply w_seq | apply w_region | apply l_nil | apply rt_n | apply w_ret | apply rt_ret | apply w_skip | (refine l_o ?_; first | refine l_op rfl (by first | (apply k_callf; first | exact ops_callP (d := 12) 10 (Y.map RVi) (hfc := hS) | exact ops_callv (d := 9) (hfc := hC) | exact ops_callv (d := 10) (hfc := hF) | fail) | fail) (hk := ?_) | refine l_op (hk := ?_))
  rw [hlen]
  refine en_end (hf := Tryz.results74) (hr := ?_); simp only [ne, nf, nl, nr, lget, reduceIte, Nat.reduceEqDiff]; first | rfl | refine congrArg RVb ?_ | refine congrArg RVi ?_ | skip
end Go.Proofs.YtmfbcipjknjicaaGreatDoor
