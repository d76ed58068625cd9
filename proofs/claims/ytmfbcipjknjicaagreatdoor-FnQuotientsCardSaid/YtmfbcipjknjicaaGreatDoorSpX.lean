/- The reference's boxes, signs and classes. For all arguments. -/
import Derived.Test.YtmfbcipjknjicaaGreatDoorJ27
import Derived.Test.YtmfbcipjknjicaaGreatDoorJ34
namespace Go.Proofs.YtmfbcipjknjicaaGreatDoor
open Eng
attribute [local irreducible] OpS OpG FC FCr Rel Fl Ef DR Fs
attribute [local simp] RV.fzR_names
set_option linter.unusedSimpArgs false
set_option linter.unusedVariables false
set_option maxHeartbeats 0
set_option maxRecDepth 100000

theorem sGoodBox_ok (s m : Int) : FCr Tryz.prog 35 [RBx s m] (RVb (goodB s m)) := by
  have h1 := l1In_ok s 1 6
  have h2 := l1In_ok m 1 6
  by_cases hs : 1 ≤ s ∧ s ≤ 6
  · rw [decide_eq_true hs.1, decide_eq_true hs.2] at h1
    by_cases hm : 1 ≤ m ∧ m ≤ 6
    · rw [decide_eq_true hm.1, decide_eq_true hm.2] at h2
      obtain ⟨a, rfl⟩ : ∃ a : Nat, s = a := ⟨s.toNat, by omega⟩
      obtain ⟨b, rfl⟩ : ∃ b : Nat, m = b := ⟨m.toNat, by omega⟩
      have hab : a * b ≤ 36 := Nat.mul_le_mul (show a ≤ 6 by omega) (show b ≤ 6 by omega)
      have hg : goodB (a : Int) (b : Int) = decide (((a * b : Nat) : Int) ≤ 6) := by
        simp only [goodB]
        rw [decide_eq_true hs.1, decide_eq_true hm.1, decide_eq_true hs.2, decide_eq_true hm.2, Int.natCast_mul]; rfl
      rw [hg]
      refine (fcr_in Tryz.func35 rfl (by simp only [Tryz.ntmps35, anys, List.length_cons, List.length_nil, Nat.reduceAdd, Nat.reduceSub, List.replicate_succ, List.replicate_zero, List.cons_append, List.nil_append] <;> rfl) ?_)
      repeat' first | apply w_seq | apply w_region | apply l_nil | apply rt_n | apply w_ret | apply rt_ret | apply w_skip | (exfalso; omega) | (refine l_o ?_; first | refine l_op rfl (by first | (apply k_mul; first | exact ops_muln (m := a) (n := b) rfl rfl (by omega) | fail) | (apply k_callf; first | exact ops_callf (d := 5) (hfc := h1) | exact ops_callf (d := 9) (hfc := h2) | fail) | fail) (hk := ?_) | refine l_op (hk := ?_) | (refine l_g ?_; first | refine l_y rfl rfl rfl ?_ | refine l_n rfl rfl rfl rfl (hk := ?_) | refine l_n' rfl rfl rfl (hk := ?_) | refine l_spnd rfl rfl rfl (h1 := fun hc => ?_) (h2 := fun hc => ?_) | refine l_spd rfl rfl rfl (h1 := fun hc => ?_) (h2 := fun hc => ?_) | refine l_spn rfl rfl rfl (h1 := fun hc => ?_) (h2 := fun hc => ?_) | refine l_sp rfl rfl rfl (h1 := fun hc => ?_) (h2 := fun hc => ?_)))
      refine en_one (hf := Tryz.results35) (h := ?_); simp only [lget]; first | refine congrArg RVb ?_ | refine congrArg RVi ?_ | skip
    · have hI : (decide (1 ≤ m) && decide (m ≤ 6)) = false := by
        cases hb : (decide (1 ≤ m) && decide (m ≤ 6)) with
        | false => rfl
        | true => simp only [Bool.and_eq_true, decide_eq_true_eq] at hb; exact absurd hb hm
      rw [hI] at h2
      have hg : goodB s m = false := by
        cases hb : goodB s m with
        | false => rfl
        | true =>
          simp only [goodB, Bool.and_eq_true, decide_eq_true_eq] at hb
          exact absurd ⟨hb.1.1.1.2, hb.1.2⟩ hm
      rw [hg]
      refine (fcr_in Tryz.func35 rfl (by simp only [Tryz.ntmps35, anys, List.length_cons, List.length_nil, Nat.reduceAdd, Nat.reduceSub, List.replicate_succ, List.replicate_zero, List.cons_append, List.nil_append] <;> rfl) ?_)
      repeat' first | apply w_seq | apply w_region | apply l_nil | apply rt_n | apply w_ret | apply rt_ret | apply w_skip | (refine l_o ?_; first | refine l_op rfl (by first | (apply k_callf; first | exact ops_callf (d := 5) (hfc := h1) | exact ops_callf (d := 9) (hfc := h2) | fail) | fail) (hk := ?_) | refine l_op (hk := ?_) | (refine l_g ?_; first | refine l_y rfl rfl rfl ?_ | refine l_n rfl rfl rfl rfl (hk := ?_) | refine l_n' rfl rfl rfl (hk := ?_) | refine l_spnd rfl rfl rfl (h1 := fun hc => ?_) (h2 := fun hc => ?_) | refine l_spd rfl rfl rfl (h1 := fun hc => ?_) (h2 := fun hc => ?_) | refine l_spn rfl rfl rfl (h1 := fun hc => ?_) (h2 := fun hc => ?_) | refine l_sp rfl rfl rfl (h1 := fun hc => ?_) (h2 := fun hc => ?_)))
      refine en_one (hf := Tryz.results35) (h := ?_); simp only [lget]; first | refine congrArg RVb ?_ | refine congrArg RVi ?_ | skip
  · have hI : (decide (1 ≤ s) && decide (s ≤ 6)) = false := by
      cases hb : (decide (1 ≤ s) && decide (s ≤ 6)) with
      | false => rfl
      | true => simp only [Bool.and_eq_true, decide_eq_true_eq] at hb; exact absurd hb hs
    rw [hI] at h1
    have hg : goodB s m = false := by
      cases hb : goodB s m with
      | false => rfl
      | true =>
        simp only [goodB, Bool.and_eq_true, decide_eq_true_eq] at hb
        exact absurd ⟨hb.1.1.1.1, hb.1.1.2⟩ hs
    rw [hg]
    refine (fcr_in Tryz.func35 rfl (by simp only [Tryz.ntmps35, anys, List.length_cons, List.length_nil, Nat.reduceAdd, Nat.reduceSub, List.replicate_succ, List.replicate_zero, List.cons_append, List.nil_append] <;> rfl) ?_)
    repeat' first | apply w_seq | apply w_region | apply l_nil | apply rt_n | apply w_ret | apply rt_ret | apply w_skip | (refine l_o ?_; first | refine l_op rfl (by first | (apply k_callf; first | exact ops_callf (d := 5) (hfc := h1) | fail) | fail) (hk := ?_) | refine l_op (hk := ?_) | (refine l_g ?_; first | refine l_y rfl rfl rfl ?_ | refine l_n rfl rfl rfl rfl (hk := ?_) | refine l_n' rfl rfl rfl (hk := ?_) | refine l_spnd rfl rfl rfl (h1 := fun hc => ?_) (h2 := fun hc => ?_) | refine l_spd rfl rfl rfl (h1 := fun hc => ?_) (h2 := fun hc => ?_) | refine l_spn rfl rfl rfl (h1 := fun hc => ?_) (h2 := fun hc => ?_) | refine l_sp rfl rfl rfl (h1 := fun hc => ?_) (h2 := fun hc => ?_)))
    refine en_one (hf := Tryz.results35) (h := ?_); simp only [lget]; first | refine congrArg RVb ?_ | refine congrArg RVi ?_ | skip
theorem sHeaps_ok {s : Nat} (hs : s ≤ 6) : ∀ (k n : Nat), k ≤ 6 → n ≤ 100 → FCr Tryz.prog 94 [RVn k, RVn n, RVn s] (.ow 1 ((lstB s k n).map RIs))
  | 0, n, _, _ => by
    refine (fcr_in Tryz.func94 rfl (by simp only [Tryz.ntmps94, anys, List.length_cons, List.length_nil, Nat.reduceAdd, Nat.reduceSub, List.replicate_succ, List.replicate_zero, List.cons_append, List.nil_append] <;> rfl) ?_)
    repeat' first | apply w_seq | apply w_block | apply rb_n | apply rb_ret | apply rb_eq | refine rb_ne (by rfl) ?_ | apply w_exit | apply rt_exit | apply w_region | apply l_nil | apply rt_n | apply w_ret | apply rt_ret | apply w_skip | refine w_cond_t rfl ?_ | refine w_cond_f rfl ?_ | ((first | refine w_cnd rfl ?_ ?_ | refine w_cd rfl ?_ ?_ | refine w_cn rfl ?_ ?_ | refine w_cond rfl ?_ ?_) <;> intro hc) | (exfalso; omega) | (refine l_o ?_; first | refine l_eqnil rfl (by kernel_rfl) (by intro b; simp only [nz]; rfl) (fun b hb => ?_) | refine l_op rfl (by first | (apply k_buildSlice; first | exact ops_buildSlice_fz (d := some 13) (k := 1) rfl rfl rfl (by decide) (by decide) (by kernel_rfl) (by decide +kernel) rfl | fail) | fail) (hk := ?_) | refine l_op (hk := ?_))
    refine en_end (hf := Tryz.results94) (hr := ?_); simp only [ne, nf, nl, nr, lget, reduceIte, Nat.reduceEqDiff]; first | rfl | refine congrArg RVb ?_ | refine congrArg RVi ?_ | skip
  | k + 1, n, hk, hn => by
    have ih := sHeaps_ok hs k
    have hb := fun n => lstB_len hs k n
    have hpk : 7 ^ k ≤ 7 ^ 6 := Nat.pow_le_pow_right (by omega) (by omega)
    rw [lstB_succ]
    refine (fcr_in Tryz.func94 rfl (by simp only [Tryz.ntmps94, anys, List.length_cons, List.length_nil, Nat.reduceAdd, Nat.reduceSub, List.replicate_succ, List.replicate_zero, List.cons_append, List.nil_append] <;> rfl) ?_)
    repeat' first | apply w_seq | apply w_block | apply rb_n | apply rb_ret | apply rb_eq | refine rb_ne (by rfl) ?_ | apply w_exit | apply rt_exit | apply w_region | apply l_nil | apply rt_n | apply w_ret | apply rt_ret | apply w_skip | refine w_cond_t rfl ?_ | refine w_cond_f rfl ?_ | ((first | refine w_cnd rfl ?_ ?_ | refine w_cd rfl ?_ ?_ | refine w_cn rfl ?_ ?_ | refine w_cond rfl ?_ ?_) <;> intro hc) | (exfalso; omega) | (refine l_o ?_; first | refine l_eqnil rfl (by kernel_rfl) (by intro b; simp only [nz]; rfl) (fun b hb => ?_) | refine l_op (hk := ?_))
    refine w_loopm (ι := Nat × List (List Int)) (fun q => [(8, RVn (n + q.1)), (7, .ref 15 0 q.2.length), (15, .any), (9, .any), (10, .any)]) (fun q => [(15, 1, q.2.map RIs)]) (fun q => q.1 ≤ s + 1 - n ∧ q.2 = lstT s k n q.1 ∧ q.2.length ≤ q.1 * 117649) (fun q => s + 1 - n - q.1) (0, []) (h0 := ?_) (hs := ?_) (round := ?_)
    · exact ⟨Nat.zero_le _, by simp [lstT], by simp⟩
    · refine le_eq (by (repeat' first | exact .nil | refine .keep ?_ | refine .any ?_); first | done | fail) rfl rfl
    · intro ⟨j, L⟩ ⟨hj, hL, hLl⟩
      dsimp only at hj hL hLl ⊢
      by_cases hj2 : j < s + 1 - n
      · have hcl := ih (n + j) (by omega) (by omega)
        have hM := hb (n + j)
        have hsu := lstT_succ s k n j
        rw [← hL] at hsu
        have hMm2 : ∀ l ∈ lstB s k (n + j), l.length = k := fun l h => (lstB_mem h).1
        generalize lstB s k (n + j) = M at *
        repeat' first | apply w_seq | apply w_block | apply rb_n | apply rb_ret | apply rb_eq | refine rb_ne (by rfl) ?_ | apply w_exit | apply rt_exit | apply w_region | apply l_nil | apply rt_n | apply w_ret | apply rt_ret | apply w_skip | refine w_cond_t rfl ?_ | refine w_cond_f rfl ?_ | ((first | refine w_cnd rfl ?_ ?_ | refine w_cd rfl ?_ ?_ | refine w_cn rfl ?_ ?_ | refine w_cond rfl ?_ ?_) <;> intro hc) | (exfalso; omega) | (refine l_o ?_; first | refine l_eqnil rfl (by kernel_rfl) (by intro b; simp only [nz]; rfl) (fun b hb => ?_) | refine l_op rfl (by first | (apply k_sub; first | exact ops_pred (a := k) rfl (by omega) | fail) | (apply k_callf; first | exact ops_callf (d := 26) (hfc := hcl) | fail) | fail) (hk := ?_) | refine l_op (hk := ?_))
        refine w_loopm (ι := Nat × List (List Int)) (fun q => [(10, RVn q.1), (7, .ref 15 0 q.2.length)]) (fun q => [(15, 1, q.2.map RIs)]) (fun q => q.1 ≤ M.length ∧ q.2.length = L.length + q.1 ∧ q.2 = L ++ (M.take q.1).map (fun l => ((n + j : Nat) : Int) :: l)) (fun q => M.length - q.1) (0, L) (h0 := ?_) (hs := ?_) (round := ?_)
        · exact ⟨Nat.zero_le _, rfl, by simp⟩
        · refine le_eq (by (repeat' first | exact .nil | refine .keep ?_ | refine .any ?_); first | done | fail) rfl rfl
        · intro ⟨i, L2⟩ ⟨hi, hl2, hL2⟩
          dsimp only at hi hl2 hL2 ⊢
          by_cases hi2 : i < M.length
          · have hrl : M[i].length ≤ 10 := by
              have := hMm2 _ (List.getElem_mem hi2)
              omega
            repeat' first | apply w_seq | apply w_block | apply rb_n | apply rb_ret | apply rb_eq | refine rb_ne (by rfl) ?_ | apply w_exit | apply rt_exit | apply w_region | apply l_nil | apply rt_n | apply w_ret | apply rt_ret | apply w_skip | refine w_cond_t rfl ?_ | refine w_cond_f rfl ?_ | ((first | refine w_cnd rfl ?_ ?_ | refine w_cd rfl ?_ ?_ | refine w_cn rfl ?_ ?_ | refine w_cond rfl ?_ ?_) <;> intro hc) | (exfalso; omega) | (refine l_at_buildSlice (d := some 41) ?_; refine l_le _ (le_freeze 35 rfl (by simp only [nz, nf, nl, nb, nr, ng, nq, nu, reduceIte, Nat.reduceEqDiff, Nat.reduceAdd]; rfl) (by simp only [nz, nf, nl, nb, nr, ng, nq, nu, reduceIte, Nat.reduceEqDiff, Nat.reduceAdd]; rfl)) ?_) | (refine l_o ?_; first | refine l_eqnil rfl (by kernel_rfl) (by intro b; simp only [nz]; rfl) (fun b hb => ?_) | refine l_op (hk := ?_))
            have e : List.map RIs L2 ++ [RV.sh (RV.fzL ([RVn (n + j)] ++ List.map RVi M[i]))] = (L2 ++ [((n + j : Nat) : Int) :: M[i]]).map RIs := by
              rw [List.map_append, show [RVn (n + j)] ++ List.map RVi M[i] = (((n + j : Nat) : Int) :: M[i]).map RVi from rfl, fz_RIs]; rfl
            rw [e, List.length_map]
            refine rn_mk (i + 1, L2 ++ [((n + j : Nat) : Int) :: M[i]]) ?_ (by first | omega | (dsimp only; omega)) (le_eq (by (repeat' first | exact .nil | refine .keep ?_ | refine .any ?_); first | done | fail) rfl rfl)
            refine ⟨hi2, by dsimp only; simp; omega, ?_⟩
            dsimp only
            rw [hL2, List.take_succ_eq_append_getElem hi2, List.map_append, List.append_assoc]; rfl
          · obtain rfl : i = M.length := by omega
            rw [List.take_length, ← hsu] at hL2
            repeat' first | apply w_seq | apply w_block | apply rb_n | apply rb_ret | apply rb_eq | refine rb_ne (by rfl) ?_ | apply w_exit | apply rt_exit | apply w_region | apply l_nil | apply rt_n | apply w_ret | apply rt_ret | apply w_skip | refine w_cond_t rfl ?_ | refine w_cond_f rfl ?_ | ((first | refine w_cnd rfl ?_ ?_ | refine w_cd rfl ?_ ?_ | refine w_cn rfl ?_ ?_ | refine w_cond rfl ?_ ?_) <;> intro hc) | (exfalso; omega) | (refine l_o ?_; first | refine l_eqnil rfl (by kernel_rfl) (by intro b; simp only [nz]; rfl) (fun b hb => ?_) | refine l_op (hk := ?_))
            refine rn_mk (j + 1, L2) ?_ (by first | omega | (dsimp only; omega)) (le_eq (by (repeat' first | exact .nil | refine .keep ?_ | refine .any ?_); first | done | fail) rfl rfl)
            exact ⟨hj2, hL2, by dsimp only; omega⟩
      · obtain rfl : j = s + 1 - n := by omega
        rw [← hL]
        repeat' first | apply w_seq | apply w_block | apply rb_n | apply rb_ret | apply rb_eq | refine rb_ne (by rfl) ?_ | apply w_exit | apply rt_exit | apply w_region | apply l_nil | apply rt_n | apply w_ret | apply rt_ret | apply w_skip | refine w_cond_t rfl ?_ | refine w_cond_f rfl ?_ | ((first | refine w_cnd rfl ?_ ?_ | refine w_cd rfl ?_ ?_ | refine w_cn rfl ?_ ?_ | refine w_cond rfl ?_ ?_) <;> intro hc) | (exfalso; omega) | (refine l_o ?_; first | refine l_eqnil rfl (by kernel_rfl) (by intro b; simp only [nz]; rfl) (fun b hb => ?_) | refine l_op (hk := ?_))
        refine en_end (hf := Tryz.results94) (hr := ?_); simp only [ne, nf, nl, nr, lget, reduceIte, Nat.reduceEqDiff]; first | rfl | refine congrArg RVb ?_ | refine congrArg RVi ?_ | skip
theorem sAll_ok {s m : Nat} (hs : s ≤ 6) (hm : m ≤ 6) : FCr Tryz.prog 70 [RBx s m] (.ow 1 ((posB s m).map RIs)) := by
  have hl := posT_len hs
  have hL1 := fun j (hj : j ≤ 6) => sHeaps_ok hs j 1 hj (by omega)
  have hb := fun j => lstB_len hs j 1
  refine (fcr_in Tryz.func70 rfl (by simp only [Tryz.ntmps70, anys, List.length_cons, List.length_nil, Nat.reduceAdd, Nat.reduceSub, List.replicate_succ, List.replicate_zero, List.cons_append, List.nil_append] <;> rfl) ?_)
  repeat' first | apply w_seq | apply w_block | apply rb_n | apply rb_ret | apply rb_eq | refine rb_ne (by rfl) ?_ | apply w_exit | apply rt_exit | apply w_region | apply l_nil | apply rt_n | apply w_ret | apply rt_ret | apply w_skip | refine w_cond_t rfl ?_ | refine w_cond_f rfl ?_ | ((first | refine w_cnd rfl ?_ ?_ | refine w_cd rfl ?_ ?_ | refine w_cn rfl ?_ ?_ | refine w_cond rfl ?_ ?_) <;> intro hc) | (refine l_o ?_; first | refine l_op (hk := ?_))
  refine w_loopm (ι := Nat × List (List Int)) (fun q => [(4, RVn q.1), (3, .ref 7 0 q.2.length), (7, .any), (5, .any), (6, .any)]) (fun q => [(7, 1, q.2.map RIs), (1, 2, [RBx s m])]) (fun q => q.1 ≤ m + 1 ∧ q.2 = posT s q.1) (fun q => m + 1 - q.1) (0, []) (h0 := ?_) (hs := ?_) (round := ?_)
  · exact ⟨Nat.zero_le _, by simp [posT]⟩
  · refine le_eq (by (repeat' first | exact .nil | refine .keep ?_ | refine .any ?_); first | done | fail) rfl rfl
  · intro ⟨j, L⟩ ⟨hj, hL⟩
    dsimp only at hj hL ⊢
    by_cases hj2 : j < m + 1
    · have hLl := hl j (by omega)
      rw [← hL] at hLl
      have hcl := hL1 j (by omega)
      have hbl := hb j
      have hpk : 7 ^ j ≤ 7 ^ 6 := Nat.pow_le_pow_right (by omega) (by omega)
      have hsu := posT_succ s j
      rw [← hL] at hsu
      generalize lstB s j 1 = M at *
      repeat' first | apply w_seq | apply w_block | apply rb_n | apply rb_ret | apply rb_eq | refine rb_ne (by rfl) ?_ | apply w_exit | apply rt_exit | apply w_region | apply l_nil | apply rt_n | apply w_ret | apply rt_ret | apply w_skip | refine w_cond_t rfl ?_ | refine w_cond_f rfl ?_ | ((first | refine w_cnd rfl ?_ ?_ | refine w_cd rfl ?_ ?_ | refine w_cn rfl ?_ ?_ | refine w_cond rfl ?_ ?_) <;> intro hc) | (exfalso; omega) | (refine l_o ?_; first | refine l_op rfl (by first | (apply k_callf; first | exact ops_callf (d := 17) (hfc := hcl) | fail) | fail) (hk := ?_) | refine l_op (hk := ?_))
      refine w_loopm (ι := Nat × List (List Int)) (fun q => [(6, RVn q.1), (3, .ref 7 0 q.2.length)]) (fun q => [(7, 1, q.2.map RIs), (1, 2, [RBx s m])]) (fun q => q.1 ≤ M.length ∧ q.2.length = L.length + q.1 ∧ q.2 = L ++ M.take q.1) (fun q => M.length - q.1) (0, L) (h0 := ?_) (hs := ?_) (round := ?_)
      · exact ⟨Nat.zero_le _, rfl, by simp⟩
      · refine le_eq (by (repeat' first | exact .nil | refine .keep ?_ | refine .any ?_); first | done | fail) rfl rfl
      · intro ⟨i, L2⟩ ⟨hi, hl2, hL2⟩
        dsimp only at hi hl2 hL2 ⊢
        by_cases hi2 : i < M.length
        · repeat' first | apply w_seq | apply w_block | apply rb_n | apply rb_ret | apply rb_eq | refine rb_ne (by rfl) ?_ | apply w_exit | apply rt_exit | apply w_region | apply l_nil | apply rt_n | apply w_ret | apply rt_ret | apply w_skip | refine w_cond_t rfl ?_ | refine w_cond_f rfl ?_ | ((first | refine w_cnd rfl ?_ ?_ | refine w_cd rfl ?_ ?_ | refine w_cn rfl ?_ ?_ | refine w_cond rfl ?_ ?_) <;> intro hc) | (exfalso; omega) | (refine l_o ?_; first | refine l_op (hk := ?_))
          refine rn_mk (i + 1, L2 ++ [M[i]]) ?_ (by first | omega | (dsimp only; omega)) (le_eq (by (repeat' first | exact .nil | refine .keep ?_ | refine .any ?_); first | done | fail) rfl rfl)
          refine ⟨hi2, by dsimp only; simp; omega, ?_⟩
          dsimp only
          rw [hL2, List.take_succ_eq_append_getElem hi2, List.append_assoc]
        · obtain rfl : i = M.length := by omega
          rw [List.take_length, ← hsu] at hL2
          repeat' first | apply w_seq | apply w_block | apply rb_n | apply rb_ret | apply rb_eq | refine rb_ne (by rfl) ?_ | apply w_exit | apply rt_exit | apply w_region | apply l_nil | apply rt_n | apply w_ret | apply rt_ret | apply w_skip | refine w_cond_t rfl ?_ | refine w_cond_f rfl ?_ | ((first | refine w_cnd rfl ?_ ?_ | refine w_cd rfl ?_ ?_ | refine w_cn rfl ?_ ?_ | refine w_cond rfl ?_ ?_) <;> intro hc) | (exfalso; omega) | (refine l_o ?_; first | refine l_op (hk := ?_))
          refine rn_mk (j + 1, L2) ?_ (by first | omega | (dsimp only; omega)) (le_eq (by (repeat' first | exact .nil | refine .keep ?_ | refine .any ?_); first | done | fail) rfl rfl)
          exact ⟨hj2, hL2⟩
    · obtain rfl : j = m + 1 := by omega
      repeat' first | apply w_seq | apply w_block | apply rb_n | apply rb_ret | apply rb_eq | refine rb_ne (by rfl) ?_ | apply w_exit | apply rt_exit | apply w_region | apply l_nil | apply rt_n | apply w_ret | apply rt_ret | apply w_skip | refine w_cond_t rfl ?_ | refine w_cond_f rfl ?_ | ((first | refine w_cnd rfl ?_ ?_ | refine w_cd rfl ?_ ?_ | refine w_cn rfl ?_ ?_ | refine w_cond rfl ?_ ?_) <;> intro hc) | (exfalso; omega) | (refine l_o ?_; first | refine l_op (hk := ?_))
      refine en_end (hf := Tryz.results70) (hr := ?_); simp only [ne, nf, nl, nr, lget, reduceIte, Nat.reduceEqDiff]; first | rfl | refine congrArg RVb ?_ | refine congrArg RVi ?_ | skip
      rw [hL]; rfl
theorem sSame_ok (a b : List Bool) (hl : a.length = b.length) : FCr Tryz.prog 95 [RBs a, RBs b] (RVb (decide (a = b))) := by
  refine fcr_lens fun hL => ?_
  simp only [lnk] at hL
  refine (fcr_in Tryz.func95 rfl (by simp only [Tryz.ntmps95, anys, List.length_cons, List.length_nil, Nat.reduceAdd, Nat.reduceSub, List.replicate_succ, List.replicate_zero, List.cons_append, List.nil_append] <;> rfl) ?_)
  repeat' first | apply w_seq | apply w_block | apply rb_n | apply rb_ret | apply rb_eq | refine rb_ne (by rfl) ?_ | apply w_exit | apply rt_exit | apply w_region | apply l_nil | apply rt_n | apply w_ret | apply rt_ret | apply w_skip | refine w_cond_t rfl ?_ | refine w_cond_f rfl ?_ | ((first | refine w_cnd rfl ?_ ?_ | refine w_cd rfl ?_ ?_ | refine w_cn rfl ?_ ?_ | refine w_cond rfl ?_ ?_) <;> intro hc) | (refine l_o ?_; first | refine l_op (hk := ?_)) | refine d_nil ?_ | (refine d_o ?_; first | refine d_fl (hk := ?_) | refine d_ef (hk := ?_)) | (refine w_o ?_; first | refine w_draw (id := 4) (fun _ => true) (fun k => [].contains k) [] 64 (by kernel_rfl) rfl (by kernel_rfl) (by simp [nm, nset, -List.map_take, -List.map_drop]) ?_)
  refine w_loopm (ι := Nat) (fun k => [(5, RVn k)]) (fun _ => []) (fun k => k ≤ a.length ∧ ((a.drop k = b.drop k) ↔ a = b)) (fun k => a.length - k) 0 (h0 := ?_) (hs := ?_) (round := ?_)
  · simp
  · refine le_eq (by (repeat' first | exact .nil | refine .keep ?_ | refine .any ?_); first | done | fail) rfl rfl
  · intro k ⟨hk, hg⟩
    by_cases h1 : k < a.length
    · rw [drop_both h1 (by omega)] at hg
      by_cases he : a[k] = b[k]
      · repeat' first | apply w_seq | apply w_block | apply rb_n | apply rb_ret | apply rb_eq | refine rb_ne (by rfl) ?_ | apply w_exit | apply rt_exit | apply w_region | apply l_nil | apply rt_n | apply w_ret | apply rt_ret | apply w_skip | refine w_cond_t rfl ?_ | refine w_cond_f rfl ?_ | ((first | refine w_cnd rfl ?_ ?_ | refine w_cd rfl ?_ ?_ | refine w_cn rfl ?_ ?_ | refine w_cond rfl ?_ ?_) <;> intro hc) | (exfalso; omega) | (exfalso; exact hc he) | (exfalso; exact he hc) | (refine l_o ?_; first | refine l_op (hk := ?_)) | refine d_nil ?_ | (refine d_o ?_; first | refine d_fl (hk := ?_) | refine d_ef (hk := ?_)) | (refine w_o ?_; first | refine w_draw (id := 4) (fun _ => true) (fun k => [].contains k) [] 64 (by kernel_rfl) rfl (by kernel_rfl) (by simp [nm, nset, -List.map_take, -List.map_drop]) ?_)
        refine rn_mk (k + 1) ?_ (by first | omega | (dsimp only; omega)) (le_eq (by (repeat' first | exact .nil | refine .keep ?_ | refine .any ?_); first | done | fail) rfl rfl)
        exact ⟨by omega, by rw [← hg]; simp [he]⟩
      · have : a ≠ b := fun e => he (hg.2 e).1
        repeat' first | apply w_seq | apply w_block | apply rb_n | apply rb_ret | apply rb_eq | refine rb_ne (by rfl) ?_ | apply w_exit | apply rt_exit | apply w_region | apply l_nil | apply rt_n | apply w_ret | apply rt_ret | apply w_skip | refine w_cond_t rfl ?_ | refine w_cond_f rfl ?_ | ((first | refine w_cnd rfl ?_ ?_ | refine w_cd rfl ?_ ?_ | refine w_cn rfl ?_ ?_ | refine w_cond rfl ?_ ?_) <;> intro hc) | (exfalso; omega) | (exfalso; exact hc he) | (exfalso; exact he hc) | (refine l_o ?_; first | refine l_op (hk := ?_)) | refine d_nil ?_ | (refine d_o ?_; first | refine d_fl (hk := ?_) | refine d_ef (hk := ?_)) | (refine w_o ?_; first | refine w_draw (id := 4) (fun _ => true) (fun k => [].contains k) [] 64 (by kernel_rfl) rfl (by kernel_rfl) (by simp [nm, nset, -List.map_take, -List.map_drop]) ?_)
        refine en_one (hf := Tryz.results95) (h := ?_); simp only [lget]; first | refine congrArg RVb ?_ | refine congrArg RVi ?_ | skip
        simp [this]
    · rw [List.drop_eq_nil_of_le (by omega), List.drop_eq_nil_of_le (by omega)] at hg
      have := hg.1 rfl
      repeat' first | apply w_seq | apply w_block | apply rb_n | apply rb_ret | apply rb_eq | refine rb_ne (by rfl) ?_ | apply w_exit | apply rt_exit | apply w_region | apply l_nil | apply rt_n | apply w_ret | apply rt_ret | apply w_skip | refine w_cond_t rfl ?_ | refine w_cond_f rfl ?_ | ((first | refine w_cnd rfl ?_ ?_ | refine w_cd rfl ?_ ?_ | refine w_cn rfl ?_ ?_ | refine w_cond rfl ?_ ?_) <;> intro hc) | (exfalso; omega) | (refine l_o ?_; first | refine l_op (hk := ?_)) | refine d_nil ?_ | (refine d_o ?_; first | refine d_fl (hk := ?_) | refine d_ef (hk := ?_)) | (refine w_o ?_; first | refine w_draw (id := 4) (fun _ => true) (fun k => [].contains k) [] 64 (by kernel_rfl) rfl (by kernel_rfl) (by simp [nm, nset, -List.map_take, -List.map_drop]) ?_)
      refine en_one (hf := Tryz.results95) (h := ?_); simp only [lget]; first | refine congrArg RVb ?_ | refine congrArg RVi ?_ | skip
      simp [this]
theorem srt0_tog {h p : List Int} (hh : ∀ x ∈ h, 0 ≤ x) (hp : ∀ x ∈ p, 0 ≤ x) : srt0 (h ++ p) = togH h p := by
  unfold srt0 togH fillH
  congr 1
  refine List.filter_congr fun x hx => ?_
  have : 0 ≤ x := by
    rcases List.mem_append.1 hx with hx | hx
    · exact hh x hx
    · exact hp x hx
  simp only [ne_eq, decide_eq_decide]; omega
theorem sSigns_ok {c : List Int} (hcg : gcode c = true) {s m : Nat} (hs : s ≤ 6) (hm : m ≤ 6) {h : List Int} (hg : ghp h = true) (hsum : h.sum + ((s * m : Nat) : Int) ≤ 20) {B : Bok} (hB : bookOk c B.1 B.2) : ∃ B' : Bok, bookOk c B'.1 B'.2 ∧ FC Tryz.prog 72 [.ptr 1000000000000 0 0, RBx s m, RIs h] (BK c B.1 B.2) fun rv O => rv = .ow 1 ((sgnB c s m h).map RVb) ∧ O = BK c B'.1 B'.2 := by
  obtain ⟨nx, hnx⟩ := bx_all hcg
  have hP := sAll_ok hs hm
  have hvl : ∀ p ∈ posB s m, vld (togH h p) 0 0 := fun p hp => togH_vld hg hp hsum
  have hpl : (posB s m).length ≤ 1000000 := by have := posT_len hs (m + 1) (by omega); unfold posB; omega
  have hpm : ∀ p ∈ posB s m, p.length ≤ 20 ∧ ∀ x ∈ p, 0 ≤ x := fun p hp => by
    have := posB_mem hp
    exact ⟨by omega, fun x hx => by have := this.2.1 x hx; omega⟩
  have hgh : h.length ≤ 20 ∧ ∀ x ∈ h, 0 ≤ x := by
    simp only [ghp, Bool.and_eq_true, decide_eq_true_eq] at hg
    exact ⟨hg.1, fun x hx => ((ghpF_pos hg.2).1 x hx).1⟩
  have hsg : sgnB c s m h = sgnP c (posB s m) h := rfl
  rw [hsg]
  generalize posB s m = P at *
  refine ⟨bkL nx 0 0 (P.map (togH h)) B, bkL_ok hnx hB _ fun p hp => by obtain ⟨q, hq, rfl⟩ := List.mem_map.1 hp; exact hvl q hq, ?_⟩
  obtain ⟨K, V⟩ := B
  dsimp only at hB ⊢
  have hbk : ∀ k, bookOk c (bkL nx 0 0 ((P.take k).map (togH h)) (K, V)).1 (bkL nx 0 0 ((P.take k).map (togH h)) (K, V)).2 := fun k => bkL_ok hnx (B := (K, V)) hB _ fun p hp => by
    obtain ⟨q, hq, rfl⟩ := List.mem_map.1 hp; exact hvl q (List.mem_of_mem_take hq)
  have hbs : ∀ k, (hk : k < P.length) → bkL nx 0 0 ((P.take (k + 1)).map (togH h)) (K, V) = nx (togH h P[k]) 0 0 (bkL nx 0 0 ((P.take k).map (togH h)) (K, V)) := fun k hk => by
    rw [List.take_succ_eq_append_getElem hk, List.map_append]
    exact bkL_snoc _ _ _ _ _ _
  refine (fc_in Tryz.func72 rfl (by simp only [Tryz.ntmps72, anys, List.length_cons, List.length_nil, Nat.reduceAdd, Nat.reduceSub, List.replicate_succ, List.replicate_zero, List.cons_append, List.nil_append] <;> rfl) ?_)
  repeat' first | apply w_seq | apply w_block | apply rb_n | apply rb_ret | apply rb_eq | refine rb_ne (by rfl) ?_ | apply w_exit | apply rt_exit | apply w_region | apply l_nil | apply rt_n | apply w_ret | apply rt_ret | apply w_skip | refine w_cond_t rfl ?_ | refine w_cond_f rfl ?_ | ((first | refine w_cnd rfl ?_ ?_ | refine w_cd rfl ?_ ?_ | refine w_cn rfl ?_ ?_ | refine w_cond rfl ?_ ?_) <;> intro hc) | (refine l_o ?_; first | refine l_op rfl (by first | (apply k_callf; first | exact ops_callf (d := 13) (hfc := hP) | fail) | fail) (hk := ?_) | refine l_op (hk := ?_)) | refine d_nil ?_ | (refine d_o ?_; first | refine d_fl (hk := ?_) | refine d_ef rfl (by first | exact .callf (d := 13) (hfc := hP) | fail) (hk := ?_) | refine d_ef (hk := ?_)) | (refine w_o ?_; first | refine w_draw (id := 6) (fun _ => true) (fun k => [0, 2, 7, 8].contains k) [[], [], [], []] 64 (by kernel_rfl) rfl (by kernel_rfl) (by simp [nm, nset, -List.map_take, -List.map_drop]) ?_)
  refine w_le _ (le_perm [1000000000000, 1000000000001, 1000000000002, 11, 4] rfl rfl) ?_
  refine w_loopm (ι := Nat × List Bool × Bok) (fun q => [(9, RVn q.1), (7, .ref 11 0 q.2.1.length), (11, .any), (10, .any)]) (fun q => [(1000000000000, 3, [.agg [RIs c, .ref 1000000000001 0 8192, .ref 1000000000002 0 8192]]), (1000000000001, 1, q.2.2.1.map RVi), (1000000000002, 1, q.2.2.2.map RVi), (11, 1, q.2.1.map RVb), (4, 2, [RBx s m])]) (fun q => q.1 ≤ P.length ∧ q.2.1.length = q.1 ∧ q.2.1 = sgnP c (P.take q.1) h ∧ q.2.2 = bkL nx 0 0 ((P.take q.1).map (togH h)) (K, V)) (fun q => P.length - q.1) (0, [], K, V) (h0 := ?_) (hs := ?_) (round := ?_)
  · exact ⟨Nat.zero_le _, rfl, rfl, rfl⟩
  · refine le_eq (by (repeat' first | exact .nil | refine .keep ?_ | refine .any ?_); first | done | fail) rfl rfl
  · intro ⟨k, L, K1, V1⟩ ⟨hk, hLl, hL, hB1⟩
    dsimp only at hk hLl hL hB1 ⊢
    by_cases hk2 : k < P.length
    · have hb1 := hbk k
      have hbsk := hbs k hk2
      rw [← hB1] at hb1 hbsk
      have hcall := (hnx _ 0 0 (K1, V1) (hvl _ (List.getElem_mem hk2)) hb1).2
      have hpk := hpm _ (List.getElem_mem hk2)
      have hS := l17Sorted_ok (h ++ P[k]) (by simp; omega)
      rw [srt0_tog hgh.2 hpk.2] at hS
      have hsk : sgnP c (P.take (k + 1)) h = L ++ [decide (mv c (togH h P[k]) 0 0 ≠ 0)] := by
        rw [hL, sgnP, sgnP, List.take_succ_eq_append_getElem hk2, List.map_append]; rfl
      unfold SVC at hcall
      dsimp only at hcall
      generalize nx (togH h P[k]) 0 0 (K1, V1) = B4 at *
      obtain ⟨K4, V4⟩ := B4
      dsimp only at hcall
      generalize mv c (togH h P[k]) 0 0 = v at *
      generalize togH h P[k] = Y at *
      repeat' first | apply w_seq | apply w_block | apply rb_n | apply rb_ret | apply rb_eq | refine rb_ne (by rfl) ?_ | apply w_exit | apply rt_exit | apply w_region | apply l_nil | apply rt_n | apply w_ret | apply rt_ret | apply w_skip | refine w_cond_t rfl ?_ | refine w_cond_f rfl ?_ | ((first | refine w_cnd rfl ?_ ?_ | refine w_cd rfl ?_ ?_ | refine w_cn rfl ?_ ?_ | refine w_cond rfl ?_ ?_) <;> intro hc) | (exfalso; omega) | (refine l_o ?_; first | refine l_op rfl (by first | (apply k_callf; first | exact ops_callG (d := 32) [1000000000000, 1000000000001, 1000000000002] [] (BK c K4 V4) (hfc := hcall) | exact ops_callz (d := 28) (hfc := hS) | fail) | fail) (hk := ?_) | refine l_op (hk := ?_)) | refine d_nil ?_ | (refine d_o ?_; first | refine d_fl (hk := ?_) | refine d_ef rfl (by first | exact .callG (d := 32) [1000000000000, 1000000000001, 1000000000002] (BK c K4 V4) (hfc := hcall) | exact .callz (d := 28) (hfc := hS) | fail) (hk := ?_) | refine d_ef (hk := ?_)) | (refine w_o ?_; first | refine w_draw (id := 6) (roL []) (fun k => [0, 2, 7, 8, 9].contains k) [[20],[22],[27],[],[]] 64 (by kernel_rfl) rfl (by kernel_rfl) (by simp [nm, nset, -List.map_take, -List.map_drop]) ?_)
      refine rn_mk (k + 1, L ++ [decide (v ≠ 0)], K4, V4) ?_ (by first | omega | (dsimp only; omega)) (le_dropd 27 (by simp only [nz]; rfl) (by simp only [nz, reduceIte, Nat.reduceEqDiff] <;> rfl) (le_eq (by (repeat' first | exact .nil | refine .keep ?_ | refine .any ?_); first | done | fail) rfl rfl))
      exact ⟨hk2, by simp [hLl], hsk.symm, hbsk.symm⟩
    · obtain rfl : k = P.length := by omega
      rw [List.take_length] at hL hB1
      repeat' first | apply w_seq | apply w_block | apply rb_n | apply rb_ret | apply rb_eq | refine rb_ne (by rfl) ?_ | apply w_exit | apply rt_exit | apply w_region | apply l_nil | apply rt_n | apply w_ret | apply rt_ret | apply w_skip | refine w_cond_t rfl ?_ | refine w_cond_f rfl ?_ | ((first | refine w_cnd rfl ?_ ?_ | refine w_cd rfl ?_ ?_ | refine w_cn rfl ?_ ?_ | refine w_cond rfl ?_ ?_) <;> intro hc) | (exfalso; omega) | (refine l_o ?_; first | refine l_op (hk := ?_)) | refine d_nil ?_ | (refine d_o ?_; first | refine d_fl (hk := ?_) | refine d_ef (hk := ?_)) | (refine w_o ?_; first | refine w_draw (id := 6) (fun _ => true) (fun k => [0, 2, 7, 8].contains k) [[], [], [], []] 64 (by kernel_rfl) rfl (by kernel_rfl) (by simp [nm, nset, -List.map_take, -List.map_drop]) ?_)
      rw [← hL, ← hB1]
      refine en_le _ (le_perm [11, 4, 1000000000000, 1000000000001, 1000000000002] rfl rfl) ?_
      refine en_endm ([(4, 2, [RBx s m])]) (hf := Tryz.results72) (hO := ?_) (hr := ?_)
      · rfl
      · simp [nz, ne, sealG, lget, seal2, packR]
def SSC (c : List Int) (s m : Nat) (h : List Int) (B B' : Bok) : Prop := FC Tryz.prog 72 [.ptr 1000000000000 0 0, RBx s m, RIs h] (BK c B.1 B.2) fun rv O => rv = .ow 1 ((sgnB c s m h).map RVb) ∧ O = BK c B'.1 B'.2
theorem tx_all {c : List Int} (hcg : gcode c = true) {s m : Nat} (hs : s ≤ 6) (hm : m ≤ 6) : ∃ tx : List Int → Bok → Bok, ∀ h B, okS s m h → bookOk c B.1 B.2 → bookOk c (tx h B).1 (tx h B).2 ∧ SSC c s m h B (tx h B) := by
  classical
  refine ⟨fun h B => if H : ∃ B' : Bok, bookOk c B'.1 B'.2 ∧ SSC c s m h B B' then H.choose else B, fun h B h1 h2 => ?_⟩
  have H : ∃ B' : Bok, bookOk c B'.1 B'.2 ∧ SSC c s m h B B' := sSigns_ok hcg hs hm h1.1 h1.2 h2
  dsimp only
  rw [dif_pos H]
  exact H.choose_spec
def clsT (c : List Int) (s m : Nat) (tx : List Int → Bok → Bok) (w : List Bool) : List (List Int) → Bok → Bok
  | [], B => B
  | p :: ps, B => if sgnB c s m p = w then tx p B else clsT c s m tx w ps (tx p B)
theorem clsT_ok {c : List Int} {s m : Nat} {tx : List Int → Bok → Bok} (htx : ∀ h B, okS s m h → bookOk c B.1 B.2 → bookOk c (tx h B).1 (tx h B).2 ∧ SSC c s m h B (tx h B)) (w : List Bool) : ∀ (P : List (List Int)) (B : Bok), (∀ p ∈ P, okS s m p) → bookOk c B.1 B.2 → bookOk c (clsT c s m tx w P B).1 (clsT c s m tx w P B).2
  | [], B, _, hB => hB
  | p :: ps, B, hP, hB => by
    have h1 := (htx p B (hP p (by simp)) hB).1
    rw [clsT]
    split
    · exact h1
    · exact clsT_ok htx w ps _ (fun q hq => hP q (by simp [hq])) h1
theorem sFirst_ok {c : List Int} (hcg : gcode c = true) {s m : Nat} (hs : s ≤ 6) (hm : m ≤ 6) (hsm : s * m ≤ 6) {W : List Bool} (hW : W.length = (posB s m).length) {B : Bok} (hB : bookOk c B.1 B.2) : ∃ B' : Bok, bookOk c B'.1 B'.2 ∧ FC Tryz.prog 71 [.ptr 1000000000000 0 0, RBx s m, .ref 1000000000003 0 W.length] [(1000000000000, 3, [.agg [RIs c, .ref 1000000000001 0 8192, .ref 1000000000002 0 8192]]), (1000000000001, 1, B.1.map RVi), (1000000000002, 1, B.2.map RVi), (1000000000003, 1, W.map RVb)] fun rv O => rv = RVi (fstB (fun p => decide (sgnB c s m p = W)) (posB s m) 0) ∧ O = BK c B'.1 B'.2 := by
  obtain ⟨tx, htx⟩ := tx_all hcg hs hm
  have hP := sAll_ok hs hm
  have hPo : ∀ p ∈ posB s m, okS s m p := fun p hp => (posB_okS hs hm hsm hp).1
  have hpl : (posB s m).length ≤ 1000000 := by have := posT_len hs (m + 1) (by omega); unfold posB; omega
  have hsl : ∀ p, (sgnB c s m p).length = W.length := fun p => by rw [sgnB_len, hW]
  refine ⟨clsT c s m tx W (posB s m) B, clsT_ok htx _ _ _ hPo hB, ?_⟩
  clear hW
  generalize posB s m = P at *
  obtain ⟨K, V⟩ := B
  dsimp only at hB ⊢
  refine (fc_in Tryz.func71 rfl (by simp only [Tryz.ntmps71, anys, List.length_cons, List.length_nil, Nat.reduceAdd, Nat.reduceSub, List.replicate_succ, List.replicate_zero, List.cons_append, List.nil_append] <;> rfl) ?_)
  refine w_le _ (le_freeze 1000000000003 rfl (by simp only [nz, nf, nl, nb, nr, ng, nq, nu, reduceIte, Nat.reduceEqDiff, Nat.reduceAdd]; rfl) (by simp only [nz, nf, nl, nb, nr, ng, nq, nu, reduceIte, Nat.reduceEqDiff, Nat.reduceAdd]; rfl)) ?_
  repeat' first | apply w_seq | apply w_block | apply rb_n | apply rb_ret | apply rb_eq | refine rb_ne (by rfl) ?_ | apply w_exit | apply rt_exit | apply w_region | apply l_nil | apply rt_n | apply w_ret | apply rt_ret | apply w_skip | refine w_cond_t rfl ?_ | refine w_cond_f rfl ?_ | ((first | refine w_cnd rfl ?_ ?_ | refine w_cd rfl ?_ ?_ | refine w_cn rfl ?_ ?_ | refine w_cond rfl ?_ ?_) <;> intro hc) | (refine l_o ?_; first | refine l_op rfl (by first | (apply k_callf; first | exact ops_callf (d := 10) (hfc := hP) | fail) | fail) (hk := ?_) | refine l_op (hk := ?_)) | refine d_nil ?_ | (refine d_o ?_; first | refine d_fl (hk := ?_) | refine d_ef rfl (by first | exact .callf (d := 10) (hfc := hP) | fail) (hk := ?_) | refine d_ef (hk := ?_)) | (refine w_o ?_; first | refine w_draw (id := 5) (fun _ => true) (fun k => [6, 8].contains k) [[], []] 64 (by kernel_rfl) rfl (by kernel_rfl) (by simp [nm, nset, -List.map_take, -List.map_drop]) ?_)
  refine w_le _ (le_perm [1000000000000, 1000000000001, 1000000000002, 4] rfl rfl) ?_
  refine w_loopm (ι := Nat × Bok) (fun q => [(8, RVn q.1)]) (fun q => [(1000000000000, 3, [.agg [RIs c, .ref 1000000000001 0 8192, .ref 1000000000002 0 8192]]), (1000000000001, 1, q.2.1.map RVi), (1000000000002, 1, q.2.2.map RVi), (4, 2, [RBx s m])]) (fun q => q.1 ≤ P.length ∧ bookOk c q.2.1 q.2.2 ∧ clsT c s m tx W (P.drop q.1) q.2 = clsT c s m tx W P (K, V) ∧ fstB (fun p => decide (sgnB c s m p = W)) (P.drop q.1) q.1 = fstB (fun p => decide (sgnB c s m p = W)) P 0) (fun q => P.length - q.1) (0, K, V) (h0 := ?_) (hs := ?_) (round := ?_)
  · exact ⟨Nat.zero_le _, hB, rfl, rfl⟩
  · refine le_eq (by (repeat' first | exact .nil | refine .keep ?_ | refine .any ?_); first | done | fail) rfl rfl
  · intro ⟨k, K2, V2⟩ ⟨hk, hB2, hC, hF⟩
    dsimp only at hk hB2 hC hF ⊢
    by_cases hk2 : k < P.length
    · have hq := htx P[k] (K2, V2) (hPo _ (List.getElem_mem hk2)) hB2
      have hcall := hq.2
      have hB3 := hq.1
      have hE := sSame_ok (sgnB c s m P[k]) W (hsl _)
      rw [List.drop_eq_getElem_cons hk2, clsT] at hC
      rw [List.drop_eq_getElem_cons hk2, fstB] at hF
      clear hq
      unfold SSC at hcall
      dsimp only at hcall
      generalize tx P[k] (K2, V2) = B4 at *
      obtain ⟨K4, V4⟩ := B4
      dsimp only at hcall hB3
      by_cases hz : sgnB c s m P[k] = W
      · rw [if_pos hz] at hC
        rw [decide_eq_true hz] at hE hF
        rw [if_pos rfl] at hF
        rw [← hC, ← hF]
        generalize sgnB c s m P[k] = Z at *
        repeat' first | apply w_seq | apply w_block | apply rb_n | apply rb_ret | apply rb_eq | refine rb_ne (by rfl) ?_ | apply w_exit | apply rt_exit | apply w_region | apply l_nil | apply rt_n | apply w_ret | apply rt_ret | apply w_skip | refine w_cond_t rfl ?_ | refine w_cond_f rfl ?_ | ((first | refine w_cnd rfl ?_ ?_ | refine w_cd rfl ?_ ?_ | refine w_cn rfl ?_ ?_ | refine w_cond rfl ?_ ?_) <;> intro hc) | (exfalso; omega) | (refine l_o ?_; first | refine l_op rfl (by first | (apply k_callf; first | exact ops_callG (d := 23) [1000000000000, 1000000000001, 1000000000002] [] (BK c K4 V4) (hfc := hcall) | exact ops_callz (d := 25) (hfc := hE) | fail) | fail) (hk := ?_) | refine l_op (hk := ?_)) | refine d_nil ?_ | (refine d_o ?_; first | refine d_fl (hk := ?_) | refine d_ef rfl (by first | exact .callG (d := 23) [1000000000000, 1000000000001, 1000000000002] (BK c K4 V4) (hfc := hcall) | exact .callz (d := 25) (hfc := hE) | fail) (hk := ?_) | refine d_ef (hk := ?_)) | (refine w_o ?_; first | refine w_draw (id := 5) (roL [4]) (fun k => [6, 8].contains k) [[23],[]] 64 (by kernel_rfl) rfl (by kernel_rfl) (by simp [nm, nset, -List.map_take, -List.map_drop]) ?_)
        refine en_le _ (le_perm [23, 4, 1000000000000, 1000000000001, 1000000000002] rfl rfl) ?_
        exact en_m (junk := [(23, 1, List.map RVb Z), (4, 2, [RBx s m])]) (.inl rfl) Tryz.results71 rfl rfl rfl rfl
      · rw [if_neg hz] at hC
        rw [decide_eq_false hz] at hE hF
        rw [if_neg (by simp)] at hF
        generalize sgnB c s m P[k] = Z at *
        repeat' first | apply w_seq | apply w_block | apply rb_n | apply rb_ret | apply rb_eq | refine rb_ne (by rfl) ?_ | apply w_exit | apply rt_exit | apply w_region | apply l_nil | apply rt_n | apply w_ret | apply rt_ret | apply w_skip | refine w_cond_t rfl ?_ | refine w_cond_f rfl ?_ | ((first | refine w_cnd rfl ?_ ?_ | refine w_cd rfl ?_ ?_ | refine w_cn rfl ?_ ?_ | refine w_cond rfl ?_ ?_) <;> intro hc) | (exfalso; omega) | (refine l_o ?_; first | refine l_op rfl (by first | (apply k_callf; first | exact ops_callG (d := 23) [1000000000000, 1000000000001, 1000000000002] [] (BK c K4 V4) (hfc := hcall) | exact ops_callz (d := 25) (hfc := hE) | fail) | fail) (hk := ?_) | refine l_op (hk := ?_)) | refine d_nil ?_ | (refine d_o ?_; first | refine d_fl (hk := ?_) | refine d_ef rfl (by first | exact .callG (d := 23) [1000000000000, 1000000000001, 1000000000002] (BK c K4 V4) (hfc := hcall) | exact .callz (d := 25) (hfc := hE) | fail) (hk := ?_) | refine d_ef (hk := ?_)) | (refine w_o ?_; first | refine w_draw (id := 5) (roL [4]) (fun k => [6, 8].contains k) [[23],[]] 64 (by kernel_rfl) rfl (by kernel_rfl) (by simp [nm, nset, -List.map_take, -List.map_drop]) ?_)
        refine rn_mk (k + 1, K4, V4) ?_ (by first | omega | (dsimp only; omega)) (le_dropd 23 (by simp only [nz]; rfl) (by simp only [nz, reduceIte, Nat.reduceEqDiff] <;> rfl) (le_eq (by (repeat' first | exact .nil | refine .keep ?_ | refine .any ?_); first | done | fail) rfl rfl))
        exact ⟨hk2, hB3, hC, hF⟩
    · obtain rfl : k = P.length := by omega
      rw [List.drop_length, clsT] at hC
      rw [List.drop_length, fstB] at hF
      rw [← hC, ← hF]
      repeat' first | apply w_seq | apply w_block | apply rb_n | apply rb_ret | apply rb_eq | refine rb_ne (by rfl) ?_ | apply w_exit | apply rt_exit | apply w_region | apply l_nil | apply rt_n | apply w_ret | apply rt_ret | apply w_skip | refine w_cond_t rfl ?_ | refine w_cond_f rfl ?_ | ((first | refine w_cnd rfl ?_ ?_ | refine w_cd rfl ?_ ?_ | refine w_cn rfl ?_ ?_ | refine w_cond rfl ?_ ?_) <;> intro hc) | (exfalso; omega) | (refine l_o ?_; first | refine l_op (hk := ?_)) | refine d_nil ?_ | (refine d_o ?_; first | refine d_fl (hk := ?_) | refine d_ef (hk := ?_)) | (refine w_o ?_; first | refine w_draw (id := 5) (fun _ => true) (fun k => [6, 8].contains k) [[], []] 64 (by kernel_rfl) rfl (by kernel_rfl) (by simp [nm, nset, -List.map_take, -List.map_drop]) ?_)
      refine en_le _ (le_perm [4, 1000000000000, 1000000000001, 1000000000002] rfl rfl) ?_
      exact en_m (junk := [(4, 2, [RBx s m])]) (.inl rfl) Tryz.results71 rfl rfl rfl rfl
end Go.Proofs.YtmfbcipjknjicaaGreatDoor
