/- The library's Equal and CompactFunc at lists of heaps; the program's lists in order. For all lists of the lengths that the theorems name. -/
import Derived.Test.YtmfbcipjknjicaaGreatDoorHpC
import Derived.Test.YtmfbcipjknjicaaGreatDoorHpO
import Derived.Test.YtmfbcipjknjicaaGreatDoorJ16
namespace Go.Proofs.YtmfbcipjknjicaaGreatDoor
set_option linter.unusedSectionVars false
variable [One Bool]
open Eng
attribute [local irreducible] OpS OpG FC FCr Rel Fl Ef DR Fs
attribute [local simp] RV.fzR_names
set_option linter.unusedSimpArgs false
set_option linter.unusedVariables false
set_option maxHeartbeats 0
set_option maxRecDepth 100000

theorem equalI_ok (a b : List Int) : FCr Tryz.prog 119 [RIs a, RIs b] (RVb (decide (a = b))) := by
  refine fcr_lens fun hL => ?_
  simp only [lnk] at hL
  refine (fcr_in Tryz.func119 rfl (by simp only [Tryz.ntmps119, anys, List.length_cons, List.length_nil, Nat.reduceAdd, Nat.reduceSub, List.replicate_succ, List.replicate_zero, List.cons_append, List.nil_append] <;> rfl) ?_)
  repeat' first | apply w_seq | apply w_block | apply rb_n | apply rb_ret | apply rb_eq | refine rb_ne (by rfl) ?_ | apply w_exit | apply rt_exit | apply w_region | apply l_nil | apply rt_n | apply w_ret | apply rt_ret | apply w_skip | refine w_cond_t rfl ?_ | refine w_cond_f rfl ?_ | ((first | refine w_cnd rfl ?_ ?_ | refine w_cd rfl ?_ ?_ | refine w_cn rfl ?_ ?_ | refine w_cond rfl ?_ ?_) <;> intro hc) | (refine l_o ?_; first | refine l_op (hk := ?_)) | refine d_nil ?_ | (refine d_o ?_; first | refine d_fl (hk := ?_) | refine d_ef (hk := ?_)) | (refine w_o ?_; first | refine w_draw (id := 6) (fun _ => true) (fun k => [].contains k) [] 64 (by kernel_rfl) rfl (by kernel_rfl) (by simp [nm, nset, -List.map_take, -List.map_drop]) ?_)
  · refine en_one (hf := Tryz.results119) (h := ?_); simp only [lget]; first | refine congrArg RVb ?_ | refine congrArg RVi ?_ | skip
    have : a ≠ b := fun e => by rw [e] at hc; exact hc rfl
    simp [this]
  have hn : a.length = b.length := by omega
  clear hc
  refine w_loopm (ι := Nat) (fun k => [(13, RVn k)]) (fun _ => []) (fun k => k ≤ a.length ∧ ((a.drop k = b.drop k) ↔ a = b)) (fun k => a.length - k) 0 (h0 := ?_) (hs := ?_) (round := ?_)
  · simp
  · refine le_eq (by (repeat' first | exact .nil | refine .keep ?_ | refine .any ?_); first | done | fail) rfl rfl
  · intro k ⟨hk, hg⟩
    by_cases h1 : k < a.length
    · rw [drop_both h1 (by omega)] at hg
      by_cases he : a[k] = b[k]
      · repeat' first | apply w_seq | apply w_block | apply rb_n | apply rb_ret | apply rb_eq | refine rb_ne (by rfl) ?_ | apply w_exit | apply rt_exit | apply w_region | apply l_nil | apply rt_n | apply w_ret | apply rt_ret | apply w_skip | refine w_cond_t rfl ?_ | refine w_cond_f rfl ?_ | ((first | refine w_cnd rfl ?_ ?_ | refine w_cd rfl ?_ ?_ | refine w_cn rfl ?_ ?_ | refine w_cond rfl ?_ ?_) <;> intro hc) | (exfalso; omega) | (refine l_o ?_; first | refine l_op (hk := ?_)) | refine d_nil ?_ | (refine d_o ?_; first | refine d_fl (hk := ?_) | refine d_ef (hk := ?_)) | (refine w_o ?_; first | refine w_draw (id := 6) (fun _ => true) (fun k => [].contains k) [] 64 (by kernel_rfl) rfl (by kernel_rfl) (by simp [nm, nset, -List.map_take, -List.map_drop]) ?_)
        refine rn_mk (k + 1) ?_ (by first | omega | (dsimp only; omega)) (le_eq (by (repeat' first | exact .nil | refine .keep ?_ | refine .any ?_); first | done | fail) rfl rfl)
        exact ⟨by omega, by rw [← hg]; simp [he]⟩
      · have : a ≠ b := fun e => he (hg.2 e).1
        repeat' first | apply w_seq | apply w_block | apply rb_n | apply rb_ret | apply rb_eq | refine rb_ne (by rfl) ?_ | apply w_exit | apply rt_exit | apply w_region | apply l_nil | apply rt_n | apply w_ret | apply rt_ret | apply w_skip | refine w_cond_t rfl ?_ | refine w_cond_f rfl ?_ | ((first | refine w_cnd rfl ?_ ?_ | refine w_cd rfl ?_ ?_ | refine w_cn rfl ?_ ?_ | refine w_cond rfl ?_ ?_) <;> intro hc) | (exfalso; omega) | (refine l_o ?_; first | refine l_op (hk := ?_)) | refine d_nil ?_ | (refine d_o ?_; first | refine d_fl (hk := ?_) | refine d_ef (hk := ?_)) | (refine w_o ?_; first | refine w_draw (id := 6) (fun _ => true) (fun k => [].contains k) [] 64 (by kernel_rfl) rfl (by kernel_rfl) (by simp [nm, nset, -List.map_take, -List.map_drop]) ?_)
        refine en_one (hf := Tryz.results119) (h := ?_); simp only [lget]; first | refine congrArg RVb ?_ | refine congrArg RVi ?_ | skip
        simp [this]
    · rw [List.drop_eq_nil_of_le (by omega), List.drop_eq_nil_of_le (by omega)] at hg
      have := hg.1 rfl
      repeat' first | apply w_seq | apply w_block | apply rb_n | apply rb_ret | apply rb_eq | refine rb_ne (by rfl) ?_ | apply w_exit | apply rt_exit | apply w_region | apply l_nil | apply rt_n | apply w_ret | apply rt_ret | apply w_skip | refine w_cond_t rfl ?_ | refine w_cond_f rfl ?_ | ((first | refine w_cnd rfl ?_ ?_ | refine w_cd rfl ?_ ?_ | refine w_cn rfl ?_ ?_ | refine w_cond rfl ?_ ?_) <;> intro hc) | (exfalso; omega) | (refine l_o ?_; first | refine l_op (hk := ?_)) | refine d_nil ?_ | (refine d_o ?_; first | refine d_fl (hk := ?_) | refine d_ef (hk := ?_)) | (refine w_o ?_; first | refine w_draw (id := 6) (fun _ => true) (fun k => [].contains k) [] 64 (by kernel_rfl) rfl (by kernel_rfl) (by simp [nm, nset, -List.map_take, -List.map_drop]) ?_)
      refine en_one (hf := Tryz.results119) (h := ?_); simp only [lget]; first | refine congrArg RVb ?_ | refine congrArg RVi ?_ | skip
      simp [this]
theorem ddToH_ne {l : List (List Int)} {j : Nat} (h : j < l.length) (h2 : ¬ (0 < j ∧ l[j] = l[j - 1]'(by omega))) : ddToH l (j + 1) = ddToH l j ++ [l[j]] := by
  have e1 : l.getD j [] = l[j] := by simp [List.getD_eq_getElem?_getD, h]
  have e2 : l.getD (j - 1) [] = l[j - 1]'(by omega) := by simp [List.getD_eq_getElem?_getD, show j - 1 < l.length by omega]
  rw [ddToH, e1, e2, if_neg h2]
theorem ddToH_eq {l : List (List Int)} {j : Nat} (h : j < l.length) (h0 : 0 < j) (h2 : l[j] = l[j - 1]'(by omega)) : ddToH l (j + 1) = ddToH l j := by
  have e1 : l.getD j [] = l[j] := by simp [List.getD_eq_getElem?_getD, h]
  have e2 : l.getD (j - 1) [] = l[j - 1]'(by omega) := by simp [List.getD_eq_getElem?_getD, show j - 1 < l.length by omega]
  rw [ddToH, e1, e2, if_pos ⟨h0, h2⟩]
theorem at_dropH {B l : List (List Int)} {p j : Nat} (h : B.drop p = l.drop p) (hj : p ≤ j) (h1 : j < B.length) (h2 : j < l.length) : B[j] = l[j] := by
  have e1 : B[j]? = (B.drop p)[j - p]? := by rw [List.getElem?_drop]; congr 1; omega
  have e2 : l[j]? = (l.drop p)[j - p]? := by rw [List.getElem?_drop]; congr 1; omega
  have : B[j]? = l[j]? := by rw [e1, e2, h]
  rw [List.getElem?_eq_getElem h1, List.getElem?_eq_getElem h2] at this
  injection this
abbrev FEq : RV := .v (.func (.func 119) #[] #[])
theorem compactF_ok (l : List (List Int)) (hl : l.length ≤ 1048576) : FC Tryz.prog 118 [.ref 1000000000000 0 l.length, FEq] [(1000000000000, 1, l.map RIs)] (fun rv O => rv = .ow 1 ((ddH l).map RIs) ∧ O = []) := by
  by_cases h2 : l.length < 2
  · have e : ddH l = l := by
      match l, h2 with
      | [], _ => rfl
      | [x], _ => simp [ddH, ddToH]
    rw [e]
    refine (fc_in Tryz.func118 rfl (by simp only [Tryz.ntmps118, anys, List.length_cons, List.length_nil, Nat.reduceAdd, Nat.reduceSub, List.replicate_succ, List.replicate_zero, List.cons_append, List.nil_append] <;> rfl) ?_)
    repeat' first | apply w_seq | apply w_block | apply rb_n | apply rb_ret | apply rb_eq | refine rb_ne (by rfl) ?_ | apply w_exit | apply rt_exit | apply w_region | apply l_nil | apply rt_n | apply w_ret | apply rt_ret | apply w_skip | refine w_cond_t rfl ?_ | refine w_cond_f rfl ?_ | ((first | refine w_cnd rfl ?_ ?_ | refine w_cd rfl ?_ ?_ | refine w_cn rfl ?_ ?_ | refine w_cond rfl ?_ ?_) <;> intro hc) | (exfalso; omega) | (refine l_o ?_; first | refine l_op (hk := ?_)) | refine d_nil ?_ | (refine d_o ?_; first | refine d_fl (hk := ?_) | refine d_ef (hk := ?_)) | (refine w_o ?_; first | refine w_draw (id := 6) (fun _ => true) (fun k => [10].contains k) [[]] 64 (by kernel_rfl) rfl (by kernel_rfl) (by simp [nm, nset, -List.map_take, -List.map_drop]) ?_ | refine w_draw (id := 11) (fun _ => true) (fun k => [10].contains k) [[]] 64 (by kernel_rfl) rfl (by kernel_rfl) (by simp [nm, nset, -List.map_take, -List.map_drop]) ?_)
    refine en_end (hf := Tryz.results118) (hr := ?_); simp only [ne, nf, nl, nr, lget, reduceIte, Nat.reduceEqDiff]; first | rfl | refine congrArg RVb ?_ | refine congrArg RVi ?_ | skip
  refine (fc_in Tryz.func118 rfl (by simp only [Tryz.ntmps118, anys, List.length_cons, List.length_nil, Nat.reduceAdd, Nat.reduceSub, List.replicate_succ, List.replicate_zero, List.cons_append, List.nil_append] <;> rfl) ?_)
  repeat' first | apply w_seq | apply w_block | apply rb_n | apply rb_ret | apply rb_eq | refine rb_ne (by rfl) ?_ | apply w_exit | apply rt_exit | apply w_region | apply l_nil | apply rt_n | apply w_ret | apply rt_ret | apply w_skip | refine w_cond_t rfl ?_ | refine w_cond_f rfl ?_ | ((first | refine w_cnd rfl ?_ ?_ | refine w_cd rfl ?_ ?_ | refine w_cn rfl ?_ ?_ | refine w_cond rfl ?_ ?_) <;> intro hc) | (exfalso; omega) | (refine l_o ?_; first | refine l_op (hk := ?_)) | refine d_nil ?_ | (refine d_o ?_; first | refine d_fl (hk := ?_) | refine d_ef (hk := ?_)) | (refine w_o ?_; first | refine w_draw (id := 6) (fun _ => true) (fun k => [10].contains k) [[]] 64 (by kernel_rfl) rfl (by kernel_rfl) (by simp [nm, nset, -List.map_take, -List.map_drop]) ?_ | refine w_draw (id := 11) (fun _ => true) (fun k => [10].contains k) [[]] 64 (by kernel_rfl) rfl (by kernel_rfl) (by simp [nm, nset, -List.map_take, -List.map_drop]) ?_)
  refine w_loopm (ι := Nat) (fun k => [(5, RVn k)]) (fun _ => [(1000000000000, 1, l.map RIs)]) (fun k => 1 ≤ k ∧ k ≤ l.length ∧ ddToH l k = l.take k) (fun k => l.length - k) 1 (h0 := ?_) (hs := ?_) (round := ?_)
  · refine ⟨Nat.le_refl _, by omega, ?_⟩
    rw [ddToH_ne (by omega) (by omega), List.take_add_one, List.getElem?_eq_getElem (by omega)]
    simp [ddToH]
  · refine le_eq (by (repeat' first | exact .nil | refine .keep ?_ | refine .any ?_); first | done | fail) rfl rfl
  · intro k ⟨h3, h4, h5⟩
    by_cases hk : k < l.length
    · have hlne : l.map RIs ≠ [] := by intro e; have := congrArg List.length e; simp at this; subst this; simp at hk
      have ek : ((k : Int) - 1).toNat = k - 1 := by omega
      have hq := equalI_ok l[k] (l[k - 1]'(by omega))
      by_cases he : l[k] = l[k - 1]'(by omega)
      · have hd := ddToH_eq hk (by omega) he
        rw [decide_eq_true he] at hq
        repeat' first | apply w_seq | apply w_block | apply rb_n | apply rb_ret | apply rb_eq | refine rb_ne (by rfl) ?_ | apply w_exit | apply rt_exit | apply w_region | apply l_nil | apply rt_n | apply w_ret | apply rt_ret | apply w_skip | refine w_cond_t rfl ?_ | refine w_cond_f rfl ?_ | ((first | refine w_cnd rfl ?_ ?_ | refine w_cd rfl ?_ ?_ | refine w_cn rfl ?_ ?_ | refine w_cond rfl ?_ ?_) <;> intro hc) | (exfalso; omega) | (refine l_o ?_; first | refine l_op rfl (by first | (apply k_sub; first | exact ops_subn (a := k) (b := 1) rfl rfl (by omega) (by omega) | fail) | (apply k_indexAddr; first | exact ops_idx_ref rfl rfl (by omega) rfl hlne (by kernel_rfl) (by kernel_rfl) | fail) | (apply k_slice; first | exact ops_rcutl (l := k) rfl rfl rfl (by omega) (by rw [List.length_map]; omega) (by kernel_rfl) (by kernel_rfl) | fail) | (apply k_callt; first | exact ops_callS (hfc := hq) | fail) | fail) (hk := ?_) | refine l_op (hk := ?_)) | refine e_nil ?_ | (refine e_o ?_; first | refine e_fl rfl (by first | exact .pl (by first | (apply q_sub; first | exact fs_subn (a := k) (b := 1) rfl rfl (by omega) (by omega) | fail) | (apply q_indexAddr; first | exact fs_idx_ref rfl rfl (by omega) rfl rfl hlne (by kernel_rfl) (by kernel_rfl) | fail) | (apply q_slice; first | exact fs_rcutl (l := k) rfl rfl rfl rfl (by omega) (by rw [List.length_map]; omega) (by kernel_rfl) (by kernel_rfl) | fail) | (apply q_callt; first | exact fs_callS (hfc := hq) | fail) | fail) | fail) (hk := ?_) | refine e_fl (hk := ?_) | refine e_ef (hk := ?_)) | (refine w_o ?_; first | refine w_drawS (id := 6) (rdP [(3,1000000000000),(4,1000000000000),(8,1000000000000),(9,1000000000000)]) (fun k => [].contains k) [] (by kernel_rfl) rfl (by kernel_rfl) (by simp [nm, nset, -List.map_take, -List.map_drop]) ?_ | refine w_drawS (id := 11) (rdP []) (fun k => [10].contains k) [[]] (by kernel_rfl) rfl (by kernel_rfl) (by simp [nm, nset, -List.map_take, -List.map_drop]) ?_)
        refine w_loopm (ι := Nat × Nat × List (List Int)) (fun q => [(7, RVn q.1), (5, RVn q.2.1)]) (fun q => [(1000000000000, 1, q.2.2.map RIs)]) (fun q => 1 ≤ q.1 ∧ k + q.1 ≤ l.length ∧ q.2.1 + 1 ≤ k + q.1 ∧ q.2.2.length = l.length ∧ q.2.2.drop (k + q.1 - 1) = l.drop (k + q.1 - 1) ∧ q.2.2.take q.2.1 = ddToH l (k + q.1)) (fun q => l.length - q.1) (1, k, l) (h0 := ?_) (hs := ?_) (round := ?_)
        · exact ⟨Nat.le_refl _, by dsimp only; omega, Nat.le_refl _, rfl, rfl, by rw [hd, h5]⟩
        · refine le_eq (by (repeat' first | exact .nil | refine .keep ?_ | refine .any ?_); first | done | fail) rfl rfl
        · intro ⟨k2, m, B⟩ ⟨g1, g2, g3, g4, g5, g6⟩
          dsimp only at g1 g2 g3 g4 g5 g6 ⊢
          have hBne : B.map RIs ≠ [] := by intro e; have := congrArg List.length e; simp at this; subst this; simp at g4; omega
          by_cases hj : k + k2 < l.length
          · have b1 : B[k + k2]'(by omega) = l[k + k2] := at_dropH g5 (by omega) (by omega) hj
            have b2 : B[k + k2 - 1]'(by omega) = l[k + k2 - 1] := at_dropH g5 (by omega) (by omega) (by omega)
            have ekk : k + (k2 - 1) = k + k2 - 1 := by omega
            have hq2 := equalI_ok (B[k + k2]'(by omega)) (B[k + (k2 - 1)]'(by omega))
            have b3 : B[k + (k2 - 1)]'(by omega) = l[k + k2 - 1] := by rw [← b2]; simp only [ekk]
            by_cases hne : l[k + k2] = l[k + k2 - 1]
            · have hd2 := ddToH_eq hj (by omega) hne
              rw [decide_eq_true (by rw [b1, b3]; exact hne)] at hq2
              repeat' first | apply w_seq | apply w_block | apply rb_n | apply rb_ret | apply rb_eq | refine rb_ne (by rfl) ?_ | apply w_exit | apply rt_exit | apply w_region | apply l_nil | apply rt_n | apply w_ret | apply rt_ret | apply w_skip | refine w_cond_t rfl ?_ | refine w_cond_f rfl ?_ | ((first | refine w_cnd rfl ?_ ?_ | refine w_cd rfl ?_ ?_ | refine w_cn rfl ?_ ?_ | refine w_cond rfl ?_ ?_) <;> intro hc) | (exfalso; omega) | (refine l_o ?_; first | refine l_op rfl (by first | (apply k_sub; first | exact ops_subn (a := k2) (b := 1) rfl rfl (by omega) (by omega) | fail) | (apply k_indexAddr; first | exact ops_idx_ref rfl rfl (by omega) rfl hBne (by kernel_rfl) (by kernel_rfl) | fail) | (apply k_callt; first | exact ops_callS (hfc := hq2) | fail) | fail) (hk := ?_) | refine l_op (hk := ?_)) | refine e_nil ?_ | (refine e_o ?_; first | refine e_fl rfl (by first | exact .pl (by first | (apply q_sub; first | exact fs_subn (a := k2) (b := 1) rfl rfl (by omega) (by omega) | fail) | (apply q_indexAddr; first | exact fs_idx_ref rfl rfl (by omega) rfl rfl hBne (by kernel_rfl) (by kernel_rfl) | fail) | (apply q_callt; first | exact fs_callS (hfc := hq2) | fail) | fail) | fail) (hk := ?_) | refine e_fl (hk := ?_) | refine e_ef (hk := ?_)) | (refine w_o ?_; first | refine w_drawS (id := 6) (rdP []) (fun k => [10].contains k) [[]] (by kernel_rfl) rfl (by kernel_rfl) (by simp [nm, nset, -List.map_take, -List.map_drop]) ?_ | refine w_drawS (id := 11) (rdP [(3,1000000000000),(4,1000000000000),(8,1000000000000),(9,1000000000000)]) (fun k => [].contains k) [] (by kernel_rfl) rfl (by kernel_rfl) (by simp [nm, nset, -List.map_take, -List.map_drop]) ?_)
              refine rn_mk (k2 + 1, m, B) ?_ (by first | omega | (dsimp only; omega)) (le_eq (by (repeat' first | exact .nil | refine .keep ?_ | refine .any ?_); first | done | fail) rfl rfl)
              refine ⟨by dsimp only; omega, by dsimp only; omega, by dsimp only; omega, g4, ?_, ?_⟩
              · dsimp only
                rw [show k + (k2 + 1) - 1 = (k + k2 - 1) + 1 by omega, ← List.drop_drop, g5, List.drop_drop]
              · dsimp only
                rw [show k + (k2 + 1) = k + k2 + 1 by omega, hd2]; exact g6
            · have hd2 := ddToH_ne hj (fun h => hne h.2)
              rw [decide_eq_false (by rw [b1, b3]; exact hne)] at hq2
              repeat' first | apply w_seq | apply w_block | apply rb_n | apply rb_ret | apply rb_eq | refine rb_ne (by rfl) ?_ | apply w_exit | apply rt_exit | apply w_region | apply l_nil | apply rt_n | apply w_ret | apply rt_ret | apply w_skip | refine w_cond_t rfl ?_ | refine w_cond_f rfl ?_ | ((first | refine w_cnd rfl ?_ ?_ | refine w_cd rfl ?_ ?_ | refine w_cn rfl ?_ ?_ | refine w_cond rfl ?_ ?_) <;> intro hc) | (exfalso; omega) | (refine l_o ?_; first | refine l_op rfl (by first | (apply k_sub; first | exact ops_subn (a := k2) (b := 1) rfl rfl (by omega) (by omega) | fail) | (apply k_indexAddr; first | exact ops_idx_ref rfl rfl (by omega) rfl hBne (by kernel_rfl) (by kernel_rfl) | fail) | (apply k_callt; first | exact ops_callS (hfc := hq2) | fail) | fail) (hk := ?_) | refine l_op (hk := ?_)) | refine e_nil ?_ | (refine e_o ?_; first | refine e_fl rfl (by first | exact .pl (by first | (apply q_sub; first | exact fs_subn (a := k2) (b := 1) rfl rfl (by omega) (by omega) | fail) | (apply q_indexAddr; first | exact fs_idx_ref rfl rfl (by omega) rfl rfl hBne (by kernel_rfl) (by kernel_rfl) | fail) | (apply q_callt; first | exact fs_callS (hfc := hq2) | fail) | fail) | fail) (hk := ?_) | refine e_fl (hk := ?_) | refine e_ef (hk := ?_)) | (refine w_o ?_; first | refine w_drawS (id := 6) (rdP []) (fun k => [10].contains k) [[]] (by kernel_rfl) rfl (by kernel_rfl) (by simp [nm, nset, -List.map_take, -List.map_drop]) ?_ | refine w_drawS (id := 11) (rdP [(3,1000000000000),(4,1000000000000),(8,1000000000000),(9,1000000000000)]) (fun k => [].contains k) [] (by kernel_rfl) rfl (by kernel_rfl) (by simp [nm, nset, -List.map_take, -List.map_drop]) ?_)
              refine rn_mk (k2 + 1, m + 1, B.set m (B[k + k2]'(by omega))) ?_ (by first | omega | (dsimp only; omega)) (le_eq (by (repeat' first | exact .nil | refine .keep ?_ | refine .any ?_); first | done | fail) rfl rfl)
              refine ⟨by dsimp only; omega, by dsimp only; omega, by dsimp only; omega, by simpa using g4, ?_, ?_⟩
              · dsimp only
                rw [List.drop_set_of_lt (by omega), show k + (k2 + 1) - 1 = (k + k2 - 1) + 1 by omega, ← List.drop_drop, g5, List.drop_drop]
              · dsimp only
                rw [show k + (k2 + 1) = k + k2 + 1 by omega, hd2, ← g6, List.take_succ_eq_append_getElem (by simp; omega), List.take_set_of_le (Nat.le_refl _)]
                simp [b1]
          · obtain rfl : k2 = l.length - k := by omega
            have hkl : k + (l.length - k) = l.length := by omega
            rw [hkl] at g6
            have g6 : B.take m = ddH l := g6
            have hm : (ddH l).length = m := by rw [← g6]; simp; omega
            repeat' first | apply w_seq | apply w_block | apply rb_n | apply rb_ret | apply rb_eq | refine rb_ne (by rfl) ?_ | apply w_exit | apply rt_exit | apply w_region | apply l_nil | apply rt_n | apply w_ret | apply rt_ret | apply w_skip | refine w_cond_t rfl ?_ | refine w_cond_f rfl ?_ | ((first | refine w_cnd rfl ?_ ?_ | refine w_cd rfl ?_ ?_ | refine w_cn rfl ?_ ?_ | refine w_cond rfl ?_ ?_) <;> intro hc) | (exfalso; omega) | (refine l_o ?_; first | refine l_op rfl (by first | (apply k_slice; first | exact ops_rfront (h := m) rfl rfl rfl (by simp; omega) (by first | exact hBne | (intro e; have := congrArg List.length e; simp at this; omega)) (by kernel_rfl) (by kernel_rfl) | exact ops_rcutl (l := m) rfl rfl rfl (by omega) (by rw [List.length_map]; omega) (by kernel_rfl) (by kernel_rfl) | fail) | (apply k_clear; first | exact ops_clearH rfl rfl (by omega) (by omega) (by kernel_rfl) (by kernel_rfl) | fail) | fail) (hk := ?_) | refine l_op (hk := ?_)) | refine d_nil ?_ | (refine d_o ?_; first | refine d_fl rfl (by first | exact .pl (by first | (apply q_slice; first | exact fs_rfront (h := m) rfl rfl rfl rfl (by simp; omega) (by first | exact hBne | (intro e; have := congrArg List.length e; simp at this; omega)) (by kernel_rfl) (by kernel_rfl) | exact fs_rcutl (l := m) rfl rfl rfl rfl (by omega) (by rw [List.length_map]; omega) (by kernel_rfl) (by kernel_rfl) | fail) | fail) | fail) (hk := ?_) | refine d_fl (hk := ?_) | refine d_ef (hk := ?_)) | (refine w_o ?_; first | refine w_draw (id := 6) (fun _ => true) (fun k => [10].contains k) [[]] 64 (by kernel_rfl) rfl (by kernel_rfl) (by simp [nm, nset, -List.map_take, -List.map_drop]) ?_ | refine w_draw (id := 11) (fun _ => true) (fun k => [10].contains k) [[]] 64 (by kernel_rfl) rfl (by kernel_rfl) (by simp [nm, nset, -List.map_take, -List.map_drop]) ?_)
            have hcut : (B.take m ++ List.replicate (l.length - m) [] ++ B.drop (m + (l.length - m))).take m = ddH l := by
              rw [List.append_assoc, List.take_left' (by simp; omega), g6]
            refine en_le _ (le_cutH 1000000000000 m rfl hcut (by simp only [nz, nf, nl, nb, nr, ng, nq, nu, reduceIte, Nat.reduceEqDiff, Nat.reduceAdd]; rfl)) ?_
            rw [← hm]
            refine en_end (hf := Tryz.results118) (hr := ?_); simp only [ne, nf, nl, nr, lget, reduceIte, Nat.reduceEqDiff]; first | rfl | refine congrArg RVb ?_ | refine congrArg RVi ?_ | skip
      · have hd := ddToH_ne hk (fun h => he h.2)
        rw [decide_eq_false he] at hq
        repeat' first | apply w_seq | apply w_block | apply rb_n | apply rb_ret | apply rb_eq | refine rb_ne (by rfl) ?_ | apply w_exit | apply rt_exit | apply w_region | apply l_nil | apply rt_n | apply w_ret | apply rt_ret | apply w_skip | refine w_cond_t rfl ?_ | refine w_cond_f rfl ?_ | ((first | refine w_cnd rfl ?_ ?_ | refine w_cd rfl ?_ ?_ | refine w_cn rfl ?_ ?_ | refine w_cond rfl ?_ ?_) <;> intro hc) | (exfalso; omega) | (refine l_o ?_; first | refine l_op rfl (by first | (apply k_sub; first | exact ops_subn (a := k) (b := 1) rfl rfl (by omega) (by omega) | fail) | (apply k_indexAddr; first | exact ops_idx_ref rfl rfl (by omega) rfl hlne (by kernel_rfl) (by kernel_rfl) | fail) | (apply k_callt; first | exact ops_callS (hfc := hq) | fail) | fail) (hk := ?_) | refine l_op (hk := ?_)) | refine e_nil ?_ | (refine e_o ?_; first | refine e_fl rfl (by first | exact .pl (by first | (apply q_sub; first | exact fs_subn (a := k) (b := 1) rfl rfl (by omega) (by omega) | fail) | (apply q_indexAddr; first | exact fs_idx_ref rfl rfl (by omega) rfl rfl hlne (by kernel_rfl) (by kernel_rfl) | fail) | (apply q_callt; first | exact fs_callS (hfc := hq) | fail) | fail) | fail) (hk := ?_) | refine e_fl (hk := ?_) | refine e_ef (hk := ?_)) | (refine w_o ?_; first | refine w_drawS (id := 6) (rdP [(3,1000000000000),(4,1000000000000),(8,1000000000000),(9,1000000000000)]) (fun k => [].contains k) [] (by kernel_rfl) rfl (by kernel_rfl) (by simp [nm, nset, -List.map_take, -List.map_drop]) ?_ | refine w_drawS (id := 11) (rdP []) (fun k => [10].contains k) [[]] (by kernel_rfl) rfl (by kernel_rfl) (by simp [nm, nset, -List.map_take, -List.map_drop]) ?_)
        refine rn_mk (k + 1) ?_ (by first | omega | (dsimp only; omega)) (le_eq (by (repeat' first | exact .nil | refine .keep ?_ | refine .any ?_); first | done | fail) rfl rfl)
        exact ⟨by omega, by omega, by rw [hd, h5, List.take_succ_eq_append_getElem hk]⟩
    · obtain rfl : k = l.length := by omega
      have e : ddH l = l := by unfold ddH; rw [h5, List.take_length]
      rw [e]
      repeat' first | apply w_seq | apply w_block | apply rb_n | apply rb_ret | apply rb_eq | refine rb_ne (by rfl) ?_ | apply w_exit | apply rt_exit | apply w_region | apply l_nil | apply rt_n | apply w_ret | apply rt_ret | apply w_skip | refine w_cond_t rfl ?_ | refine w_cond_f rfl ?_ | ((first | refine w_cnd rfl ?_ ?_ | refine w_cd rfl ?_ ?_ | refine w_cn rfl ?_ ?_ | refine w_cond rfl ?_ ?_) <;> intro hc) | (exfalso; omega) | (refine l_o ?_; first | refine l_op (hk := ?_)) | refine d_nil ?_ | (refine d_o ?_; first | refine d_fl (hk := ?_) | refine d_ef (hk := ?_)) | (refine w_o ?_; first | refine w_draw (id := 6) (fun _ => true) (fun k => [10].contains k) [[]] 64 (by kernel_rfl) rfl (by kernel_rfl) (by simp [nm, nset, -List.map_take, -List.map_drop]) ?_ | refine w_draw (id := 11) (fun _ => true) (fun k => [10].contains k) [[]] 64 (by kernel_rfl) rfl (by kernel_rfl) (by simp [nm, nset, -List.map_take, -List.map_drop]) ?_)
      refine en_end (hf := Tryz.results118) (hr := ?_); simp only [ne, nf, nl, nr, lget, reduceIte, Nat.reduceEqDiff]; first | rfl | refine congrArg RVb ?_ | refine congrArg RVi ?_ | skip
end Go.Proofs.YtmfbcipjknjicaaGreatDoor
