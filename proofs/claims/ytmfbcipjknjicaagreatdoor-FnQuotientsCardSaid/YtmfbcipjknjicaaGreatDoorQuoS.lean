/- The reference's classes of all positions of a box, and the losing ones. For all codes and boxes. -/
import Derived.Test.YtmfbcipjknjicaaGreatDoorJ36
import Derived.Test.YtmfbcipjknjicaaGreatDoorQuoL
namespace Go.Proofs.YtmfbcipjknjicaaGreatDoor
open Eng
attribute [local irreducible] OpS OpG FC FCr Rel Fl Ef DR Fs
attribute [local simp] RV.fzR_names
set_option linter.unusedSimpArgs false
set_option linter.unusedVariables false
set_option maxHeartbeats 0
set_option maxRecDepth 100000

def quT (tx : List Int → Bok → Bok) (fx : List Int → Bok → Bok) (P : List (List Int)) (B : Bok) : Bok := P.foldl (fun B p => fx p (tx p B)) B
def SFC (c : List Int) (s m : Nat) (W : List Bool) (v : Int) (B B' : Bok) : Prop := FC Tryz.prog 71 [.ptr 1000000000000 0 0, RBx s m, .ref 1000000000003 0 W.length] [(1000000000000, 3, [.agg [RIs c, .ref 1000000000001 0 8192, .ref 1000000000002 0 8192]]), (1000000000001, 1, B.1.map RVi), (1000000000002, 1, B.2.map RVi), (1000000000003, 1, W.map RVb)] fun rv O => rv = RVi v ∧ O = BK c B'.1 B'.2
theorem fx_all {c : List Int} (hcg : gcode c = true) {s m : Nat} (hs : s ≤ 6) (hm : m ≤ 6) (hsm : s * m ≤ 6) : ∃ fx : List Int → Bok → Bok, ∀ h B, bookOk c B.1 B.2 → bookOk c (fx h B).1 (fx h B).2 ∧ SFC c s m (sgnB c s m h) (clsB c s m h) B (fx h B) := by
  classical
  refine ⟨fun h B => if H : ∃ B' : Bok, bookOk c B'.1 B'.2 ∧ SFC c s m (sgnB c s m h) (clsB c s m h) B B' then H.choose else B, fun h B h2 => ?_⟩
  have H : ∃ B' : Bok, bookOk c B'.1 B'.2 ∧ SFC c s m (sgnB c s m h) (clsB c s m h) B B' := sFirst_ok hcg hs hm hsm (W := sgnB c s m h) (sgnB_len c s m h) h2
  dsimp only
  rw [dif_pos H]
  exact H.choose_spec
theorem sQuotient_ok {c : List Int} (hcg : gcode c = true) {s m : Nat} (hs : s ≤ 6) (hm : m ≤ 6) (hsm : s * m ≤ 6) {B : Bok} (hB : bookOk c B.1 B.2) : ∃ B' : Bok, bookOk c B'.1 B'.2 ∧ FC Tryz.prog 36 [.ptr 1000000000000 0 0, RBx s m] (BK c B.1 B.2) fun rv O => rv = .ow 1 ((quL (sgL c s m)).map RVi) ∧ O = BK c B'.1 B'.2 := by
  obtain ⟨tx, htx⟩ := tx_all hcg hs hm
  obtain ⟨fx, hfx⟩ := fx_all hcg hs hm hsm
  have hP := sAll_ok hs hm
  have hPo : ∀ p ∈ posB s m, okS s m p := fun p hp => (posB_okS hs hm hsm hp).1
  have hpl : (posB s m).length ≤ 1000000 := by have := posT_len hs (m + 1) (by omega); unfold posB; omega
  have hmk : ∀ k, k ≤ (posB s m).length → bookOk c (quT tx fx ((posB s m).take k) B).1 (quT tx fx ((posB s m).take k) B).2 := by
    intro k
    induction k with
    | zero => intro _; simpa [quT] using hB
    | succ k ih =>
      intro hk
      rw [List.take_succ_eq_append_getElem (by omega), quT, List.foldl_append]
      exact (hfx _ _ (htx _ _ (hPo _ (List.getElem_mem (by omega))) (ih (by omega))).1).1
  have hq : quL (sgL c s m) = (posB s m).map (clsB c s m) := by
    unfold quL
    have e : ∀ L : List (List Bool), L = sgL c s m → (posB s m).map (clsB c s m) = (sgL c s m).map (fsL L) := fun L e => by
      subst e
      have : clsB c s m = fun p => fsL (sgL c s m) (sgnB c s m p) := by funext p; exact clsB_fs c s m p
      rw [this]
      conv => rhs; rw [sgL, List.map_map]
      rfl
    exact (e _ rfl).symm
  rw [hq]
  refine ⟨quT tx fx (posB s m) B, by have := hmk _ (Nat.le_refl _); rwa [List.take_length] at this, ?_⟩
  clear hq
  generalize posB s m = P at *
  obtain ⟨K, V⟩ := B
  dsimp only at hB ⊢
  refine (fc_in Tryz.func36 rfl (by simp only [Tryz.ntmps36, anys, List.length_cons, List.length_nil, Nat.reduceAdd, Nat.reduceSub, List.replicate_succ, List.replicate_zero, List.cons_append, List.nil_append] <;> rfl) ?_)
  repeat' first | apply w_seq | apply w_block | apply rb_n | apply rb_ret | apply rb_eq | refine rb_ne (by rfl) ?_ | apply w_exit | apply rt_exit | apply w_region | apply l_nil | apply rt_n | apply w_ret | apply rt_ret | apply w_skip | refine w_cond_t rfl ?_ | refine w_cond_f rfl ?_ | ((first | refine w_cnd rfl ?_ ?_ | refine w_cd rfl ?_ ?_ | refine w_cn rfl ?_ ?_ | refine w_cond rfl ?_ ?_) <;> intro hc) | (refine l_o ?_; first | refine l_op rfl (by first | (apply k_callf; first | exact ops_callf (d := 10) (hfc := hP) | fail) | fail) (hk := ?_) | refine l_op (hk := ?_)) | refine d_nil ?_ | (refine d_o ?_; first | refine d_fl (hk := ?_) | refine d_ef rfl (by first | exact .callf (d := 10) (hfc := hP) | fail) (hk := ?_) | refine d_ef (hk := ?_)) | (refine w_o ?_; first | refine w_draw (id := 6) (fun _ => true) (fun k => [9, 10, 11, 12].contains k) [[], [], [], []] 64 (by kernel_rfl) rfl (by kernel_rfl) (by simp [nm, nset, -List.map_take, -List.map_drop]) ?_)
  refine w_le _ (le_perm [1000000000000, 1000000000001, 1000000000002, 8, 3] rfl rfl) ?_
  refine w_loopm (ι := Nat × List Int × Bok) (fun q => [(7, RVn q.1), (5, .ref 8 0 q.2.1.length), (8, .any)]) (fun q => [(1000000000000, 3, [.agg [RIs c, .ref 1000000000001 0 8192, .ref 1000000000002 0 8192]]), (1000000000001, 1, q.2.2.1.map RVi), (1000000000002, 1, q.2.2.2.map RVi), (8, 1, q.2.1.map RVi), (3, 2, [RBx s m])]) (fun q => q.1 ≤ P.length ∧ q.2.1 = (P.take q.1).map (clsB c s m) ∧ q.2.2 = quT tx fx (P.take q.1) (K, V)) (fun q => P.length - q.1) (0, [], K, V) (h0 := ?_) (hs := ?_) (round := ?_)
  · exact ⟨Nat.zero_le _, rfl, rfl⟩
  · refine le_eq (by (repeat' first | exact .nil | refine .keep ?_ | refine .any ?_); first | done | fail) rfl rfl
  · intro ⟨k, L, K2, V2⟩ ⟨hk, hL, hBk⟩
    dsimp only at hk hL hBk ⊢
    have hLl : L.length = k := by rw [hL, List.length_map, List.length_take]; omega
    by_cases hk2 : k < P.length
    · have hb2 := hmk k hk
      rw [← hBk] at hb2
      have h1 := htx P[k] (K2, V2) (hPo _ (List.getElem_mem hk2)) hb2
      have h2 := hfx P[k] (tx P[k] (K2, V2)) h1.1
      have hS := h1.2
      have hF := h2.2
      have hB3 : quT tx fx (P.take (k + 1)) (K, V) = fx P[k] (tx P[k] (K2, V2)) := by
        rw [List.take_succ_eq_append_getElem hk2, quT, List.foldl_append, hBk]; rfl
      have hL2 : (P.take (k + 1)).map (clsB c s m) = L ++ [clsB c s m P[k]] := by
        rw [List.take_succ_eq_append_getElem hk2, List.map_append, ← hL]; rfl
      unfold SSC at hS
      unfold SFC at hF
      clear h1 h2 hb2
      generalize fx P[k] (tx P[k] (K2, V2)) = B4 at *
      generalize tx P[k] (K2, V2) = B5 at *
      obtain ⟨K4, V4⟩ := B4
      obtain ⟨K5, V5⟩ := B5
      dsimp only at hS hF
      generalize sgnB c s m P[k] = W at *
      generalize clsB c s m P[k] = v at *
      repeat' first | apply w_seq | apply w_block | apply rb_n | apply rb_ret | apply rb_eq | refine rb_ne (by rfl) ?_ | apply w_exit | apply rt_exit | apply w_region | apply l_nil | apply rt_n | apply w_ret | apply rt_ret | apply w_skip | refine w_cond_t rfl ?_ | refine w_cond_f rfl ?_ | ((first | refine w_cnd rfl ?_ ?_ | refine w_cd rfl ?_ ?_ | refine w_cn rfl ?_ ?_ | refine w_cond rfl ?_ ?_) <;> intro hc) | (exfalso; omega) | (refine l_o ?_; first | refine l_op rfl (by first | (apply k_callf; first | exact ops_callG (d := 26) [1000000000000, 1000000000001, 1000000000002] [] (BK c K5 V5) (hfc := hS) | exact ops_callG (d := 27) [1000000000000, 1000000000001, 1000000000002, 26] [26] (BK c K4 V4) (hfc := hF) | fail) | fail) (hk := ?_) | refine l_op (hk := ?_)) | refine d_nil ?_ | (refine d_o ?_; first | refine d_fl (hk := ?_) | refine d_ef rfl (by first | exact .callG (d := 26) [1000000000000, 1000000000001, 1000000000002] (BK c K5 V5) (hfc := hS) | exact .callG (d := 27) [1000000000000, 1000000000001, 1000000000002, 26] (BK c K4 V4) (hfc := hF) | fail) (hk := ?_) | refine d_ef (hk := ?_)) | (refine w_o ?_; first | refine w_draw (id := 6) (roL [3]) (fun k => [9, 10, 12, 13].contains k) [[26],[],[29],[]] 64 (by kernel_rfl) rfl (by kernel_rfl) (by simp [nm, nset, -List.map_take, -List.map_drop]) ?_)
      refine rn_mk (k + 1, L ++ [v], K4, V4) ?_ (by dsimp only; omega) (le_trans (le_kill 8 (by simp only [nz, nf, nl, nb, nr, ng, nq, nu, reduceIte, Nat.reduceEqDiff, Nat.reduceAdd]; rfl)) (le_trans (le_ren 29 8 (by decide) (by decide) (by simp [nm, ng, renL_id, onames, nm, -List.map_append, -List.map_take, -List.map_drop]) (by simp [nm, ng, renL_id, onames, nm, -List.map_append, -List.map_take, -List.map_drop]) (by simp only [ng, nm, nu, renL_id, reduceIte, Nat.reduceEqDiff, nm] <;> rfl) (by simp only [ng, nm, nu, renL_id, reduceIte, Nat.reduceEqDiff, nm] <;> rfl)) (le_trans (le_perm [1000000000000, 1000000000001, 1000000000002, 8, 3] rfl rfl) (le_eq (by (repeat' first | exact .nil | refine .keep ?_ | refine .any ?_); first | done | fail) rfl rfl))))
      exact ⟨hk2, hL2.symm, hB3.symm⟩
    · obtain rfl : k = P.length := by omega
      rw [List.take_length] at hL hBk
      rw [← hL, ← hBk]
      repeat' first | apply w_seq | apply w_block | apply rb_n | apply rb_ret | apply rb_eq | refine rb_ne (by rfl) ?_ | apply w_exit | apply rt_exit | apply w_region | apply l_nil | apply rt_n | apply w_ret | apply rt_ret | apply w_skip | refine w_cond_t rfl ?_ | refine w_cond_f rfl ?_ | ((first | refine w_cnd rfl ?_ ?_ | refine w_cd rfl ?_ ?_ | refine w_cn rfl ?_ ?_ | refine w_cond rfl ?_ ?_) <;> intro hc) | (exfalso; omega) | (refine l_o ?_; first | refine l_op (hk := ?_)) | refine d_nil ?_ | (refine d_o ?_; first | refine d_fl (hk := ?_) | refine d_ef (hk := ?_)) | (refine w_o ?_; first | refine w_draw (id := 6) (fun _ => true) (fun k => [9, 10, 11, 12].contains k) [[], [], [], []] 64 (by kernel_rfl) rfl (by kernel_rfl) (by simp [nm, nset, -List.map_take, -List.map_drop]) ?_)
      refine en_le _ (le_perm [3, 1000000000000, 1000000000001, 1000000000002, 8] rfl rfl) ?_
      refine en_endm ([(3, 2, [RBx s m])]) (hf := Tryz.results36) (hO := ?_) (hr := ?_)
      · rfl
      · simp [nz, ne, sealG, lget, seal2, packR]
def loT (nx : List Int → Nat → Nat → Bok → Bok) (P : List (List Int)) (B : Bok) : Nat → Bok
  | 0 => B
  | k + 1 => nx (P.getD k []) 0 0 (loT nx P B k)
theorem sLosing_ok {c : List Int} (hcg : gcode c = true) {s m : Nat} (hs : s ≤ 6) (hm : m ≤ 6) (hsm : s * m ≤ 6) {B : Bok} (hB : bookOk c B.1 B.2) : ∃ B' : Bok, bookOk c B'.1 B'.2 ∧ FC Tryz.prog 46 [.ptr 1000000000000 0 0, RBx s m] (BK c B.1 B.2) fun rv O => rv = .ow 1 ((stI (quL (sgL c s m)) (lost c (posB s m)) (posB s m).length).map RVi) ∧ O = BK c B'.1 B'.2 := by
  obtain ⟨nx, hnx⟩ := bx_all hcg
  obtain ⟨B0, hB0, hq⟩ := sQuotient_ok hcg hs hm hsm hB
  have hP := sAll_ok hs hm
  have hPv : ∀ p ∈ posB s m, vld p 0 0 := fun p hp => posB_vld hs hm hsm hp
  have hpl : (posB s m).length ≤ 1000000 := by have := posT_len hs (m + 1) (by omega); unfold posB; omega
  have hQl : (sgL c s m).length = (posB s m).length := sgL_len c s m
  have hZ : ∀ i j, (hi : i < (sgL c s m).length) → (hj : j < (sgL c s m).length) → (sgL c s m)[i] = (sgL c s m)[j] → lost c (posB s m) i = lost c (posB s m) j := fun i j hi hj e => by
    have hi2 : i < (posB s m).length := by omega
    have hj2 : j < (posB s m).length := by omega
    unfold lost
    rw [List.getD_eq_getElem?_getD, List.getElem?_eq_getElem hi2, List.getD_eq_getElem?_getD, List.getElem?_eq_getElem hj2, Option.getD_some, Option.getD_some]
    simp only [sgL, List.getElem_map] at e
    rw [decide_eq_decide]
    exact sgn_lost (List.getElem_mem hi2) (List.getElem_mem hj2) e
  generalize sgL c s m = L at *
  generalize posB s m = P at *
  have hmk : ∀ k, k ≤ P.length → bookOk c (loT nx P B0 k).1 (loT nx P B0 k).2 := by
    intro k
    induction k with
    | zero => intro _; exact hB0
    | succ k ih =>
      intro hk
      rw [loT]
      refine (hnx _ _ _ _ (hPv _ ?_) (ih (by omega))).1
      rw [List.getD_eq_getElem?_getD, List.getElem?_eq_getElem (by omega), Option.getD_some]
      exact List.getElem_mem _
  refine ⟨loT nx P B0 P.length, hmk _ (Nat.le_refl _), ?_⟩
  have hQl2 := quL_len L
  obtain ⟨K, V⟩ := B
  obtain ⟨K0, V0⟩ := B0
  dsimp only at hB hB0 hq ⊢
  refine (fc_in Tryz.func46 rfl (by simp only [Tryz.ntmps46, anys, List.length_cons, List.length_nil, Nat.reduceAdd, Nat.reduceSub, List.replicate_succ, List.replicate_zero, List.cons_append, List.nil_append] <;> rfl) ?_)
  repeat' first | apply w_seq | apply w_block | apply rb_n | apply rb_ret | apply rb_eq | refine rb_ne (by rfl) ?_ | apply w_exit | apply rt_exit | apply w_region | apply l_nil | apply rt_n | apply w_ret | apply rt_ret | apply w_skip | refine w_cond_t rfl ?_ | refine w_cond_f rfl ?_ | ((first | refine w_cnd rfl ?_ ?_ | refine w_cd rfl ?_ ?_ | refine w_cn rfl ?_ ?_ | refine w_cond rfl ?_ ?_) <;> intro hc) | (refine l_le _ (le_freeze 14 rfl (by simp only [nz, nf, nl, nb, nr, ng, nq, nu, reduceIte, Nat.reduceEqDiff, Nat.reduceAdd]; rfl) (by simp only [nz, nf, nl, nb, nr, ng, nq, nu, reduceIte, Nat.reduceEqDiff, Nat.reduceAdd]; rfl)) ?_) | (refine l_o ?_; first | refine l_eqnil rfl (by kernel_rfl) (by intro b; simp only [nz]; rfl) (fun b hb => ?_) | refine l_op rfl (by first | (apply k_callf; first | exact ops_callG (d := 14) [1000000000000, 1000000000001, 1000000000002] [] (BK c K0 V0) (hfc := hq) | exact ops_callf (d := 11) (hfc := hP) | fail) | fail) (hk := ?_) | refine l_op (hk := ?_))
  refine w_le _ (le_perm [1000000000000, 1000000000001, 1000000000002, 9, 3] rfl rfl) ?_
  refine w_loopm (ι := Nat × List Int × Bok) (fun q => [(8, RVn q.1), (5, .ref 9 0 q.2.1.length), (9, .any)]) (fun q => [(1000000000000, 3, [.agg [RIs c, .ref 1000000000001 0 8192, .ref 1000000000002 0 8192]]), (1000000000001, 1, q.2.2.1.map RVi), (1000000000002, 1, q.2.2.2.map RVi), (9, 1, q.2.1.map RVi), (3, 2, [RBx s m])]) (fun q => q.1 ≤ P.length ∧ q.2.1 = stI (quL L) (lost c P) q.1 ∧ q.2.2 = loT nx P (K0, V0) q.1) (fun q => P.length - q.1) (0, [], K0, V0) (h0 := ?_) (hs := ?_) (round := ?_)
  · exact ⟨Nat.zero_le _, rfl, rfl⟩
  · refine le_eq (by (repeat' first | exact .nil | refine .keep ?_ | refine .any ?_); first | done | fail) rfl rfl
  · intro ⟨k, S, K2, V2⟩ ⟨hk, hS, hBk⟩
    dsimp only at hk hS hBk ⊢
    have hSl : S.length ≤ k := by rw [hS]; exact stI_len _ _ _
    by_cases hk2 : k < P.length
    · have hQk : k < (quL L).length := by omega
      have hpd : P.getD k [] = P[k] := by rw [List.getD_eq_getElem?_getD, List.getElem?_eq_getElem hk2]; rfl
      have hs1 := stI_put hZ (k := k) (by omega)
      have hs2 : loT nx P (K0, V0) (k + 1) = nx (P.getD k []) 0 0 (loT nx P (K0, V0) k) := rfl
      rw [← hS] at hs1
      rw [hpd, ← hBk] at hs2
      have hb2 := hmk k hk
      rw [← hBk] at hb2
      have hcall := (hnx P[k] 0 0 (K2, V2) (hPv _ (List.getElem_mem hk2)) hb2).2
      have hlo : lost c P k = decide (mv c P[k] 0 0 = 0) := by unfold lost; rw [hpd]
      rw [hlo] at hs1
      have hPut := l1Put_ok S ((quL L)[k]'hQk) (by omega)
      have hpul := putI_len ((quL L)[k]'hQk) S
      clear hb2 hlo
      unfold SVC at hcall
      dsimp only at hcall
      generalize nx P[k] 0 0 (K2, V2) = B4 at *
      obtain ⟨K4, V4⟩ := B4
      dsimp only at hcall
      generalize mv c P[k] 0 0 = v at *
      generalize putI ((quL L)[k]'hQk) S = S2 at *
      by_cases hv : v = 0
      · rw [if_pos (decide_eq_true hv)] at hs1
        repeat' first | apply w_seq | apply w_block | apply rb_n | apply rb_ret | apply rb_eq | refine rb_ne (by rfl) ?_ | apply w_exit | apply rt_exit | apply w_region | apply l_nil | apply rt_n | apply w_ret | apply rt_ret | apply w_skip | refine w_cond_t rfl ?_ | refine w_cond_f rfl ?_ | ((first | refine w_cnd rfl ?_ ?_ | refine w_cd rfl ?_ ?_ | refine w_cn rfl ?_ ?_ | refine w_cond rfl ?_ ?_) <;> intro hc) | (exfalso; omega) | (refine l_o ?_; first | refine l_eqnil rfl (by kernel_rfl) (by intro b; simp only [nz]; rfl) (fun b hb => ?_) | refine l_op rfl (by first | (apply k_callf; first | exact ops_callG (d := 26) [1000000000000, 1000000000001, 1000000000002] [] (BK c K4 V4) (hfc := hcall) | exact ops_callG (d := 33) [9] [9] ([]) (hfc := hPut) | fail) | fail) (hk := ?_) | refine l_op (hk := ?_))
        refine rn_mk (k + 1, S2, K4, V4) ?_ (by dsimp only; omega) (le_trans (le_ren 33 9 (by decide) (by decide) (by simp [nm, ng, renL_id, onames, nm, -List.map_append, -List.map_take, -List.map_drop]) (by simp [nm, ng, renL_id, onames, nm, -List.map_append, -List.map_take, -List.map_drop]) (by simp only [ng, nm, nu, renL_id, reduceIte, Nat.reduceEqDiff, nm] <;> rfl) (by simp only [ng, nm, nu, renL_id, reduceIte, Nat.reduceEqDiff, nm] <;> rfl)) (le_trans (le_perm [1000000000000, 1000000000001, 1000000000002, 9, 3] rfl rfl) (le_eq (by (repeat' first | exact .nil | refine .keep ?_ | refine .any ?_); first | done | fail) rfl rfl)))
        exact ⟨hk2, hs1.symm, hs2.symm⟩
      · rw [if_neg fun h => hv (by simpa using h)] at hs1
        repeat' first | apply w_seq | apply w_block | apply rb_n | apply rb_ret | apply rb_eq | refine rb_ne (by rfl) ?_ | apply w_exit | apply rt_exit | apply w_region | apply l_nil | apply rt_n | apply w_ret | apply rt_ret | apply w_skip | refine w_cond_t rfl ?_ | refine w_cond_f rfl ?_ | ((first | refine w_cnd rfl ?_ ?_ | refine w_cd rfl ?_ ?_ | refine w_cn rfl ?_ ?_ | refine w_cond rfl ?_ ?_) <;> intro hc) | (exfalso; omega) | (refine l_o ?_; first | refine l_eqnil rfl (by kernel_rfl) (by intro b; simp only [nz]; rfl) (fun b hb => ?_) | refine l_op rfl (by first | (apply k_callf; first | exact ops_callG (d := 26) [1000000000000, 1000000000001, 1000000000002] [] (BK c K4 V4) (hfc := hcall) | fail) | fail) (hk := ?_) | refine l_op (hk := ?_))
        refine rn_mk (k + 1, S, K4, V4) ?_ (by first | omega | (dsimp only; omega)) (le_eq (by (repeat' first | exact .nil | refine .keep ?_ | refine .any ?_); first | done | fail) rfl rfl)
        exact ⟨hk2, hs1.symm, hs2.symm⟩
    · obtain rfl : k = P.length := by omega
      rw [← hS, ← hBk]
      repeat' first | apply w_seq | apply w_block | apply rb_n | apply rb_ret | apply rb_eq | refine rb_ne (by rfl) ?_ | apply w_exit | apply rt_exit | apply w_region | apply l_nil | apply rt_n | apply w_ret | apply rt_ret | apply w_skip | refine w_cond_t rfl ?_ | refine w_cond_f rfl ?_ | ((first | refine w_cnd rfl ?_ ?_ | refine w_cd rfl ?_ ?_ | refine w_cn rfl ?_ ?_ | refine w_cond rfl ?_ ?_) <;> intro hc) | (exfalso; omega) | (refine l_o ?_; first | refine l_eqnil rfl (by kernel_rfl) (by intro b; simp only [nz]; rfl) (fun b hb => ?_) | refine l_op (hk := ?_))
      refine en_le _ (le_perm [3, 1000000000000, 1000000000001, 1000000000002, 9] rfl rfl) ?_
      refine en_endm ([(3, 2, [RBx s m])]) (hf := Tryz.results46) (hO := ?_) (hr := ?_)
      · rfl
      · simp [nz, ne, sealG, lget, seal2, packR]
theorem sQuotientOf_ok (c : List Int) (s m : Int) (hc : c.length ≤ 1048576) : FCr Tryz.prog 9 [RIs c, RBx s m] (quoR c s m) := by
  have hC := goodCodeS_ok c hc
  have hB := sGoodBox_ok s m
  obtain ⟨K0, V0, hb0, hN⟩ := sbook_new c
  unfold quoR
  by_cases hg : gcode c = true
  · rw [hg] at hC ⊢
    by_cases hb : goodB s m = true
    · rw [hb] at hB ⊢
      obtain ⟨a, b, rfl, rfl, h1, h2, h3, h4, h5⟩ := goodB_nat hb
      obtain ⟨⟨K1, V1⟩, _, hq⟩ := sQuotient_ok hg h3 h4 h5 (B := (K0, V0)) hb0
      dsimp only at hq
      rw [Int.toNat_natCast, Int.toNat_natCast]
      generalize quL (sgL c a b) = Z at *
      refine (fcr_in Tryz.func9 rfl (by simp only [Tryz.ntmps9, anys, List.length_cons, List.length_nil, Nat.reduceAdd, Nat.reduceSub, List.replicate_succ, List.replicate_zero, List.cons_append, List.nil_append] <;> rfl) ?_)
      repeat' first | apply w_seq | apply w_region | apply l_nil | apply rt_n | apply w_ret | apply rt_ret | apply w_skip | refine w_cond_t rfl ?_ | refine w_cond_f rfl ?_ | ((first | refine w_cnd rfl ?_ ?_ | refine w_cd rfl ?_ ?_ | refine w_cn rfl ?_ ?_ | refine w_cond rfl ?_ ?_) <;> intro hc) | (refine l_book 1000 1009 1006 1007 hN (hk := ?_)) | (refine l_o ?_; first | refine l_op rfl (by first | (apply k_callf; first | exact ops_callG (d := 17) [1009, 1006, 1007] [] (BK c K1 V1) (hfc := hq) | exact ops_callf (hfc := hC) | exact ops_callf (hfc := hB) | fail) | fail) (hk := ?_) | refine l_op (hk := ?_) | (refine l_g ?_; first | refine l_y rfl rfl rfl ?_ | refine l_n rfl rfl rfl rfl (hk := ?_) | refine l_n' rfl rfl rfl (hk := ?_) | refine l_spnd rfl rfl rfl (h1 := fun hc => ?_) (h2 := fun hc => ?_) | refine l_spd rfl rfl rfl (h1 := fun hc => ?_) (h2 := fun hc => ?_) | refine l_spn rfl rfl rfl (h1 := fun hc => ?_) (h2 := fun hc => ?_) | refine l_sp rfl rfl rfl (h1 := fun hc => ?_) (h2 := fun hc => ?_))) | refine y_fin (by decide +kernel) ?_ | refine y_go (by decide +kernel) ?_ | exact yb_z | refine yb_skip (by decide +kernel) ?_ | refine yb_go rfl ?_ ?_ | refine d_nil ?_ | (refine d_o ?_; first | refine d_fl (hk := ?_) | refine d_ef rfl (by first | exact .callG (d := 17) [1009, 1006, 1007] (BK c K1 V1) (hfc := hq) | exact .callf (hfc := hC) | exact .callf (hfc := hB) | exact .callfY (hfc := hC) | exact .callfY (hfc := hB) | fail) (hk := ?_) | refine d_ef (hk := ?_) | (refine d_g ?_; first | refine d_spnd rfl rfl rfl (h1 := fun hc => ?_) (h2 := fun hc => ?_) | refine d_spd rfl rfl rfl (h1 := fun hc => ?_) (h2 := fun hc => ?_) | refine d_spn rfl rfl rfl (h1 := fun hc => ?_) (h2 := fun hc => ?_) | refine d_sp rfl rfl rfl (h1 := fun hc => ?_) (h2 := fun hc => ?_))) | (refine w_o ?_; first | refine w_drawE (id := 3) (by kernel_rfl) ?_)
      all_goals
        refine en_end (hf := Tryz.results9) (hr := ?_); simp only [ne, nf, nl, nr, lget, reduceIte, Nat.reduceEqDiff]; first | rfl | refine congrArg RVb ?_ | refine congrArg RVi ?_ | skip
    · rw [Bool.not_eq_true] at hb
      rw [hb] at hB ⊢
      refine (fcr_in Tryz.func9 rfl (by simp only [Tryz.ntmps9, anys, List.length_cons, List.length_nil, Nat.reduceAdd, Nat.reduceSub, List.replicate_succ, List.replicate_zero, List.cons_append, List.nil_append] <;> rfl) ?_)
      repeat' first | apply w_seq | apply w_region | apply l_nil | apply rt_n | apply w_ret | apply rt_ret | apply w_skip | refine w_cond_t rfl ?_ | refine w_cond_f rfl ?_ | ((first | refine w_cnd rfl ?_ ?_ | refine w_cd rfl ?_ ?_ | refine w_cn rfl ?_ ?_ | refine w_cond rfl ?_ ?_) <;> intro hc) | (refine l_o ?_; first | refine l_op rfl (by first | (apply k_callf; first | exact ops_callf (hfc := hC) | exact ops_callf (hfc := hB) | fail) | fail) (hk := ?_) | refine l_op (hk := ?_) | (refine l_g ?_; first | refine l_y rfl rfl rfl ?_ | refine l_n rfl rfl rfl rfl (hk := ?_) | refine l_n' rfl rfl rfl (hk := ?_) | refine l_spnd rfl rfl rfl (h1 := fun hc => ?_) (h2 := fun hc => ?_) | refine l_spd rfl rfl rfl (h1 := fun hc => ?_) (h2 := fun hc => ?_) | refine l_spn rfl rfl rfl (h1 := fun hc => ?_) (h2 := fun hc => ?_) | refine l_sp rfl rfl rfl (h1 := fun hc => ?_) (h2 := fun hc => ?_))) | refine d_nil ?_ | (refine d_o ?_; first | refine d_fl (hk := ?_) | refine d_ef rfl (by first | exact .callf (hfc := hC) | exact .callf (hfc := hB) | exact .callfY (hfc := hC) | exact .callfY (hfc := hB) | fail) (hk := ?_) | refine d_ef (hk := ?_) | (refine d_g ?_; first | refine d_spnd rfl rfl rfl (h1 := fun hc => ?_) (h2 := fun hc => ?_) | refine d_spd rfl rfl rfl (h1 := fun hc => ?_) (h2 := fun hc => ?_) | refine d_spn rfl rfl rfl (h1 := fun hc => ?_) (h2 := fun hc => ?_) | refine d_sp rfl rfl rfl (h1 := fun hc => ?_) (h2 := fun hc => ?_))) | (refine w_o ?_; first | refine w_draw (id := 3) (fun _ => true) (fun k => [1, 3].contains k) [[], []] 64 (by kernel_rfl) rfl (by kernel_rfl) (by simp [nm, nset, -List.map_take, -List.map_drop]) ?_)
      refine en_endn ([.ow 1 [], RVb false]) (hf := Tryz.results9) (hr := ?_); simp only [ne]; first | rfl | skip
  · rw [Bool.not_eq_true] at hg
    rw [hg] at hC ⊢
    refine (fcr_in Tryz.func9 rfl (by simp only [Tryz.ntmps9, anys, List.length_cons, List.length_nil, Nat.reduceAdd, Nat.reduceSub, List.replicate_succ, List.replicate_zero, List.cons_append, List.nil_append] <;> rfl) ?_)
    repeat' first | apply w_seq | apply w_region | apply l_nil | apply rt_n | apply w_ret | apply rt_ret | apply w_skip | refine w_cond_t rfl ?_ | refine w_cond_f rfl ?_ | ((first | refine w_cnd rfl ?_ ?_ | refine w_cd rfl ?_ ?_ | refine w_cn rfl ?_ ?_ | refine w_cond rfl ?_ ?_) <;> intro hc) | (refine l_o ?_; first | refine l_op rfl (by first | (apply k_callf; first | exact ops_callf (hfc := hC) | fail) | fail) (hk := ?_) | refine l_op (hk := ?_) | (refine l_g ?_; first | refine l_y rfl rfl rfl ?_ | refine l_n rfl rfl rfl rfl (hk := ?_) | refine l_n' rfl rfl rfl (hk := ?_) | refine l_spnd rfl rfl rfl (h1 := fun hc => ?_) (h2 := fun hc => ?_) | refine l_spd rfl rfl rfl (h1 := fun hc => ?_) (h2 := fun hc => ?_) | refine l_spn rfl rfl rfl (h1 := fun hc => ?_) (h2 := fun hc => ?_) | refine l_sp rfl rfl rfl (h1 := fun hc => ?_) (h2 := fun hc => ?_))) | refine d_nil ?_ | (refine d_o ?_; first | refine d_fl (hk := ?_) | refine d_ef rfl (by first | exact .callf (hfc := hC) | exact .callfY (hfc := hC) | fail) (hk := ?_) | refine d_ef (hk := ?_) | (refine d_g ?_; first | refine d_spnd rfl rfl rfl (h1 := fun hc => ?_) (h2 := fun hc => ?_) | refine d_spd rfl rfl rfl (h1 := fun hc => ?_) (h2 := fun hc => ?_) | refine d_spn rfl rfl rfl (h1 := fun hc => ?_) (h2 := fun hc => ?_) | refine d_sp rfl rfl rfl (h1 := fun hc => ?_) (h2 := fun hc => ?_))) | (refine w_o ?_; first | refine w_draw (id := 3) (fun _ => true) (fun k => [1, 3].contains k) [[], []] 64 (by kernel_rfl) rfl (by kernel_rfl) (by simp [nm, nset, -List.map_take, -List.map_drop]) ?_)
    refine en_endn ([.ow 1 [], RVb false]) (hf := Tryz.results9) (hr := ?_); simp only [ne]; first | rfl | skip
end Go.Proofs.YtmfbcipjknjicaaGreatDoor
