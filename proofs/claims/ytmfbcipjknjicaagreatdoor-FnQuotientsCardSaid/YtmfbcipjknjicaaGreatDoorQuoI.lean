/- The program's classes of all positions of a box. For all codes and boxes. -/
import Derived.Test.YtmfbcipjknjicaaGreatDoorJ27
import Derived.Test.YtmfbcipjknjicaaGreatDoorJ36
namespace Go.Proofs.YtmfbcipjknjicaaGreatDoor
open Eng
attribute [local irreducible] OpS OpG FC FCr Rel Fl Ef DR Fs
attribute [local simp] RV.fzR_names
set_option linter.unusedSimpArgs false
set_option linter.unusedVariables false
set_option maxHeartbeats 0
set_option maxRecDepth 100000

theorem quoEq_ok (s t : List Bool) : FCr Tryz.prog 68 [RBs t, .psh (RBs s)] (RVb (decide (s = t))) := by
  have hE := equalB_ok s t
  generalize decide (s = t) = b at *
  refine (fcr_in Tryz.func68 rfl (by simp only [Tryz.ntmps68, anys, List.length_cons, List.length_nil, Nat.reduceAdd, Nat.reduceSub, List.replicate_succ, List.replicate_zero, List.cons_append, List.nil_append] <;> rfl) ?_)
  repeat' first | apply w_seq | apply w_region | apply l_nil | apply rt_n | apply w_ret | apply rt_ret | apply w_skip | (refine l_o ?_; first | refine l_op rfl (by first | (apply k_callf; first | exact ops_callf (hfc := hE) | fail) | fail) (hk := ?_) | refine l_op (hk := ?_))
  refine en_one (hf := Tryz.results68) (h := ?_); simp only [lget]; first | refine congrArg RVb ?_ | refine congrArg RVi ?_ | skip
theorem indexFunc_ok (L : List (List Bool)) (s : List Bool) (hl : L.length ≤ 1048576) : FC Tryz.prog 66 [.ref 1000000000000 0 L.length, .fn (.c (.func 68)) [.psh (RBs s)]] [(1000000000000, 1, L.map RBs)] fun rv O => rv = RVi (fstB (fun t => decide (s = t)) L 0) ∧ O = [] := by
  refine (fc_in Tryz.func66 rfl (by simp only [Tryz.ntmps66, anys, List.length_cons, List.length_nil, Nat.reduceAdd, Nat.reduceSub, List.replicate_succ, List.replicate_zero, List.cons_append, List.nil_append] <;> rfl) ?_)
  refine w_le _ (le_freeze 1000000000000 rfl (by simp only [nz, nf, nl, nb, nr, ng, nq, nu, reduceIte, Nat.reduceEqDiff, Nat.reduceAdd]; rfl) (by simp only [nz, nf, nl, nb, nr, ng, nq, nu, reduceIte, Nat.reduceEqDiff, Nat.reduceAdd]; rfl)) ?_
  repeat' first | apply w_seq | apply w_block | apply rb_n | apply rb_ret | apply rb_eq | refine rb_ne (by rfl) ?_ | apply w_exit | apply rt_exit | apply w_region | apply l_nil | apply rt_n | apply w_ret | apply rt_ret | apply w_skip | refine w_cond_t rfl ?_ | refine w_cond_f rfl ?_ | ((first | refine w_cnd rfl ?_ ?_ | refine w_cd rfl ?_ ?_ | refine w_cn rfl ?_ ?_ | refine w_cond rfl ?_ ?_) <;> intro hc) | (refine l_o ?_; first | refine l_op (hk := ?_))
  refine w_loopm (ι := Nat) (fun k => [(8, RVn k), (5, .any)]) (fun _ => []) (fun k => k ≤ L.length ∧ fstB (fun t => decide (s = t)) (L.drop k) k = fstB (fun t => decide (s = t)) L 0) (fun k => L.length - k) 0 (h0 := ?_) (hs := ?_) (round := ?_)
  · exact ⟨Nat.zero_le _, rfl⟩
  · refine le_eq (by (repeat' first | exact .nil | refine .keep ?_ | refine .any ?_); first | done | fail) rfl rfl
  · intro k ⟨hk, hF⟩
    by_cases hk2 : k < L.length
    · have hq := quoEq_ok s L[k]
      rw [List.drop_eq_getElem_cons hk2, fstB] at hF
      by_cases he : s = L[k]
      · rw [decide_eq_true he, if_pos rfl] at hF
        rw [decide_eq_true he] at hq
        rw [← hF]
        repeat' first | apply w_seq | apply w_block | apply rb_n | apply rb_ret | apply rb_eq | refine rb_ne (by rfl) ?_ | apply w_exit | apply rt_exit | apply w_region | apply l_nil | apply rt_n | apply w_ret | apply rt_ret | apply w_skip | refine w_cond_t rfl ?_ | refine w_cond_f rfl ?_ | ((first | refine w_cnd rfl ?_ ?_ | refine w_cd rfl ?_ ?_ | refine w_cn rfl ?_ ?_ | refine w_cond rfl ?_ ?_) <;> intro hc) | (exfalso; omega) | (refine l_o ?_; first | refine l_op rfl (by first | (apply k_callt; first | exact ops_callFS (hfc := hq) | fail) | fail) (hk := ?_) | refine l_op (hk := ?_))
        exact en_m (junk := []) (.inl rfl) Tryz.results66 rfl rfl rfl rfl
      · rw [decide_eq_false he, if_neg (by simp)] at hF
        rw [decide_eq_false he] at hq
        repeat' first | apply w_seq | apply w_block | apply rb_n | apply rb_ret | apply rb_eq | refine rb_ne (by rfl) ?_ | apply w_exit | apply rt_exit | apply w_region | apply l_nil | apply rt_n | apply w_ret | apply rt_ret | apply w_skip | refine w_cond_t rfl ?_ | refine w_cond_f rfl ?_ | ((first | refine w_cnd rfl ?_ ?_ | refine w_cd rfl ?_ ?_ | refine w_cn rfl ?_ ?_ | refine w_cond rfl ?_ ?_) <;> intro hc) | (exfalso; omega) | (refine l_o ?_; first | refine l_op rfl (by first | (apply k_callt; first | exact ops_callFS (hfc := hq) | fail) | fail) (hk := ?_) | refine l_op (hk := ?_))
        refine rn_mk (k + 1) ?_ (by first | omega | (dsimp only; omega)) (le_eq (by (repeat' first | exact .nil | refine .keep ?_ | refine .any ?_); first | done | fail) rfl rfl)
        exact ⟨hk2, hF⟩
    · rw [List.drop_eq_nil_of_le (by omega), fstB] at hF
      rw [← hF]
      repeat' first | apply w_seq | apply w_block | apply rb_n | apply rb_ret | apply rb_eq | refine rb_ne (by rfl) ?_ | apply w_exit | apply rt_exit | apply w_region | apply l_nil | apply rt_n | apply w_ret | apply rt_ret | apply w_skip | refine w_cond_t rfl ?_ | refine w_cond_f rfl ?_ | ((first | refine w_cnd rfl ?_ ?_ | refine w_cd rfl ?_ ?_ | refine w_cn rfl ?_ ?_ | refine w_cond rfl ?_ ?_) <;> intro hc) | (exfalso; omega) | (refine l_o ?_; first | refine l_op (hk := ?_))
      exact en_m (junk := []) (.inl rfl) Tryz.results66 rfl rfl rfl rfl
theorem cloneB_ok (L : List (List Bool)) (hl : L.length ≤ 1048576) : FC Tryz.prog 67 [.ref 1000000000000 0 L.length] [(1000000000000, 1, L.map RBs)] fun rv O => rv = .ow 1 (L.map RBs) ∧ O = [(1000000000000, 1, L.map RBs)] := by
  by_cases h0 : L = []
  · subst h0
    refine (fc_in Tryz.func67 rfl (by simp only [Tryz.ntmps67, anys, List.length_cons, List.length_nil, Nat.reduceAdd, Nat.reduceSub, List.replicate_succ, List.replicate_zero, List.cons_append, List.nil_append] <;> rfl) ?_)
    refine w_le _ (le_emp 0 rfl (by simp only [nz]; rfl)) ?_
    repeat' first | apply w_seq | apply w_region | apply l_nil | apply rt_n | apply w_ret | apply rt_ret | apply w_skip | refine w_cond_t rfl ?_ | refine w_cond_f rfl ?_ | ((first | refine w_cnd rfl ?_ ?_ | refine w_cd rfl ?_ ?_ | refine w_cn rfl ?_ ?_ | refine w_cond rfl ?_ ?_) <;> intro hc) | (refine l_o ?_; first | refine l_eqnil rfl (by kernel_rfl) (by intro b; simp only [nz]; rfl) (fun b hb => ?_) | refine l_op rfl (by first | (apply k_append; first | exact ops_apsh rfl rfl rfl rfl rfl (by simp [nm, nset, oerase, St.get, lget, -List.map_take, -List.map_drop]) (by simp [nm, nset, oerase, St.get, lget, -List.map_take, -List.map_drop]) ⟨by kernel_rfl, by kernel_rfl, by kernel_rfl, by kernel_rfl⟩ (by decide) | fail) | fail) (hk := ?_) | refine l_op (hk := ?_))
    all_goals first
      | (refine en_le _ (le_nil 2 100 1 (by omega) rfl (by simp [nm]) (by simp [nm, onames]) (by simp only [nz]; rfl)) ?_
         refine en_endm ([]) (hf := Tryz.results67) (hO := ?_) (hr := ?_)
         · rfl
         · rfl
         done)
      | (refine en_endm ([]) (hf := Tryz.results67) (hO := ?_) (hr := ?_)
         · rfl
         · rfl
         done)
      | trace_state
  · have h1 : L.map RBs ≠ [] := fun e => h0 (List.map_eq_nil_iff.1 e)
    have h2 : (L.map RBs).all RV.plain = true := by simp [RV.plain]
    refine (fc_in Tryz.func67 rfl (by simp only [Tryz.ntmps67, anys, List.length_cons, List.length_nil, Nat.reduceAdd, Nat.reduceSub, List.replicate_succ, List.replicate_zero, List.cons_append, List.nil_append] <;> rfl) ?_)
    repeat' first | apply w_seq | apply w_region | apply l_nil | apply rt_n | apply w_ret | apply rt_ret | apply w_skip | refine w_cond_t rfl ?_ | refine w_cond_f rfl ?_ | ((first | refine w_cnd rfl ?_ ?_ | refine w_cd rfl ?_ ?_ | refine w_cn rfl ?_ ?_ | refine w_cond rfl ?_ ?_) <;> intro hc) | (refine l_eqnilR (by kernel_rfl) (hk := fun b hb => ?_)) | (exfalso; exact h1 (hb hc)) | (refine l_o ?_; first | refine l_eqnil rfl (by kernel_rfl) (by intro b; simp only [nz]; rfl) (fun b hb => ?_) | refine l_op rfl (by first | (apply k_append; first | exact ops_apkeep rfl rfl rfl rfl (by decide) rfl (by simp) h1 h2 (by simp [nm, nset, oerase, St.get, lget, -List.map_take, -List.map_drop]) (by simp [nm, nset, oerase, St.get, lget, -List.map_take, -List.map_drop]) (by simp [nm, nset, oerase, St.get, lget, -List.map_take, -List.map_drop]) ⟨by kernel_rfl, by kernel_rfl, by kernel_rfl, by kernel_rfl⟩ (by simp; omega) | fail) | fail) (hk := ?_) | refine l_op (hk := ?_))
    refine en_endm ([]) (hf := Tryz.results67) (hO := ?_) (hr := ?_)
    · rfl
    · rfl
theorem RBs_renL (σ : Nat → Nat) (l : List (List Bool)) : RV.renL σ (l.map RBs) = l.map RBs := renL_map0 σ RBs l fun x => by simp [ng, nm, renL_id]
theorem vc9 (l : List RV) : viewC [(9, 1, [RV.sh l])] (.ptr 9 0 0) = .psh (.sh l) := by simp [viewC, olook, RV.fz]
def quM (sx : List Int → Mem → Mem) (P : List (List Int)) (M : Mem) : Mem := P.foldl (fun M p => sx p M) M
theorem quotient_ok {c : List Int} (hcg : gcode c = true) {s m : Nat} (hs : s ≤ 6) (hm : m ≤ 6) (hsm : s * m ≤ 6) {M : Mem} (hM : memOk c M) : ∃ M', memOk c M' ∧ ∀ b : Nat, FC Tryz.prog 33 [.agg [RIs c, .v (.map (some b))], RBx s m] [(1000000000000, 0, MSI b M)] fun rv O => rv = .ow 1 ((quL (sgL c s m)).map RVi) ∧ O = [(1000000000000, 0, MSI b M')] := by
  obtain ⟨sx, hsx⟩ := sx_all hcg hs hm
  have hP := positions_ok hs hm
  have hPo : ∀ p ∈ posB s m, okS s m p := fun p hp => (posB_okS hs hm hsm hp).1
  have hpl : (posB s m).length ≤ 1000000 := by have := posT_len hs (m + 1) (by omega); unfold posB; omega
  have hmk : ∀ k, k ≤ (posB s m).length → memOk c (quM sx ((posB s m).take k) M) := by
    intro k
    induction k with
    | zero => intro _; simpa [quM] using hM
    | succ k ih =>
      intro hk
      rw [List.take_succ_eq_append_getElem (by omega), quM, List.foldl_append]
      exact (hsx _ _ (hPo _ (List.getElem_mem (by omega))) (ih (by omega))).1
  have hql : ∀ (k : Nat) (p : List Int), (posB s m)[k]? = some p → (sgL c s m)[k]? = some (sgnB c s m p) := fun k p h => by simp [sgL, h]
  have hLl := sgL_len c s m
  refine ⟨quM sx (posB s m) M, by have := hmk _ (Nat.le_refl _); rwa [List.take_length] at this, fun b => ?_⟩
  generalize sgL c s m = L at *
  generalize posB s m = P at *
  have hQl := quL_len L
  refine (fc_in Tryz.func33 rfl (by simp only [Tryz.ntmps33, anys, List.length_cons, List.length_nil, Nat.reduceAdd, Nat.reduceSub, List.replicate_succ, List.replicate_zero, List.cons_append, List.nil_append] <;> rfl) ?_)
  repeat' first | apply w_seq | apply w_block | apply rb_n | apply rb_ret | apply rb_eq | refine rb_ne (by rfl) ?_ | apply w_exit | apply rt_exit | apply w_region | apply l_nil | apply rt_n | apply w_ret | apply rt_ret | apply w_skip | refine w_cond_t rfl ?_ | refine w_cond_f rfl ?_ | ((first | refine w_cnd rfl ?_ ?_ | refine w_cd rfl ?_ ?_ | refine w_cn rfl ?_ ?_ | refine w_cond rfl ?_ ?_) <;> intro hc) | (refine l_o ?_; first | refine l_op rfl (by first | (apply k_callf; first | exact ops_callf (d := 13) (hfc := hP) | fail) | fail) (hk := ?_) | refine l_op (hk := ?_)) | refine d_nil ?_ | (refine d_o ?_; first | refine d_fl (hk := ?_) | refine d_ef rfl (by first | exact .callf (d := 13) (hfc := hP) | fail) (hk := ?_) | refine d_ef (hk := ?_)) | (refine w_o ?_; first | refine w_draw (id := 7) (fun _ => true) (fun k => [2, 4, 5, 6, 7, 8, 9].contains k) [[], [], [], [], [], [], []] 64 (by kernel_rfl) rfl (by kernel_rfl) (by simp [nm, nset, -List.map_take, -List.map_drop]) ?_)
  refine w_le _ (le_perm [11, 10, 3, 2, 1000000000000] rfl rfl) ?_
  refine w_loopm (ι := Nat × List (List Bool) × List Int × Mem) (fun q => [(15, RVn q.1), (5, .ref 10 0 q.2.1.length), (6, .ref 11 0 q.2.2.1.length), (8, .any), (9, .any), (10, .any), (11, .any)]) (fun q => [(11, 1, q.2.2.1.map RVi), (10, 1, q.2.1.map RBs), (3, 2, [RBx s m]), (2, 2, [RV.agg [RIs c, RV.v (Value.map (some b))]]), (1000000000000, 0, MSI b q.2.2.2)]) (fun q => q.1 ≤ P.length ∧ q.2.1 = L.take q.1 ∧ q.2.2.1 = (quL L).take q.1 ∧ q.2.2.2 = quM sx (P.take q.1) M) (fun q => P.length - q.1) (0, [], [], M) (h0 := ?_) (hs := ?_) (round := ?_)
  · exact ⟨Nat.zero_le _, rfl, rfl, rfl⟩
  · refine le_eq (by (repeat' first | exact .nil | refine .keep ?_ | refine .any ?_); first | done | fail) rfl rfl
  · intro ⟨k, S, Q, M1⟩ ⟨hk, hS, hQ, hM1⟩
    dsimp only at hk hS hQ hM1 ⊢
    have hSl : S.length = k := by rw [hS, List.length_take]; omega
    have hQk : Q.length = k := by rw [hQ, List.length_take]; omega
    by_cases hk2 : k < P.length
    · have hq := hsx P[k] M1 (hPo _ (List.getElem_mem hk2)) (hM1 ▸ hmk k hk)
      have hcall := hq.2 b
      have hW : L[k]'(by omega) = sgnB c s m P[k] := (List.getElem?_eq_some_iff.1 (hql k P[k] (List.getElem?_eq_getElem hk2))).2
      have hfs := fst_seen (L := L) (i := k) (by omega)
      have hS2 : L.take (k + 1) = S ++ [sgnB c s m P[k]] := by rw [List.take_succ_eq_append_getElem (by omega), ← hS, hW]
      have hM2 : quM sx (P.take (k + 1)) M = sx P[k] M1 := by
        rw [List.take_succ_eq_append_getElem hk2, quM, List.foldl_append, hM1]; rfl
      have hQ2 : (quL L).take (k + 1) = Q ++ [(quL L)[k]'(by omega)] := by rw [List.take_succ_eq_append_getElem (by omega), ← hQ]
      rw [← hS, hW] at hfs
      have hI := indexFunc_ok (S ++ [sgnB c s m P[k]]) (sgnB c s m P[k]) (by simp; omega)
      rw [hfs] at hI
      have hC := cloneB_ok S (by omega)
      unfold SC at hcall
      generalize (quL L)[k]'(by omega) = v at *
      generalize sx P[k] M1 = M2 at *
      generalize sgnB c s m P[k] = W at *
      repeat' first | apply w_seq | apply w_block | apply rb_n | apply rb_ret | apply rb_eq | refine rb_ne (by rfl) ?_ | apply w_exit | apply rt_exit | apply w_region | apply l_nil | apply rt_n | apply w_ret | apply rt_ret | apply w_skip | refine w_cond_t rfl ?_ | refine w_cond_f rfl ?_ | ((first | refine w_cnd rfl ?_ ?_ | refine w_cd rfl ?_ ?_ | refine w_cn rfl ?_ ?_ | refine w_cond rfl ?_ ?_) <;> intro hc) | (exfalso; omega) | (refine l_le _ (le_freeze 22 rfl (by simp only [nz, nf, nl, nb, nr, ng, nq, nu, reduceIte, Nat.reduceEqDiff, Nat.reduceAdd]; rfl) (by simp only [nz, nf, nl, nb, nr, ng, nq, nu, reduceIte, Nat.reduceEqDiff, Nat.reduceAdd]; rfl)) ?_) | (refine w_at (i := 7) ?_; refine w_le _ (le_freeze 9 rfl (by simp only [nz, nf, nl, nb, nr, ng, nq, nu, reduceIte, Nat.reduceEqDiff, vc9]; rfl) (by simp only [nz, nf, nl, nb, nr, ng, nq, nu, reduceIte, Nat.reduceEqDiff, Nat.reduceAdd]; rfl)) ?_) | (refine l_o ?_; first | refine l_op rfl (by first | (apply k_makeFunc; first | exact ops_makeFuncS | fail) | (apply k_buildSlice; first | exact ops_buildSlice_fz (d := some 35) (k := 1) rfl rfl rfl (by decide) (by decide) (by kernel_rfl) (by decide +kernel) rfl | fail) | (apply k_callf; first | exact ops_callP (d := 22) 1000000000000 (MSI b M2) (hfc := hcall) | exact ops_callP (d := 25) 10 (S.map RBs) (hfc := hC) | exact ops_callG (d := 30) [28] [28] ([]) (hfc := hI) | fail) | fail) (hk := ?_) | refine l_op (hk := ?_)) | refine d_nil ?_ | (refine d_o ?_; first | refine d_fl rfl (by first | exact .pl (by first | (apply q_makeFunc; first | exact fs_makeFuncS | fail) | fail) | fail) (hk := ?_) | refine d_fl (hk := ?_) | refine d_ef rfl (by first | exact .callP (d := 22) 1000000000000 (MSI b M2) (hfc := hcall) | exact .callP (d := 25) 10 (S.map RBs) (hfc := hC) | exact .callG (d := 30) [28] ([]) (hfc := hI) | fail) (hk := ?_) | refine d_ef (hk := ?_)) | (refine w_o ?_; first | refine w_draw (id := 7) (roL []) (fun k => [2, 5, 7, 9, 10].contains k) [[25],[28],[],[32],[]] 64 (by kernel_rfl) rfl (by kernel_rfl) (by simp [nm, nset, -List.map_take, -List.map_drop]) ?_)
      refine rn_mk (k + 1, S ++ [W], Q ++ [v], M2) ?_ (by dsimp only; omega) (le_trans (le_kill 11 (by simp only [nz, nf, nl, nb, nr, ng, nq, nu, reduceIte, Nat.reduceEqDiff, Nat.reduceAdd]; rfl)) (le_trans (le_ren 32 11 (by decide) (by decide) (by simp [nm, ng, renL_id, onames, MSI_ren, RBs_renL, -List.map_append, -List.map_take, -List.map_drop]) (by simp [nm, ng, renL_id, onames, MSI_ren, RBs_renL, -List.map_append, -List.map_take, -List.map_drop]) (by simp only [ng, nm, nu, renL_id, reduceIte, Nat.reduceEqDiff, MSI_ren, RBs_renL] <;> rfl) (by simp only [ng, nm, nu, renL_id, reduceIte, Nat.reduceEqDiff, MSI_ren, RBs_renL] <;> rfl)) (le_eq (by (repeat' first | exact .nil | refine .keep ?_ | refine .any ?_); first | done | fail) rfl rfl)))
      exact ⟨hk2, hS2.symm, hQ2.symm, hM2.symm⟩
    · obtain rfl : k = P.length := by omega
      rw [List.take_of_length_le (by omega)] at hQ
      rw [List.take_length] at hM1
      rw [← hQ, ← hM1]
      repeat' first | apply w_seq | apply w_block | apply rb_n | apply rb_ret | apply rb_eq | refine rb_ne (by rfl) ?_ | apply w_exit | apply rt_exit | apply w_region | apply l_nil | apply rt_n | apply w_ret | apply rt_ret | apply w_skip | refine w_cond_t rfl ?_ | refine w_cond_f rfl ?_ | ((first | refine w_cnd rfl ?_ ?_ | refine w_cd rfl ?_ ?_ | refine w_cn rfl ?_ ?_ | refine w_cond rfl ?_ ?_) <;> intro hc) | (exfalso; omega) | (refine l_o ?_; first | refine l_op (hk := ?_)) | refine d_nil ?_ | (refine d_o ?_; first | refine d_fl (hk := ?_) | refine d_ef (hk := ?_)) | (refine w_o ?_; first | refine w_draw (id := 7) (fun _ => true) (fun k => [2, 4, 5, 6, 7, 8, 9].contains k) [[], [], [], [], [], [], []] 64 (by kernel_rfl) rfl (by kernel_rfl) (by simp [nm, nset, -List.map_take, -List.map_drop]) ?_)
      refine en_endm ([(10, 1, S.map RBs), (3, 2, [RBx s m]), (2, 2, [RV.agg [RIs c, RV.v (Value.map (some b))]])]) (hf := Tryz.results33) (hO := ?_) (hr := ?_)
      · rfl
      · simp [nz, ne, sealG, lget, seal2, packR]
def quoR (c : List Int) (s m : Int) : RV := if gcode c && goodB s m then .tup [.ow 1 ((quL (sgL c s.toNat m.toNat)).map RVi), RVb true] else .tup [.ow 1 [], RVb false]
theorem quotientOf_ok (c : List Int) (s m : Int) (hc : c.length ≤ 1048576) : FCr Tryz.prog 8 [RIs c, RBx s m] (quoR c s m) := by
  have hC := goodCode_ok c hc
  have hB := goodBox_ok s m
  have hN := newMisere_ok c
  unfold quoR
  by_cases hg : gcode c = true
  · rw [hg] at hC ⊢
    by_cases hb : goodB s m = true
    · rw [hb] at hB ⊢
      obtain ⟨a, b, rfl, rfl, h1, h2, h3, h4, h5⟩ := goodB_nat hb
      obtain ⟨M', _, hq⟩ := quotient_ok hg h3 h4 h5 (memOk_nil c)
      rw [Int.toNat_natCast, Int.toNat_natCast]
      generalize quL (sgL c a b) = Z at *
      refine (fcr_in Tryz.func8 rfl (by simp only [Tryz.ntmps8, anys, List.length_cons, List.length_nil, Nat.reduceAdd, Nat.reduceSub, List.replicate_succ, List.replicate_zero, List.cons_append, List.nil_append] <;> rfl) ?_)
      repeat' first | apply w_seq | apply w_region | apply l_nil | apply rt_n | apply w_ret | apply rt_ret | apply w_skip | refine w_cond_t rfl ?_ | refine w_cond_f rfl ?_ | ((first | refine w_cnd rfl ?_ ?_ | refine w_cd rfl ?_ ?_ | refine w_cn rfl ?_ ?_ | refine w_cond rfl ?_ ?_) <;> intro hc) | (refine l_callM (hfc := hN) (hk := fun b _ => ?_)) | (refine l_o ?_; first | refine l_op rfl (by first | (apply k_callf; first | exact ops_callP (d := 17) 15 (MSI _ M') (hfc := (hq _)) | exact ops_callf (hfc := hC) | exact ops_callf (hfc := hB) | fail) | fail) (hk := ?_) | refine l_op (hk := ?_) | (refine l_g ?_; first | refine l_y rfl rfl rfl ?_ | refine l_n rfl rfl rfl rfl (hk := ?_) | refine l_n' rfl rfl rfl (hk := ?_) | refine l_spnd rfl rfl rfl (h1 := fun hc => ?_) (h2 := fun hc => ?_) | refine l_spd rfl rfl rfl (h1 := fun hc => ?_) (h2 := fun hc => ?_) | refine l_spn rfl rfl rfl (h1 := fun hc => ?_) (h2 := fun hc => ?_) | refine l_sp rfl rfl rfl (h1 := fun hc => ?_) (h2 := fun hc => ?_))) | refine y_fin (by decide +kernel) ?_ | refine y_go (by decide +kernel) ?_ | exact yb_z | refine yb_skip (by decide +kernel) ?_ | refine yb_go rfl ?_ ?_ | refine d_nil ?_ | (refine d_o ?_; first | refine d_fl (hk := ?_) | refine d_ef rfl (by first | exact .callP (d := 17) 15 (MSI _ M') (hfc := (hq _)) | exact .callf (hfc := hC) | exact .callf (hfc := hB) | exact .callPY (d := 17) 15 (MSI _ M') (hfc := (hq _)) | exact .callfY (hfc := hC) | exact .callfY (hfc := hB) | fail) (hk := ?_) | refine d_ef (hk := ?_) | (refine d_g ?_; first | refine d_spnd rfl rfl rfl (h1 := fun hc => ?_) (h2 := fun hc => ?_) | refine d_spd rfl rfl rfl (h1 := fun hc => ?_) (h2 := fun hc => ?_) | refine d_spn rfl rfl rfl (h1 := fun hc => ?_) (h2 := fun hc => ?_) | refine d_sp rfl rfl rfl (h1 := fun hc => ?_) (h2 := fun hc => ?_))) | (refine w_o ?_; first | refine w_drawE (id := 3) (by kernel_rfl) ?_)
      all_goals
        refine en_end (hf := Tryz.results8) (hr := ?_); simp only [ne, nf, nl, nr, lget, reduceIte, Nat.reduceEqDiff]; first | rfl | refine congrArg RVb ?_ | refine congrArg RVi ?_ | skip
    · rw [Bool.not_eq_true] at hb
      rw [hb] at hB ⊢
      refine (fcr_in Tryz.func8 rfl (by simp only [Tryz.ntmps8, anys, List.length_cons, List.length_nil, Nat.reduceAdd, Nat.reduceSub, List.replicate_succ, List.replicate_zero, List.cons_append, List.nil_append] <;> rfl) ?_)
      repeat' first | apply w_seq | apply w_region | apply l_nil | apply rt_n | apply w_ret | apply rt_ret | apply w_skip | refine w_cond_t rfl ?_ | refine w_cond_f rfl ?_ | ((first | refine w_cnd rfl ?_ ?_ | refine w_cd rfl ?_ ?_ | refine w_cn rfl ?_ ?_ | refine w_cond rfl ?_ ?_) <;> intro hc) | (refine l_o ?_; first | refine l_op rfl (by first | (apply k_callf; first | exact ops_callf (hfc := hC) | exact ops_callf (hfc := hB) | fail) | fail) (hk := ?_) | refine l_op (hk := ?_) | (refine l_g ?_; first | refine l_y rfl rfl rfl ?_ | refine l_n rfl rfl rfl rfl (hk := ?_) | refine l_n' rfl rfl rfl (hk := ?_) | refine l_spnd rfl rfl rfl (h1 := fun hc => ?_) (h2 := fun hc => ?_) | refine l_spd rfl rfl rfl (h1 := fun hc => ?_) (h2 := fun hc => ?_) | refine l_spn rfl rfl rfl (h1 := fun hc => ?_) (h2 := fun hc => ?_) | refine l_sp rfl rfl rfl (h1 := fun hc => ?_) (h2 := fun hc => ?_))) | refine d_nil ?_ | (refine d_o ?_; first | refine d_fl (hk := ?_) | refine d_ef rfl (by first | exact .callf (hfc := hC) | exact .callf (hfc := hB) | exact .callfY (hfc := hC) | exact .callfY (hfc := hB) | fail) (hk := ?_) | refine d_ef (hk := ?_) | (refine d_g ?_; first | refine d_spnd rfl rfl rfl (h1 := fun hc => ?_) (h2 := fun hc => ?_) | refine d_spd rfl rfl rfl (h1 := fun hc => ?_) (h2 := fun hc => ?_) | refine d_spn rfl rfl rfl (h1 := fun hc => ?_) (h2 := fun hc => ?_) | refine d_sp rfl rfl rfl (h1 := fun hc => ?_) (h2 := fun hc => ?_))) | (refine w_o ?_; first | refine w_draw (id := 3) (fun _ => true) (fun k => [1, 3].contains k) [[], []] 64 (by kernel_rfl) rfl (by kernel_rfl) (by simp [nm, nset, -List.map_take, -List.map_drop]) ?_)
      refine en_endn ([.ow 1 [], RVb false]) (hf := Tryz.results8) (hr := ?_); simp only [ne]; first | rfl | skip
  · rw [Bool.not_eq_true] at hg
    rw [hg] at hC ⊢
    refine (fcr_in Tryz.func8 rfl (by simp only [Tryz.ntmps8, anys, List.length_cons, List.length_nil, Nat.reduceAdd, Nat.reduceSub, List.replicate_succ, List.replicate_zero, List.cons_append, List.nil_append] <;> rfl) ?_)
    repeat' first | apply w_seq | apply w_region | apply l_nil | apply rt_n | apply w_ret | apply rt_ret | apply w_skip | refine w_cond_t rfl ?_ | refine w_cond_f rfl ?_ | ((first | refine w_cnd rfl ?_ ?_ | refine w_cd rfl ?_ ?_ | refine w_cn rfl ?_ ?_ | refine w_cond rfl ?_ ?_) <;> intro hc) | (refine l_o ?_; first | refine l_op rfl (by first | (apply k_callf; first | exact ops_callf (hfc := hC) | fail) | fail) (hk := ?_) | refine l_op (hk := ?_) | (refine l_g ?_; first | refine l_y rfl rfl rfl ?_ | refine l_n rfl rfl rfl rfl (hk := ?_) | refine l_n' rfl rfl rfl (hk := ?_) | refine l_spnd rfl rfl rfl (h1 := fun hc => ?_) (h2 := fun hc => ?_) | refine l_spd rfl rfl rfl (h1 := fun hc => ?_) (h2 := fun hc => ?_) | refine l_spn rfl rfl rfl (h1 := fun hc => ?_) (h2 := fun hc => ?_) | refine l_sp rfl rfl rfl (h1 := fun hc => ?_) (h2 := fun hc => ?_))) | refine d_nil ?_ | (refine d_o ?_; first | refine d_fl (hk := ?_) | refine d_ef rfl (by first | exact .callf (hfc := hC) | exact .callfY (hfc := hC) | fail) (hk := ?_) | refine d_ef (hk := ?_) | (refine d_g ?_; first | refine d_spnd rfl rfl rfl (h1 := fun hc => ?_) (h2 := fun hc => ?_) | refine d_spd rfl rfl rfl (h1 := fun hc => ?_) (h2 := fun hc => ?_) | refine d_spn rfl rfl rfl (h1 := fun hc => ?_) (h2 := fun hc => ?_) | refine d_sp rfl rfl rfl (h1 := fun hc => ?_) (h2 := fun hc => ?_))) | (refine w_o ?_; first | refine w_draw (id := 3) (fun _ => true) (fun k => [1, 3].contains k) [[], []] 64 (by kernel_rfl) rfl (by kernel_rfl) (by simp [nm, nset, -List.map_take, -List.map_drop]) ?_)
    refine en_endn ([.ow 1 [], RVb false]) (hf := Tryz.results8) (hr := ?_); simp only [ne]; first | rfl | skip
end Go.Proofs.YtmfbcipjknjicaaGreatDoor
