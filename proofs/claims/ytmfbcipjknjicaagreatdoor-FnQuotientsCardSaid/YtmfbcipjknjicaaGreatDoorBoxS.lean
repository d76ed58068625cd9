/- The program's signs and classes of positions. For all boxes and positions of the sizes that the theorems name. -/
import Derived.Test.YtmfbcipjknjicaaGreatDoorBoxI
namespace Go.Proofs.YtmfbcipjknjicaaGreatDoor
open Eng
attribute [local irreducible] OpS OpG FC FCr Rel Fl Ef DR Fs
attribute [local simp] RV.fzR_names
set_option linter.unusedSimpArgs false
set_option linter.unusedVariables false
set_option maxHeartbeats 0
set_option maxRecDepth 100000

theorem equalB_ok (a b : List Bool) : FCr Tryz.prog 41 [RBs a, RBs b] (RVb (decide (a = b))) := by
  refine fcr_lens fun hL => ?_
  simp only [lnk] at hL
  refine (fcr_in Tryz.func41 rfl (by simp only [Tryz.ntmps41, anys, List.length_cons, List.length_nil, Nat.reduceAdd, Nat.reduceSub, List.replicate_succ, List.replicate_zero, List.cons_append, List.nil_append] <;> rfl) ?_)
  repeat' first | apply w_seq | apply w_block | apply rb_n | apply rb_ret | apply rb_eq | refine rb_ne (by rfl) ?_ | apply w_exit | apply rt_exit | apply w_region | apply l_nil | apply rt_n | apply w_ret | apply rt_ret | apply w_skip | refine w_cond_t rfl ?_ | refine w_cond_f rfl ?_ | ((first | refine w_cnd rfl ?_ ?_ | refine w_cd rfl ?_ ?_ | refine w_cn rfl ?_ ?_ | refine w_cond rfl ?_ ?_) <;> intro hc) | (refine l_o ?_; first | refine l_op (hk := ?_)) | refine d_nil ?_ | (refine d_o ?_; first | refine d_fl (hk := ?_) | refine d_ef (hk := ?_)) | (refine w_o ?_; first | refine w_draw (id := 6) (fun _ => true) (fun k => [].contains k) [] 64 (by kernel_rfl) rfl (by kernel_rfl) (by simp [nm, nset, -List.map_take, -List.map_drop]) ?_)
  · refine en_one (hf := Tryz.results41) (h := ?_); simp only [lget]; first | refine congrArg RVb ?_ | refine congrArg RVi ?_ | skip
    have : a ≠ b := fun e => by rw [e] at hc; exact hc rfl
    simp [this]
  have hn : a.length = b.length := by omega
  clear hc
  refine w_loopm (ι := Nat) (fun k => [(13, RVn k), (5, .any)]) (fun _ => []) (fun k => k ≤ a.length ∧ ((a.drop k = b.drop k) ↔ a = b)) (fun k => a.length - k) 0 (h0 := ?_) (hs := ?_) (round := ?_)
  · simp
  · refine le_eq (by (repeat' first | exact .nil | refine .keep ?_ | refine .any ?_); first | done | fail) rfl rfl
  · intro k ⟨hk, hg⟩
    by_cases h1 : k < a.length
    · rw [drop_both h1 (by omega)] at hg
      by_cases he : a[k] = b[k]
      · repeat' first | apply w_seq | apply w_block | apply rb_n | apply rb_ret | apply rb_eq | refine rb_ne (by rfl) ?_ | apply w_exit | apply rt_exit | apply w_region | apply l_nil | apply rt_n | apply w_ret | apply rt_ret | apply w_skip | refine w_cond_t rfl ?_ | refine w_cond_f rfl ?_ | ((first | refine w_cnd rfl ?_ ?_ | refine w_cd rfl ?_ ?_ | refine w_cn rfl ?_ ?_ | refine w_cond rfl ?_ ?_) <;> intro hc) | (exfalso; omega) | (exfalso; exact hc he) | (exfalso; exact he hc) | (refine l_o ?_; first | refine l_op (hk := ?_)) | refine d_nil ?_ | (refine d_o ?_; first | refine d_fl (hk := ?_) | refine d_ef (hk := ?_)) | (refine w_o ?_; first | refine w_draw (id := 6) (fun _ => true) (fun k => [].contains k) [] 64 (by kernel_rfl) rfl (by kernel_rfl) (by simp [nm, nset, -List.map_take, -List.map_drop]) ?_)
        refine rn_mk (k + 1) ?_ (by first | omega | (dsimp only; omega)) (le_eq (by (repeat' first | exact .nil | refine .keep ?_ | refine .any ?_); first | done | fail) rfl rfl)
        exact ⟨by omega, by rw [← hg]; simp [he]⟩
      · have : a ≠ b := fun e => he (hg.2 e).1
        repeat' first | apply w_seq | apply w_block | apply rb_n | apply rb_ret | apply rb_eq | refine rb_ne (by rfl) ?_ | apply w_exit | apply rt_exit | apply w_region | apply l_nil | apply rt_n | apply w_ret | apply rt_ret | apply w_skip | refine w_cond_t rfl ?_ | refine w_cond_f rfl ?_ | ((first | refine w_cnd rfl ?_ ?_ | refine w_cd rfl ?_ ?_ | refine w_cn rfl ?_ ?_ | refine w_cond rfl ?_ ?_) <;> intro hc) | (exfalso; omega) | (exfalso; exact hc he) | (exfalso; exact he hc) | (refine l_o ?_; first | refine l_op (hk := ?_)) | refine d_nil ?_ | (refine d_o ?_; first | refine d_fl (hk := ?_) | refine d_ef (hk := ?_)) | (refine w_o ?_; first | refine w_draw (id := 6) (fun _ => true) (fun k => [].contains k) [] 64 (by kernel_rfl) rfl (by kernel_rfl) (by simp [nm, nset, -List.map_take, -List.map_drop]) ?_)
        refine en_one (hf := Tryz.results41) (h := ?_); simp only [lget]; first | refine congrArg RVb ?_ | refine congrArg RVi ?_ | skip
        simp [this]
    · rw [List.drop_eq_nil_of_le (by omega), List.drop_eq_nil_of_le (by omega)] at hg
      have := hg.1 rfl
      repeat' first | apply w_seq | apply w_block | apply rb_n | apply rb_ret | apply rb_eq | refine rb_ne (by rfl) ?_ | apply w_exit | apply rt_exit | apply w_region | apply l_nil | apply rt_n | apply w_ret | apply rt_ret | apply w_skip | refine w_cond_t rfl ?_ | refine w_cond_f rfl ?_ | ((first | refine w_cnd rfl ?_ ?_ | refine w_cd rfl ?_ ?_ | refine w_cn rfl ?_ ?_ | refine w_cond rfl ?_ ?_) <;> intro hc) | (exfalso; omega) | (refine l_o ?_; first | refine l_op (hk := ?_)) | refine d_nil ?_ | (refine d_o ?_; first | refine d_fl (hk := ?_) | refine d_ef (hk := ?_)) | (refine w_o ?_; first | refine w_draw (id := 6) (fun _ => true) (fun k => [].contains k) [] 64 (by kernel_rfl) rfl (by kernel_rfl) (by simp [nm, nset, -List.map_take, -List.map_drop]) ?_)
      refine en_one (hf := Tryz.results41) (h := ?_); simp only [lget]; first | refine congrArg RVb ?_ | refine congrArg RVi ?_ | skip
      simp [this]
theorem signs_ok {c : List Int} (hcg : gcode c = true) {s m : Nat} (hs : s ≤ 6) (hm : m ≤ 6) {h : List Int} (hg : ghp h = true) (hsum : h.sum + ((s * m : Nat) : Int) ≤ 20) {M : Mem} (hM : memOk c M) : ∃ M', memOk c M' ∧ ∀ b : Nat, FC Tryz.prog 42 [.agg [RIs c, .v (.map (some b))], RBx s m, RIs h] [(1000000000000, 0, MSI b M)] fun rv O => rv = .ow 1 ((sgnB c s m h).map RVb) ∧ O = [(1000000000000, 0, MSI b M')] := by
  obtain ⟨nx, hnx⟩ := nx_all hcg
  have hP := positions_ok hs hm
  have hvl : ∀ p ∈ posB s m, vld (togH h p) 0 0 := fun p hp => togH_vld hg hp hsum
  have hpl : (posB s m).length ≤ 1000000 := by have := posT_len hs (m + 1) (by omega); unfold posB; omega
  have hpm : ∀ p ∈ posB s m, p.length ≤ 20 := fun p hp => by have := (posB_mem hp).1; omega
  have hhl : h.length ≤ 20 := by simp only [ghp, Bool.and_eq_true, decide_eq_true_eq] at hg; exact hg.1
  have hsg : sgnB c s m h = sgnP c (posB s m) h := rfl
  rw [hsg]
  generalize posB s m = P at *
  have hmk : ∀ k, k ≤ P.length → memOk c (memL nx 0 0 ((P.take k).map (togH h)) M) := by
    intro k
    induction k with
    | zero => intro _; simpa [memL] using hM
    | succ k ih =>
      intro hk
      have e : (P.take (k + 1)).map (togH h) = (P.take k).map (togH h) ++ [togH h P[k]] := by rw [List.take_succ_eq_append_getElem (by omega), List.map_append]; rfl
      rw [e, memL, List.foldl_append]
      exact (hnx _ _ _ _ (hvl _ (List.getElem_mem (show k < P.length by omega))) (ih (by omega))).1
  have hms : ∀ k, (hk : k < P.length) → memL nx 0 0 ((P.take (k + 1)).map (togH h)) M = nx (togH h P[k]) 0 0 (memL nx 0 0 ((P.take k).map (togH h)) M) := fun k hk => by
    rw [List.take_succ_eq_append_getElem hk, List.map_append, memL, List.foldl_append]; rfl
  refine ⟨memL nx 0 0 (P.map (togH h)) M, by have := hmk _ (Nat.le_refl _); rwa [List.take_length] at this, fun b => ?_⟩
  refine (fc_in Tryz.func42 rfl (by simp only [Tryz.ntmps42, anys, List.length_cons, List.length_nil, Nat.reduceAdd, Nat.reduceSub, List.replicate_succ, List.replicate_zero, List.cons_append, List.nil_append] <;> rfl) ?_)
  repeat' first | apply w_seq | apply w_block | apply rb_n | apply rb_ret | apply rb_eq | refine rb_ne (by rfl) ?_ | apply w_exit | apply rt_exit | apply w_region | apply l_nil | apply rt_n | apply w_ret | apply rt_ret | apply w_skip | refine w_cond_t rfl ?_ | refine w_cond_f rfl ?_ | ((first | refine w_cnd rfl ?_ ?_ | refine w_cd rfl ?_ ?_ | refine w_cn rfl ?_ ?_ | refine w_cond rfl ?_ ?_) <;> intro hc) | (refine l_o ?_; first | refine l_op rfl (by first | (apply k_callf; first | exact ops_callf (d := 12) (hfc := hP) | fail) | fail) (hk := ?_) | refine l_op (hk := ?_)) | refine d_nil ?_ | (refine d_o ?_; first | refine d_fl (hk := ?_) | refine d_ef rfl (by first | exact .callf (d := 12) (hfc := hP) | fail) (hk := ?_) | refine d_ef (hk := ?_)) | (refine w_o ?_; first | refine w_draw (id := 5) (fun _ => true) (fun k => [4, 5, 7, 8].contains k) [[], [], [], []] 64 (by kernel_rfl) rfl (by kernel_rfl) (by simp [nm, nset, -List.map_take, -List.map_drop]) ?_)
  refine w_le _ (le_perm [10, 4, 3, 1000000000000] rfl rfl) ?_
  refine w_loopm (ι := Nat × List Bool × Mem) (fun q => [(14, RVn q.1), (7, .ref 10 0 q.2.1.length), (10, .any), (9, .any)]) (fun q => [(10, 1, q.2.1.map RVb), (4, 2, [RBx s m]), (3, 2, [RV.agg [RIs c, RV.v (Value.map (some b))]]), (1000000000000, 0, MSI b q.2.2)]) (fun q => q.1 ≤ P.length ∧ q.2.1.length = q.1 ∧ q.2.1 = sgnP c (P.take q.1) h ∧ q.2.2 = memL nx 0 0 ((P.take q.1).map (togH h)) M) (fun q => P.length - q.1) (0, [], M) (h0 := ?_) (hs := ?_) (round := ?_)
  · exact ⟨Nat.zero_le _, rfl, rfl, rfl⟩
  · refine le_eq (by (repeat' first | exact .nil | refine .keep ?_ | refine .any ?_); first | done | fail) rfl rfl
  · intro ⟨k, L, M1⟩ ⟨hk, hLl, hL, hM1⟩
    dsimp only at hk hLl hL hM1 ⊢
    by_cases hk2 : k < P.length
    · have hq := hnx _ 0 0 M1 (hvl _ (List.getElem_mem hk2)) (hM1 ▸ hmk k hk)
      have hcall := hq.2 b
      have hT := together_ok h P[k] (by omega) (by have := hpm _ (List.getElem_mem hk2); omega)
      have hmsk := hms k hk2
      rw [← hM1] at hmsk
      have hsk : sgnP c (P.take (k + 1)) h = L ++ [decide (mv c (togH h P[k]) 0 0 ≠ 0)] := by
        rw [hL, sgnP, sgnP, List.take_succ_eq_append_getElem hk2, List.map_append]; rfl
      generalize nx (togH h P[k]) 0 0 M1 = M2 at *
      generalize mv c (togH h P[k]) 0 0 = v at *
      generalize togH h P[k] = Y at *
      repeat' first | apply w_seq | apply w_block | apply rb_n | apply rb_ret | apply rb_eq | refine rb_ne (by rfl) ?_ | apply w_exit | apply rt_exit | apply w_region | apply l_nil | apply rt_n | apply w_ret | apply rt_ret | apply w_skip | refine w_cond_t rfl ?_ | refine w_cond_f rfl ?_ | ((first | refine w_cnd rfl ?_ ?_ | refine w_cd rfl ?_ ?_ | refine w_cn rfl ?_ ?_ | refine w_cond rfl ?_ ?_) <;> intro hc) | (exfalso; omega) | (refine l_o ?_; first | refine l_op rfl (by first | (apply k_callf; first | exact ops_callP (d := 23) 1000000000000 (MSI b M2) (hfc := hcall) | exact ops_callf (d := 22) (hfc := hT) | fail) | fail) (hk := ?_) | refine l_op (hk := ?_)) | refine d_nil ?_ | (refine d_o ?_; first | refine d_fl rfl (by first | exact .pl (by first | (apply q_callf; first | exact fs_callf (d := 22) (hfc := hT) | fail) | fail) | fail) (hk := ?_) | refine d_fl (hk := ?_) | refine d_ef rfl (by first | exact .callP (d := 23) 1000000000000 (MSI b M2) (hfc := hcall) | fail) (hk := ?_) | refine d_ef (hk := ?_)) | (refine w_o ?_; first | refine w_draw (id := 5) (roL [3]) (fun k => [5, 7, 8, 9].contains k) [[],[25],[26],[]] 64 (by kernel_rfl) rfl (by kernel_rfl) (by simp [nm, nset, -List.map_take, -List.map_drop]) ?_)
      refine rn_mk (k + 1, L ++ [decide (v ≠ 0)], M2) ?_ (by dsimp only; omega) (le_trans (le_kill 10 (by simp only [nz, nf, nl, nb, nr, ng, nq, nu, reduceIte, Nat.reduceEqDiff, Nat.reduceAdd]; rfl)) (le_trans (le_ren 26 10 (by decide) (by decide) (by simp [nm, ng, renL_id, onames, MSI_ren, -List.map_append, -List.map_take, -List.map_drop]) (by simp [nm, ng, renL_id, onames, MSI_ren, -List.map_append, -List.map_take, -List.map_drop]) (by simp only [ng, nm, nu, renL_id, reduceIte, Nat.reduceEqDiff, MSI_ren] <;> rfl) (by simp only [ng, nm, nu, renL_id, reduceIte, Nat.reduceEqDiff, MSI_ren] <;> rfl)) (le_eq (by (repeat' first | exact .nil | refine .keep ?_ | refine .any ?_); first | done | fail) rfl rfl)))
      exact ⟨hk2, by simp [hLl], hsk.symm, hmsk.symm⟩
    · obtain rfl : k = P.length := by omega
      rw [List.take_length] at hL hM1
      repeat' first | apply w_seq | apply w_block | apply rb_n | apply rb_ret | apply rb_eq | refine rb_ne (by rfl) ?_ | apply w_exit | apply rt_exit | apply w_region | apply l_nil | apply rt_n | apply w_ret | apply rt_ret | apply w_skip | refine w_cond_t rfl ?_ | refine w_cond_f rfl ?_ | ((first | refine w_cnd rfl ?_ ?_ | refine w_cd rfl ?_ ?_ | refine w_cn rfl ?_ ?_ | refine w_cond rfl ?_ ?_) <;> intro hc) | (exfalso; omega) | (refine l_o ?_; first | refine l_op (hk := ?_)) | refine d_nil ?_ | (refine d_o ?_; first | refine d_fl (hk := ?_) | refine d_ef (hk := ?_)) | (refine w_o ?_; first | refine w_draw (id := 5) (fun _ => true) (fun k => [4, 5, 7, 8].contains k) [[], [], [], []] 64 (by kernel_rfl) rfl (by kernel_rfl) (by simp [nm, nset, -List.map_take, -List.map_drop]) ?_)
      rw [← hL, ← hM1]
      refine en_endm ([(4, 2, [RBx s m]), (3, 2, [RV.agg [RIs c, RV.v (Value.map (some b))]])]) (hf := Tryz.results42) (hO := ?_) (hr := ?_)
      · rfl
      · simp [nz, ne, sealG, lget, seal2, packR]
def SC (c : List Int) (s m : Nat) (h : List Int) (M M' : Mem) : Prop := ∀ b : Nat, FC Tryz.prog 42 [.agg [RIs c, .v (.map (some b))], RBx s m, RIs h] [(1000000000000, 0, MSI b M)] fun rv O => rv = .ow 1 ((sgnB c s m h).map RVb) ∧ O = [(1000000000000, 0, MSI b M')]
def okS (s m : Nat) (h : List Int) : Prop := ghp h = true ∧ h.sum + ((s * m : Nat) : Int) ≤ 20
theorem sx_all {c : List Int} (hcg : gcode c = true) {s m : Nat} (hs : s ≤ 6) (hm : m ≤ 6) : ∃ sx : List Int → Mem → Mem, ∀ h M, okS s m h → memOk c M → memOk c (sx h M) ∧ SC c s m h M (sx h M) := by
  classical
  refine ⟨fun h M => if H : ∃ M', memOk c M' ∧ SC c s m h M M' then H.choose else M, fun h M h1 h2 => ?_⟩
  have H : ∃ M', memOk c M' ∧ SC c s m h M M' := signs_ok hcg hs hm h1.1 h1.2 h2
  dsimp only
  rw [dif_pos H]
  exact H.choose_spec
theorem posB_okS {s m : Nat} (hs : s ≤ 6) (hm : m ≤ 6) (hsm : s * m ≤ 6) {p : List Int} (hp : p ∈ posB s m) : okS s m p ∧ p.sum ≤ ((s * m : Nat) : Int) := by
  obtain ⟨p1, p2, p3⟩ := posB_mem hp
  have h1 := sum_bd p2
  have h2 := Nat.mul_le_mul_left s p1
  have e : (s : Int) * (p.length : Int) = ((s * p.length : Nat) : Int) := by rw [Int.natCast_mul]
  exact ⟨⟨ghp_pos (by omega) (by omega) hp, by omega⟩, by omega⟩
theorem small_okI (c h : List Int) (n : Int) (hc : c.length ≤ 1048576) (hl : h.length ≤ 1048576) : FCr Tryz.prog 50 [RIs c, RIs h, RVi n] (RVb (gcode c && ghp h && decide (h.sum ≤ n))) := by
  have hC := goodCode_ok c hc
  have hH := goodHeaps_ok h hl
  have hT : ghp h = true → FCr Tryz.prog 79 [RIs h] (RVi h.sum) := fun e => by
    simp only [ghp, Bool.and_eq_true, decide_eq_true_eq] at e
    exact total_ok h e.1 (fun x hx => ghpF_pos e.2 |>.1 x hx)
  generalize gcode c = a at *
  generalize ghp h = b at *
  refine (fcr_in Tryz.func50 rfl (by simp only [Tryz.ntmps50, anys, List.length_cons, List.length_nil, Nat.reduceAdd, Nat.reduceSub, List.replicate_succ, List.replicate_zero, List.cons_append, List.nil_append] <;> rfl) ?_)
  cases a with
  | false =>
    repeat' first | apply w_seq | apply w_region | apply l_nil | apply rt_n | apply w_ret | apply rt_ret | apply w_skip | (refine l_o ?_; first | refine l_op rfl (by first | (apply k_callf; first | exact ops_callf (hfc := hC) | fail) | fail) (hk := ?_) | refine l_op (hk := ?_) | (refine l_g ?_; first | refine l_y rfl rfl rfl ?_ | refine l_n rfl rfl rfl rfl (hk := ?_) | refine l_n' rfl rfl rfl (hk := ?_) | refine l_spnd rfl rfl rfl (h1 := fun hc => ?_) (h2 := fun hc => ?_) | refine l_spd rfl rfl rfl (h1 := fun hc => ?_) (h2 := fun hc => ?_) | refine l_spn rfl rfl rfl (h1 := fun hc => ?_) (h2 := fun hc => ?_) | refine l_sp rfl rfl rfl (h1 := fun hc => ?_) (h2 := fun hc => ?_)))
    refine en_one (hf := Tryz.results50) (h := ?_); simp only [lget]; first | refine congrArg RVb ?_ | refine congrArg RVi ?_ | skip
    rfl
  | true =>
    cases b with
    | false =>
      repeat' first | apply w_seq | apply w_region | apply l_nil | apply rt_n | apply w_ret | apply rt_ret | apply w_skip | (refine l_o ?_; first | refine l_op rfl (by first | (apply k_callf; first | exact ops_callf (hfc := hC) | exact ops_callf (hfc := hH) | fail) | fail) (hk := ?_) | refine l_op (hk := ?_) | (refine l_g ?_; first | refine l_y rfl rfl rfl ?_ | refine l_n rfl rfl rfl rfl (hk := ?_) | refine l_n' rfl rfl rfl (hk := ?_) | refine l_spnd rfl rfl rfl (h1 := fun hc => ?_) (h2 := fun hc => ?_) | refine l_spd rfl rfl rfl (h1 := fun hc => ?_) (h2 := fun hc => ?_) | refine l_spn rfl rfl rfl (h1 := fun hc => ?_) (h2 := fun hc => ?_) | refine l_sp rfl rfl rfl (h1 := fun hc => ?_) (h2 := fun hc => ?_)))
      refine en_one (hf := Tryz.results50) (h := ?_); simp only [lget]; first | refine congrArg RVb ?_ | refine congrArg RVi ?_ | skip
      rfl
    | true =>
      have hT := hT rfl
      repeat' first | apply w_seq | apply w_region | apply l_nil | apply rt_n | apply w_ret | apply rt_ret | apply w_skip | (refine l_o ?_; first | refine l_op rfl (by first | (apply k_callf; first | exact ops_callf (hfc := hC) | exact ops_callf (hfc := hH) | exact ops_callf (hfc := hT) | fail) | fail) (hk := ?_) | refine l_op (hk := ?_) | (refine l_g ?_; first | refine l_y rfl rfl rfl ?_ | refine l_n rfl rfl rfl rfl (hk := ?_) | refine l_n' rfl rfl rfl (hk := ?_) | refine l_spnd rfl rfl rfl (h1 := fun hc => ?_) (h2 := fun hc => ?_) | refine l_spd rfl rfl rfl (h1 := fun hc => ?_) (h2 := fun hc => ?_) | refine l_spn rfl rfl rfl (h1 := fun hc => ?_) (h2 := fun hc => ?_) | refine l_sp rfl rfl rfl (h1 := fun hc => ?_) (h2 := fun hc => ?_)))
      refine en_one (hf := Tryz.results50) (h := ?_); simp only [lget]; first | refine congrArg RVb ?_ | refine congrArg RVi ?_ | skip
      rfl
def admB (c : List Int) (s m : Int) (h : List Int) : Bool := goodB s m && (gcode c && ghp h && decide (h.sum ≤ 20 - s * m))
theorem admissible_ok (c : List Int) (s m : Int) (h : List Int) (hc : c.length ≤ 1048576) (hl : h.length ≤ 1048576) : FCr Tryz.prog 40 [RIs c, RBx s m, RIs h] (RVb (admB c s m h)) := by
  have hB := goodBox_ok s m
  unfold admB
  by_cases hg : goodB s m = true
  · obtain ⟨a, b, rfl, rfl, h1, h2, h3, h4, h5⟩ := goodB_nat hg
    rw [hg] at hB ⊢
    have e : (20 : Int) - (a : Int) * (b : Int) = 20 - ((a * b : Nat) : Int) := by rw [Int.natCast_mul]
    rw [e]
    have hS := small_okI c h (20 - ((a * b : Nat) : Int)) hc hl
    generalize (gcode c && ghp h && decide (h.sum ≤ 20 - ((a * b : Nat) : Int))) = o at *
    refine (fcr_in Tryz.func40 rfl (by simp only [Tryz.ntmps40, anys, List.length_cons, List.length_nil, Nat.reduceAdd, Nat.reduceSub, List.replicate_succ, List.replicate_zero, List.cons_append, List.nil_append] <;> rfl) ?_)
    repeat' first | apply w_seq | apply w_region | apply l_nil | apply rt_n | apply w_ret | apply rt_ret | apply w_skip | (refine l_o ?_; first | refine l_op rfl (by first | (apply k_mul; first | exact ops_muln (m := a) (n := b) rfl rfl (by omega) | fail) | (apply k_callf; first | exact ops_callf (hfc := hB) | exact ops_callf (hfc := hS) | fail) | fail) (hk := ?_) | refine l_op (hk := ?_) | (refine l_g ?_; first | refine l_y rfl rfl rfl ?_ | refine l_n rfl rfl rfl rfl (hk := ?_) | refine l_n' rfl rfl rfl (hk := ?_) | refine l_spnd rfl rfl rfl (h1 := fun hc => ?_) (h2 := fun hc => ?_) | refine l_spd rfl rfl rfl (h1 := fun hc => ?_) (h2 := fun hc => ?_) | refine l_spn rfl rfl rfl (h1 := fun hc => ?_) (h2 := fun hc => ?_) | refine l_sp rfl rfl rfl (h1 := fun hc => ?_) (h2 := fun hc => ?_)))
    refine en_one (hf := Tryz.results40) (h := ?_); simp only [lget]; first | refine congrArg RVb ?_ | refine congrArg RVi ?_ | skip
    rfl
  · rw [Bool.not_eq_true] at hg
    rw [hg] at hB ⊢
    refine (fcr_in Tryz.func40 rfl (by simp only [Tryz.ntmps40, anys, List.length_cons, List.length_nil, Nat.reduceAdd, Nat.reduceSub, List.replicate_succ, List.replicate_zero, List.cons_append, List.nil_append] <;> rfl) ?_)
    repeat' first | apply w_seq | apply w_region | apply l_nil | apply rt_n | apply w_ret | apply rt_ret | apply w_skip | (refine l_o ?_; first | refine l_op rfl (by first | (apply k_callf; first | exact ops_callf (hfc := hB) | fail) | fail) (hk := ?_) | refine l_op (hk := ?_) | (refine l_g ?_; first | refine l_y rfl rfl rfl ?_ | refine l_n rfl rfl rfl rfl (hk := ?_) | refine l_n' rfl rfl rfl (hk := ?_) | refine l_spnd rfl rfl rfl (h1 := fun hc => ?_) (h2 := fun hc => ?_) | refine l_spd rfl rfl rfl (h1 := fun hc => ?_) (h2 := fun hc => ?_) | refine l_spn rfl rfl rfl (h1 := fun hc => ?_) (h2 := fun hc => ?_) | refine l_sp rfl rfl rfl (h1 := fun hc => ?_) (h2 := fun hc => ?_)))
    refine en_one (hf := Tryz.results40) (h := ?_); simp only [lget]; first | refine congrArg RVb ?_ | refine congrArg RVi ?_ | skip
    rfl
end Go.Proofs.YtmfbcipjknjicaaGreatDoor
