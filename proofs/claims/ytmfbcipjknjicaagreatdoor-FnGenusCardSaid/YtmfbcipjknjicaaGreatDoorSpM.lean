/- Moves of a heap by the reference. For all codes and heaps of the sizes that the theorem names. -/
import Derived.Test.YtmfbcipjknjicaaGreatDoorHpI
import Derived.Test.YtmfbcipjknjicaaGreatDoorPutH
namespace Go.Proofs.YtmfbcipjknjicaaGreatDoor
set_option linter.unusedSectionVars false
variable [One Bool]
open Eng
attribute [local irreducible] OpS OpG FC FCr Rel Fl Ef DR Fs
attribute [local simp] RV.fzR_names
set_option linter.unusedSimpArgs false
set_option linter.unusedVariables false
set_option maxHeartbeats 0
set_option maxRecDepth 100000

theorem l17Bit_ok (d b : Nat) (hd : d ≤ 7) (hb : 0 < b ∧ b ≤ 4) : FCr Tryz.prog 103 [RVn d, RVn b] (RVb (decide (d / b % 2 = 1))) := by
  have h1 : d / b ≤ 7 := Nat.le_trans (Nat.div_le_self _ _) hd
  refine (fcr_in Tryz.func103 rfl (by simp only [Tryz.ntmps103, anys, List.length_cons, List.length_nil, Nat.reduceAdd, Nat.reduceSub, List.replicate_succ, List.replicate_zero, List.cons_append, List.nil_append] <;> rfl) ?_)
  repeat' first | apply w_seq | apply w_region | apply l_nil | apply rt_n | apply w_ret | apply rt_ret | apply w_skip | (refine l_o ?_; first | refine l_eqnil rfl (by kernel_rfl) (by intro b; simp only [nz]; rfl) (fun b hb => ?_) | refine l_op rfl (by first | (apply k_quo; first | exact ops_quon (m := d) (n := b) rfl rfl (by omega) (by omega) | fail) | (apply k_rem; first | exact ops_remn (m := d / b) (n := 2) rfl rfl (by omega) | fail) | fail) (hk := ?_) | refine l_op (hk := ?_))
  refine en_one (hf := Tryz.results103) (h := ?_); simp only [lget]; first | refine congrArg RVb ?_ | refine congrArg RVi ?_ | skip
  generalize d / b % 2 = q
  congr 1
  apply propext
  omega
theorem bit1_ok {d : Int} (hd : 0 ≤ d ∧ d ≤ 7) : FCr Tryz.prog 103 [RVi d, RVi 1] (RVb (decide (d % 2 = 1))) := by
  obtain ⟨m, rfl⟩ : ∃ m : Nat, d = (m : Int) := ⟨d.toNat, by omega⟩
  have h := l17Bit_ok m 1 (by omega) (by omega)
  rwa [show (decide (m / 1 % 2 = 1)) = decide ((m : Int) % 2 = 1) from by congr 1; apply propext; omega] at h
theorem bit2_ok {d : Int} (hd : 0 ≤ d ∧ d ≤ 7) : FCr Tryz.prog 103 [RVi d, RVi 2] (RVb (decide (d / 2 % 2 = 1))) := by
  obtain ⟨m, rfl⟩ : ∃ m : Nat, d = (m : Int) := ⟨d.toNat, by omega⟩
  have h := l17Bit_ok m 2 (by omega) (by omega)
  rwa [show (decide (m / 2 % 2 = 1)) = decide ((m : Int) / 2 % 2 = 1) from by congr 1; apply propext; omega] at h
theorem bit4_ok {d : Int} (hd : 0 ≤ d ∧ d ≤ 7) : FCr Tryz.prog 103 [RVi d, RVi 4] (RVb (decide (d / 4 % 2 = 1))) := by
  obtain ⟨m, rfl⟩ : ∃ m : Nat, d = (m : Int) := ⟨d.toNat, by omega⟩
  have h := l17Bit_ok m 4 (by omega) (by omega)
  rwa [show (decide (m / 4 % 2 = 1)) = decide ((m : Int) / 4 % 2 = 1) from by congr 1; apply propext; omega] at h
theorem l17Moves_ok (c : List Int) (n : Int) (hc0 : gcode c = true) (hn : n ≤ 300) (hn0 : -1000 ≤ n) : FCr Tryz.prog 87 [RIs c, RVi n] (.ow 1 ((hms c n).map RIs)) := by
  have hcl := gcode_len hc0
  have hrl := rawT_len c n hn
  refine (fcr_in Tryz.func87 rfl (by simp only [Tryz.ntmps87, anys, List.length_cons, List.length_nil, Nat.reduceAdd, Nat.reduceSub, List.replicate_succ, List.replicate_zero, List.cons_append, List.nil_append] <;> rfl) ?_)
  repeat' first | apply w_seq | apply w_block | apply rb_n | apply rb_ret | apply rb_eq | refine rb_ne (by rfl) ?_ | apply w_exit | apply rt_exit | apply w_region | apply l_nil | apply rt_n | apply w_ret | apply rt_ret | apply w_skip | refine w_cond_t rfl ?_ | refine w_cond_f rfl ?_ | ((first | refine w_cnd rfl ?_ ?_ | refine w_cd rfl ?_ ?_ | refine w_cn rfl ?_ ?_ | refine w_cond rfl ?_ ?_) <;> intro hc) | (refine l_o ?_; first | refine l_eqnil rfl (by kernel_rfl) (by intro b; simp only [nz]; rfl) (fun b hb => ?_) | refine l_op (hk := ?_) | (refine l_g ?_; first | refine l_y rfl rfl rfl ?_ | refine l_n rfl rfl rfl rfl (hk := ?_) | refine l_n' rfl rfl rfl (hk := ?_) | refine l_spnd rfl rfl rfl (h1 := fun hc => ?_) (h2 := fun hc => ?_) | refine l_spd rfl rfl rfl (h1 := fun hc => ?_) (h2 := fun hc => ?_) | refine l_spn rfl rfl rfl (h1 := fun hc => ?_) (h2 := fun hc => ?_) | refine l_sp rfl rfl rfl (h1 := fun hc => ?_) (h2 := fun hc => ?_)))
  refine w_loopm (ι := Nat × List (List Int)) (fun q => [(6, RVn (q.1 + 1)), (5, .ref 10 0 q.2.length), (10, .any), (7, .any), (8, .any), (9, .any)]) (fun q => [(10, 1, q.2.map RIs)]) (fun q => q.1 ≤ c.length ∧ q.2 = putHs (rawT c n q.1) []) (fun q => c.length - q.1) (0, []) (h0 := ?_) (hs := ?_) (round := ?_)
  · exact ⟨Nat.zero_le _, rfl⟩
  · refine le_eq (by (repeat' first | exact .nil | refine .keep ?_ | refine .any ?_); first | done | fail) rfl rfl
  · intro ⟨k, Z⟩ ⟨hk, hZ⟩
    dsimp only at hk hZ ⊢
    have hZl : Z.length ≤ 912 := by
      have h1 := hrl k
      have h2 := putHs_len (rawT c n k) []
      rw [← hZ] at h2
      have : 152 * k ≤ 152 * 6 := Nat.mul_le_mul_left _ (by omega)
      simp at h2; omega
    by_cases hk2 : k < c.length ∧ ¬ n - k - 1 < 0
    · obtain ⟨hk2, hr⟩ := hk2
      have hd := gcode_at hc0 (List.getElem_mem hk2)
      have b1 := bit1_ok hd
      have b2 := bit2_ok hd
      have b4 := bit4_ok hd
      have hms := mvAt_split (c := c) hr
      have hre : n - (k : Int) - 1 = n - ((k + 1 : Nat) : Int) := by omega
      have hcd : c.getD k 0 = c[k] := by simp [List.getD_eq_getElem?_getD, hk2]
      rw [hcd] at hms
      have hrw := rawT_succ c n k
      rw [hms] at hrw
      rw [hre] at hrw hr
      have hA : ∀ a : Nat, (c[k] / 4 % 2 = 1 ∧ 2 * ((a : Int) + 1) ≤ n - ((k + 1 : Nat) : Int)) ↔ a < (if c[k] / 4 % 2 = 1 then ((n - ((k + 1 : Nat) : Int)) / 2).toNat else 0) := by
        intro a
        split
        · rename_i h; simp only [h, true_and]; omega
        · rename_i h; simp [h]
      have hP1 := l17Put_ok Z [] (by omega)
      have hP2 := l17Put_ok Z [n - ((k + 1 : Nat) : Int)] (by omega)
      repeat' first | apply w_seq | apply w_block | apply rb_n | apply rb_ret | apply rb_eq | refine rb_ne (by rfl) ?_ | apply w_exit | apply rt_exit | apply w_region | apply l_nil | apply rt_n | apply w_ret | apply rt_ret | apply w_skip | refine w_cond_t rfl ?_ | refine w_cond_f rfl ?_ | ((first | refine w_cnd rfl ?_ ?_ | refine w_cd rfl ?_ ?_ | refine w_cn rfl ?_ ?_ | refine w_cond rfl ?_ ?_) <;> intro hc) | (exfalso; omega) | (refine l_o ?_; first | refine l_eqnil rfl (by kernel_rfl) (by intro b; simp only [nz]; rfl) (fun b hb => ?_) | refine l_op rfl (by first | (apply k_sub; first | exact ops_pred (a := k) rfl (by omega) | fail) | (apply k_buildSlice; first | exact ops_buildSlice_fz (d := some 37) (k := 1) rfl rfl rfl (by decide) (by decide) (by kernel_rfl) (by decide +kernel) rfl | exact ops_buildSlice_fz (d := some 47) (k := 1) rfl rfl rfl (by decide) (by decide) (by kernel_rfl) (by decide +kernel) rfl | fail) | (apply k_callf; first | exact ops_callG (d := 38) [10] [10] ([]) (hfc := hP1) | exact ops_callG (d := 48) [10] [10] ([]) (hfc := hP2) | exact ops_callf (d := 31) (hfc := b1) | exact ops_callf (d := 40) (hfc := b2) | fail) | fail) (hk := ?_) | refine l_op (hk := ?_) | (refine l_g ?_; first | refine l_y rfl rfl rfl ?_ | refine l_n rfl rfl rfl rfl (hk := ?_) | refine l_n' rfl rfl rfl (hk := ?_) | refine l_spnd rfl rfl rfl (h1 := fun hc => ?_) (h2 := fun hc => ?_) | refine l_spd rfl rfl rfl (h1 := fun hc => ?_) (h2 := fun hc => ?_) | refine l_spn rfl rfl rfl (h1 := fun hc => ?_) (h2 := fun hc => ?_) | refine l_sp rfl rfl rfl (h1 := fun hc => ?_) (h2 := fun hc => ?_)))
      all_goals first
        | (have hZ1 : putHs (mvB c[k] (n - ((k + 1 : Nat) : Int))) Z = putH [] Z := by
             unfold mvB; rw [if_pos (by omega), if_neg (by omega)]; rfl
           have hZ1l := putH_len [] Z
           generalize putH [] Z = Z1 at *
           refine w_le _ (le_ren 38 10 (by decide) (by decide) (by simp [nm, ng, renL_id, onames, nm, -List.map_append, -List.map_take, -List.map_drop]) (by simp [nm, ng, renL_id, onames, nm, -List.map_append, -List.map_take, -List.map_drop]) (by simp only [ng, nm, nu, renL_id, reduceIte, Nat.reduceEqDiff, nm] <;> rfl) (by simp only [ng, nm, nu, renL_id, reduceIte, Nat.reduceEqDiff, nm] <;> rfl)) ?_)
        | (have hZ1 : putHs (mvB c[k] (n - ((k + 1 : Nat) : Int))) Z = putH [n - ((k + 1 : Nat) : Int)] Z := by
             unfold mvB; rw [if_neg (by omega), if_pos (by omega)]; rfl
           have hZ1l := putH_len [n - ((k + 1 : Nat) : Int)] Z
           generalize putH [n - ((k + 1 : Nat) : Int)] Z = Z1 at *
           refine w_le _ (le_ren 48 10 (by decide) (by decide) (by simp [nm, ng, renL_id, onames, nm, -List.map_append, -List.map_take, -List.map_drop]) (by simp [nm, ng, renL_id, onames, nm, -List.map_append, -List.map_take, -List.map_drop]) (by simp only [ng, nm, nu, renL_id, reduceIte, Nat.reduceEqDiff, nm] <;> rfl) (by simp only [ng, nm, nu, renL_id, reduceIte, Nat.reduceEqDiff, nm] <;> rfl)) ?_)
        | (have hZ1 : putHs (mvB c[k] (n - ((k + 1 : Nat) : Int))) Z = Z := by
             unfold mvB; rw [if_neg (by omega), if_neg (by omega)]; rfl
           obtain ⟨Z1, eZ⟩ : ∃ Z1, Z1 = Z := ⟨_, rfl⟩
           rw [← eZ]
           have hZ1 := hZ1.trans eZ.symm
           have hZ1l : Z1.length ≤ Z.length + 1 := by rw [eZ]; omega)
      all_goals
        clear hP1 hP2 hrl
        generalize hTe : (if c[k] / 4 % 2 = 1 then ((n - ((k + 1 : Nat) : Int)) / 2).toNat else 0) = T at *
        have hT : T ≤ 150 := by rw [← hTe]; split <;> omega
        have hnk : -1000 ≤ n - ((k + 1 : Nat) : Int) ∧ n - ((k + 1 : Nat) : Int) ≤ 300 := by omega
        generalize hr0 : n - ((k + 1 : Nat) : Int) = r at *
        generalize hd0 : c[k] = d at *
        refine w_loopm (ι := Nat × List (List Int)) (fun q => [(9, RVn (q.1 + 1)), (5, .ref 10 0 q.2.length), (10, .any), (38, .any), (48, .any)]) (fun q => [(10, 1, q.2.map RIs)]) (fun q => q.1 ≤ T ∧ q.2.length ≤ Z1.length + q.1 ∧ q.2 = putHs (splT r q.1) Z1) (fun q => T - q.1) (0, Z1) (h0 := ?_) (hs := ?_) (round := ?_)
        · exact ⟨Nat.zero_le _, Nat.le_refl _, rfl⟩
        · refine le_eq (by (repeat' first | exact .nil | refine .keep ?_ | refine .any ?_); first | done | fail) rfl rfl
        · intro ⟨a, Y⟩ ⟨ha, hYl, hY⟩
          dsimp only at ha hYl hY ⊢
          have hAa := hA a
          by_cases ha2 : a < T
          · have hb := hAa.2 ha2
            have hP3 := l17Put_ok Y [((a + 1 : Nat) : Int), r - ((a + 1 : Nat) : Int)] (by omega)
            have hPl := putH_len [((a + 1 : Nat) : Int), r - ((a + 1 : Nat) : Int)] Y
            have hsu : putHs (splT r (a + 1)) Z1 = putH [((a + 1 : Nat) : Int), r - ((a + 1 : Nat) : Int)] Y := by
              rw [splT_succ, putHs_app, ← hY]; rfl
            generalize putH [((a + 1 : Nat) : Int), r - ((a + 1 : Nat) : Int)] Y = Y2 at *
            repeat' first | apply w_seq | apply w_block | apply rb_n | apply rb_ret | apply rb_eq | refine rb_ne (by rfl) ?_ | apply w_exit | apply rt_exit | apply w_region | apply l_nil | apply rt_n | apply w_ret | apply rt_ret | apply w_skip | refine w_cond_t rfl ?_ | refine w_cond_f rfl ?_ | ((first | refine w_cnd rfl ?_ ?_ | refine w_cd rfl ?_ ?_ | refine w_cn rfl ?_ ?_ | refine w_cond rfl ?_ ?_) <;> intro hc) | (exfalso; omega) | (refine l_o ?_; first | refine l_eqnil rfl (by kernel_rfl) (by intro b; simp only [nz]; rfl) (fun b hb => ?_) | refine l_op rfl (by first | (apply k_mul; first | exact ops_muln (m := 2) (n := a + 1) rfl rfl (by omega) | fail) | (apply k_buildSlice; first | exact ops_buildSlice_fz (d := some 64) (k := 1) rfl rfl rfl (by decide) (by decide) (by kernel_rfl) (by decide +kernel) rfl | fail) | (apply k_callf; first | exact ops_callG (d := 65) [10] [10] ([]) (hfc := hP3) | exact ops_callf (d := 50) (hfc := b4) | fail) | fail) (hk := ?_) | refine l_op (hk := ?_) | (refine l_g ?_; first | refine l_y rfl rfl rfl ?_ | refine l_n rfl rfl rfl rfl (hk := ?_) | refine l_n' rfl rfl rfl (hk := ?_) | refine l_spnd rfl rfl rfl (h1 := fun hc => ?_) (h2 := fun hc => ?_) | refine l_spd rfl rfl rfl (h1 := fun hc => ?_) (h2 := fun hc => ?_) | refine l_spn rfl rfl rfl (h1 := fun hc => ?_) (h2 := fun hc => ?_) | refine l_sp rfl rfl rfl (h1 := fun hc => ?_) (h2 := fun hc => ?_)))
            all_goals
              refine rn_mk (a + 1, Y2) ?_ (by dsimp only; omega) (le_trans (le_ren 65 10 (by decide) (by decide) (by simp [nm, ng, renL_id, onames, nm, -List.map_append, -List.map_take, -List.map_drop]) (by simp [nm, ng, renL_id, onames, nm, -List.map_append, -List.map_take, -List.map_drop]) (by simp only [ng, nm, nu, renL_id, reduceIte, Nat.reduceEqDiff, nm] <;> rfl) (by simp only [ng, nm, nu, renL_id, reduceIte, Nat.reduceEqDiff, nm] <;> rfl)) (le_eq (by (repeat' first | exact .nil | refine .keep ?_ | refine .any ?_); first | done | fail) rfl rfl))
              exact ⟨ha2, by dsimp only; omega, hsu.symm⟩
          · have hb : ¬ (d / 4 % 2 = 1 ∧ 2 * ((a : Int) + 1) ≤ r) := fun h => ha2 (hAa.1 h)
            obtain rfl : a = T := by omega
            repeat' first | apply w_seq | apply w_block | apply rb_n | apply rb_ret | apply rb_eq | refine rb_ne (by rfl) ?_ | apply w_exit | apply rt_exit | apply w_region | apply l_nil | apply rt_n | apply w_ret | apply rt_ret | apply w_skip | refine w_cond_t rfl ?_ | refine w_cond_f rfl ?_ | ((first | refine w_cnd rfl ?_ ?_ | refine w_cd rfl ?_ ?_ | refine w_cn rfl ?_ ?_ | refine w_cond rfl ?_ ?_) <;> intro hc) | (exfalso; omega) | (refine l_o ?_; first | refine l_eqnil rfl (by kernel_rfl) (by intro b; simp only [nz]; rfl) (fun b hb => ?_) | refine l_op rfl (by first | (apply k_mul; first | exact ops_muln (m := 2) (n := a + 1) rfl rfl (by omega) | fail) | (apply k_callf; first | exact ops_callf (d := 50) (hfc := b4) | fail) | fail) (hk := ?_) | refine l_op (hk := ?_) | (refine l_g ?_; first | refine l_y rfl rfl rfl ?_ | refine l_n rfl rfl rfl rfl (hk := ?_) | refine l_n' rfl rfl rfl (hk := ?_) | refine l_spnd rfl rfl rfl (h1 := fun hc => ?_) (h2 := fun hc => ?_) | refine l_spd rfl rfl rfl (h1 := fun hc => ?_) (h2 := fun hc => ?_) | refine l_spn rfl rfl rfl (h1 := fun hc => ?_) (h2 := fun hc => ?_) | refine l_sp rfl rfl rfl (h1 := fun hc => ?_) (h2 := fun hc => ?_)))
            all_goals
              refine rn_mk (k + 1, Y) ?_ (by first | omega | (dsimp only; omega)) (le_eq (by (repeat' first | exact .nil | refine .keep ?_ | refine .any ?_); first | done | fail) rfl rfl)
              exact ⟨hk2, by rw [hrw, putHs_app, putHs_app, ← hZ, hZ1]; exact hY⟩
    · have hst : rawT c n c.length = rawT c n k := by
        by_cases h : k < c.length
        · exact rawT_stop (by omega) _ hk
        · rw [show k = c.length by omega]
      have hfin : Z = hms c n := by rw [hZ, hms, hst]; rfl
      subst hfin
      repeat' first | apply w_seq | apply w_block | apply rb_n | apply rb_ret | apply rb_eq | refine rb_ne (by rfl) ?_ | apply w_exit | apply rt_exit | apply w_region | apply l_nil | apply rt_n | apply w_ret | apply rt_ret | apply w_skip | refine w_cond_t rfl ?_ | refine w_cond_f rfl ?_ | ((first | refine w_cnd rfl ?_ ?_ | refine w_cd rfl ?_ ?_ | refine w_cn rfl ?_ ?_ | refine w_cond rfl ?_ ?_) <;> intro hc) | (exfalso; omega) | (refine l_o ?_; first | refine l_eqnil rfl (by kernel_rfl) (by intro b; simp only [nz]; rfl) (fun b hb => ?_) | refine l_op (hk := ?_) | (refine l_g ?_; first | refine l_y rfl rfl rfl ?_ | refine l_n rfl rfl rfl rfl (hk := ?_) | refine l_n' rfl rfl rfl (hk := ?_) | refine l_spnd rfl rfl rfl (h1 := fun hc => ?_) (h2 := fun hc => ?_) | refine l_spd rfl rfl rfl (h1 := fun hc => ?_) (h2 := fun hc => ?_) | refine l_spn rfl rfl rfl (h1 := fun hc => ?_) (h2 := fun hc => ?_) | refine l_sp rfl rfl rfl (h1 := fun hc => ?_) (h2 := fun hc => ?_)))
      all_goals refine en_end (hf := Tryz.results87) (hr := ?_); simp only [ne, nf, nl, nr, lget, reduceIte, Nat.reduceEqDiff]; first | rfl | refine congrArg RVb ?_ | refine congrArg RVi ?_ | skip
end Go.Proofs.YtmfbcipjknjicaaGreatDoor
