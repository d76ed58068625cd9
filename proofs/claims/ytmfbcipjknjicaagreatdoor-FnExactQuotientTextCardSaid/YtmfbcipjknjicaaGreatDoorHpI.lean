/- Moves of a heap by the program. For all codes and heaps of the sizes that the theorem names. -/
import Derived.Test.YtmfbcipjknjicaaGreatDoorJ15
namespace Go.Proofs.YtmfbcipjknjicaaGreatDoor
open Eng
attribute [local irreducible] OpS OpG FC FCr Rel Fl Ef DR Fs
attribute [local simp] RV.fzR_names
set_option linter.unusedSimpArgs false
set_option linter.unusedVariables false
set_option maxHeartbeats 0
set_option maxRecDepth 100000

theorem mvAt_split {c : List Int} {n : Int} {k : Nat} (hr : ¬ n - k - 1 < 0) : mvAt c n k = mvB (c.getD k 0) (n - k - 1) ++ splT (n - k - 1) (if c.getD k 0 / 4 % 2 = 1 then ((n - k - 1) / 2).toNat else 0) := by
  rw [mvAt, if_neg hr]
  split
  · rfl
  · rfl
theorem apm {L : List (List Int)} {x : List Int} : List.map RIs L ++ [RV.sh (x.map RVi)] = List.map RIs (L ++ [x]) := by simp
theorem heapMoves_ok (c : List Int) (n : Int) (hc0 : gcode c = true) (hn : n ≤ 300) (hn0 : -1000 ≤ n) : FCr Tryz.prog 100 [RIs c, RVi n] (.ow 1 ((hms c n).map RIs)) := by
  have hcl := gcode_len hc0
  have hrl := rawT_len c n hn
  have hS := sortedHeaps_ok (rawT c n c.length) (by have := hrl c.length; omega)
  rw [show ordH (rawT c n c.length) = hms c n from rfl] at hS
  refine (fcr_in Tryz.func100 rfl (by simp only [Tryz.ntmps100, anys, List.length_cons, List.length_nil, Nat.reduceAdd, Nat.reduceSub, List.replicate_succ, List.replicate_zero, List.cons_append, List.nil_append] <;> rfl) ?_)
  repeat' first
    | refine w_seq ?_
    | refine w_block ?_
    | refine rb_n ?_
    | refine rb_ret ?_
    | refine rb_eq ?_
    | refine rb_ne (by rfl) ?_
    | refine w_exit ?_
    | refine rt_exit ?_
    | refine w_region ?_
    | refine l_nil ?_
    | refine rt_n ?_
    | refine w_ret ?_
    | refine rt_ret ?_
    | refine w_skip ?_
    | refine w_cond_t rfl ?_
    | refine w_cond_f rfl ?_
    | refine w_cnd rfl (fun hc => ?_) (fun hc => ?_)
    | refine w_cd rfl (fun hc => ?_) (fun hc => ?_)
    | refine w_cn rfl (fun hc => ?_) (fun hc => ?_)
    | refine w_cond rfl (fun hc => ?_) (fun hc => ?_)
    | (refine l_o ?_; first | refine l_eqnil rfl (by kernel_rfl) (by intro b; simp only [nz]; rfl) (fun b hb => ?_) | refine l_op (hk := ?_) | (refine l_g ?_; first | refine l_y rfl rfl rfl ?_ | refine l_n rfl rfl rfl rfl (hk := ?_) | refine l_n' rfl rfl rfl (hk := ?_) | refine l_spnd rfl rfl rfl (h1 := fun hc => ?_) (h2 := fun hc => ?_) | refine l_spd rfl rfl rfl (h1 := fun hc => ?_) (h2 := fun hc => ?_) | refine l_spn rfl rfl rfl (h1 := fun hc => ?_) (h2 := fun hc => ?_) | refine l_sp rfl rfl rfl (h1 := fun hc => ?_) (h2 := fun hc => ?_)))
  refine w_loopm (ι := Nat × List (List Int)) (fun q => [(13, RVn q.1), (5, .ref 10 0 q.2.length), (10, .any)]) (fun q => [(10, 1, q.2.map RIs)]) (fun q => q.1 ≤ c.length ∧ q.2 = rawT c n q.1) (fun q => c.length - q.1) (0, []) (h0 := ?_) (hs := ?_) (round := ?_)
  · exact ⟨Nat.zero_le _, rfl⟩
  · refine le_eq (by (repeat' first | exact .nil | refine .keep ?_ | refine .any ?_); first | done | fail) rfl rfl
  · intro ⟨k, L0⟩ ⟨hk, hL⟩
    dsimp only at hk hL ⊢
    have hkl := hrl k
    rw [← hL] at hkl
    by_cases hk2 : k < c.length
    · have hd := gcode_at hc0 (List.getElem_mem hk2)
      have e1 := and1 hd
      have e2 := and2 hd
      have e4 := and4 hd
      by_cases hr : n - k - 1 < 0
      · have hst := rawT_stop (c := c) hr c.length hk
        rw [hst, ← hL] at hS
        repeat' first
          | refine w_seq ?_
          | refine w_block ?_
          | refine rb_n ?_
          | refine rb_ret ?_
          | refine rb_eq ?_
          | refine rb_ne (by rfl) ?_
          | refine w_exit ?_
          | refine rt_exit ?_
          | refine w_region ?_
          | refine l_nil ?_
          | refine rt_n ?_
          | refine w_ret ?_
          | refine rt_ret ?_
          | refine w_skip ?_
          | refine w_cond_t rfl ?_
          | refine w_cond_f rfl ?_
          | refine w_cnd rfl (fun hc => ?_) (fun hc => ?_)
          | refine w_cd rfl (fun hc => ?_) (fun hc => ?_)
          | refine w_cn rfl (fun hc => ?_) (fun hc => ?_)
          | refine w_cond rfl (fun hc => ?_) (fun hc => ?_)
          | (exfalso; omega)
          | (refine l_o ?_; first | refine l_eqnil rfl (by kernel_rfl) (by intro b; simp only [nz]; rfl) (fun b hb => ?_) | refine l_op rfl (by first | (apply k_callf; first | exact ops_callG (d := 68) [10] [10] ([]) (hfc := hS) | fail) | fail) (hk := ?_) | refine l_op (hk := ?_) | (refine l_g ?_; first | refine l_y rfl rfl rfl ?_ | refine l_n rfl rfl rfl rfl (hk := ?_) | refine l_n' rfl rfl rfl (hk := ?_) | refine l_spnd rfl rfl rfl (h1 := fun hc => ?_) (h2 := fun hc => ?_) | refine l_spd rfl rfl rfl (h1 := fun hc => ?_) (h2 := fun hc => ?_) | refine l_spn rfl rfl rfl (h1 := fun hc => ?_) (h2 := fun hc => ?_) | refine l_sp rfl rfl rfl (h1 := fun hc => ?_) (h2 := fun hc => ?_)))
        refine en_end (hf := Tryz.results100) (hr := ?_); simp only [ne, nf, nl, nr, lget, reduceIte, Nat.reduceEqDiff]; first | rfl | refine congrArg RVb ?_ | refine congrArg RVi ?_ | skip
      · have hms := mvAt_split (c := c) hr
        have hcd : c.getD k 0 = c[k] := by simp [List.getD_eq_getElem?_getD, hk2]
        rw [hcd] at hms
        have hrw := rawT_succ c n k
        rw [hms, ← hL] at hrw
        have hkl1 := hrl (k + 1)
        rw [hrw] at hkl1
        have hAle : ((if c[k] / 4 % 2 = 1 then ((n - (k : Int) - 1) / 2).toNat else 0) : Nat) ≤ 150 := by split <;> omega
        have hA : ∀ a : Nat, (c[k] / 4 % 2 = 1 ∧ 2 * ((a : Int) + 1) ≤ n - (k : Int) - 1) ↔ a < (if c[k] / 4 % 2 = 1 then ((n - (k : Int) - 1) / 2).toNat else 0) := by
          intro a
          split
          · rename_i h; simp only [h, true_and]; omega
          · rename_i h; simp [h]
        generalize hAA : (if c[k] / 4 % 2 = 1 then ((n - (k : Int) - 1) / 2).toNat else 0) = A at *
        by_cases h0 : n - (k : Int) - 1 = 0
        · by_cases b1 : c[k] % 2 = 1
          · have hB : mvB c[k] (n - (k : Int) - 1) = [[]] := by unfold mvB; rw [if_pos ⟨b1, h0⟩, if_neg (by omega)]; rfl
            rw [hB] at hrw hkl1
            simp only [b1, if_true, if_false] at e1 e2
            by_cases bx : c[k] / 2 % 2 = 1 <;> simp only [bx, if_true, if_false] at e1 e2
            · repeat' first
                | refine w_seq ?_
                | refine w_block ?_
                | refine rb_n ?_
                | refine rb_ret ?_
                | refine rb_eq ?_
                | refine rb_ne (by rfl) ?_
                | refine w_exit ?_
                | refine rt_exit ?_
                | refine w_region ?_
                | refine l_nil ?_
                | refine rt_n ?_
                | refine w_ret ?_
                | refine rt_ret ?_
                | refine w_skip ?_
                | refine w_cond_t rfl ?_
                | refine w_cond_f rfl ?_
                | refine w_cnd rfl (fun hc => ?_) (fun hc => ?_)
                | refine w_cd rfl (fun hc => ?_) (fun hc => ?_)
                | refine w_cn rfl (fun hc => ?_) (fun hc => ?_)
                | refine w_cond rfl (fun hc => ?_) (fun hc => ?_)
                | (exfalso; omega)
                | (refine l_o ?_; first | refine l_eqnil rfl (by kernel_rfl) (by intro b; simp only [nz]; rfl) (fun b hb => ?_) | refine l_op rfl (by first | (apply k_and; first | exact ops_andv (n := 1) rfl rfl hd (by omega) e1 | exact ops_andv (n := 2) rfl rfl hd (by omega) e2 | fail) | (apply k_buildSlice; first | exact ops_buildSlice_fz (d := some 32) (k := 1) rfl rfl rfl (by decide) (by decide) (by kernel_rfl) (by decide +kernel) rfl | exact ops_buildSlice_fz (d := some 44) (k := 1) rfl rfl rfl (by decide) (by decide) (by kernel_rfl) (by decide +kernel) rfl | fail) | fail) (hk := ?_) | refine l_op (hk := ?_) | (refine l_g ?_; first | refine l_y rfl rfl rfl ?_ | refine l_n rfl rfl rfl rfl (hk := ?_) | refine l_n' rfl rfl rfl (hk := ?_) | refine l_spnd rfl rfl rfl (h1 := fun hc => ?_) (h2 := fun hc => ?_) | refine l_spd rfl rfl rfl (h1 := fun hc => ?_) (h2 := fun hc => ?_) | refine l_spn rfl rfl rfl (h1 := fun hc => ?_) (h2 := fun hc => ?_) | refine l_sp rfl rfl rfl (h1 := fun hc => ?_) (h2 := fun hc => ?_)))
              rw [show List.map RIs L0 ++ [RV.sh []] = List.map RIs (L0 ++ [[]]) from apm (x := []), List.length_map]
              refine w_loopm (ι := Nat × List (List Int)) (fun q => [(9, RVi ((q.1 : Int) + 1)), (5, .ref 10 0 q.2.length)]) (fun q => [(10, 1, q.2.map RIs)]) (fun q => q.1 ≤ A ∧ q.2 = L0 ++ ([[]] ++ splT (n - (k : Int) - 1) q.1)) (fun q => A - q.1) (0, L0 ++ [[]]) (h0 := ?_) (hs := ?_) (round := ?_)
              · exact ⟨Nat.zero_le _, by simp [splT]⟩
              · refine le_eq (by (repeat' first | exact .nil | refine .keep ?_ | refine .any ?_); first | done | fail) rfl rfl
              · intro ⟨a, L2⟩ ⟨ha, hL2⟩
                dsimp only at ha hL2 ⊢
                have hl2 : L2.length ≤ 10000 := by rw [hL2]; simp [splT_len]; omega
                have haA := hA a
                by_cases hlt : a < A
                · obtain ⟨b4, hle⟩ := haA.2 hlt
                  exfalso; omega
                · have haeq : a = A := by omega
                  subst haeq
                  have hfin : L2 = rawT c n (k + 1) := by rw [hL2, hrw]
                  by_cases b4 : c[k] / 4 % 2 = 1
                  · simp only [b4, if_true] at e4
                    have hle : ¬ 2 * ((a : Int) + 1) ≤ n - (k : Int) - 1 := fun h => hlt (haA.1 ⟨b4, h⟩)
                    repeat' first
                      | refine w_seq ?_
                      | refine w_block ?_
                      | refine rb_n ?_
                      | refine rb_ret ?_
                      | refine rb_eq ?_
                      | refine rb_ne (by rfl) ?_
                      | refine w_exit ?_
                      | refine rt_exit ?_
                      | refine w_region ?_
                      | refine l_nil ?_
                      | refine rt_n ?_
                      | refine w_ret ?_
                      | refine rt_ret ?_
                      | refine w_skip ?_
                      | refine w_cond_t rfl ?_
                      | refine w_cond_f rfl ?_
                      | refine w_cnd rfl (fun hc => ?_) (fun hc => ?_)
                      | refine w_cd rfl (fun hc => ?_) (fun hc => ?_)
                      | refine w_cn rfl (fun hc => ?_) (fun hc => ?_)
                      | refine w_cond rfl (fun hc => ?_) (fun hc => ?_)
                      | (exfalso; omega)
                      | (refine l_o ?_; first | refine l_eqnil rfl (by kernel_rfl) (by intro b; simp only [nz]; rfl) (fun b hb => ?_) | refine l_op rfl (by first | (apply k_and; first | exact ops_andv (n := 4) rfl rfl hd (by omega) e4 | fail) | (apply k_mul; first | exact ops_mul (m := 2) (n := (a : Int) + 1) rfl rfl (by omega) (by omega) | fail) | fail) (hk := ?_) | refine l_op (hk := ?_) | (refine l_g ?_; first | refine l_y rfl rfl rfl ?_ | refine l_n rfl rfl rfl rfl (hk := ?_) | refine l_n' rfl rfl rfl (hk := ?_) | refine l_spnd rfl rfl rfl (h1 := fun hc => ?_) (h2 := fun hc => ?_) | refine l_spd rfl rfl rfl (h1 := fun hc => ?_) (h2 := fun hc => ?_) | refine l_spn rfl rfl rfl (h1 := fun hc => ?_) (h2 := fun hc => ?_) | refine l_sp rfl rfl rfl (h1 := fun hc => ?_) (h2 := fun hc => ?_)))
                    refine rn_mk (k + 1, L2) ?_ (by first | omega | (dsimp only; omega)) (le_eq (by (repeat' first | exact .nil | refine .keep ?_ | refine .any ?_); first | done | fail) rfl rfl)
                    exact ⟨hk2, hfin⟩
                  · simp only [b4, if_false] at e4
                    repeat' first
                      | refine w_seq ?_
                      | refine w_block ?_
                      | refine rb_n ?_
                      | refine rb_ret ?_
                      | refine rb_eq ?_
                      | refine rb_ne (by rfl) ?_
                      | refine w_exit ?_
                      | refine rt_exit ?_
                      | refine w_region ?_
                      | refine l_nil ?_
                      | refine rt_n ?_
                      | refine w_ret ?_
                      | refine rt_ret ?_
                      | refine w_skip ?_
                      | refine w_cond_t rfl ?_
                      | refine w_cond_f rfl ?_
                      | refine w_cnd rfl (fun hc => ?_) (fun hc => ?_)
                      | refine w_cd rfl (fun hc => ?_) (fun hc => ?_)
                      | refine w_cn rfl (fun hc => ?_) (fun hc => ?_)
                      | refine w_cond rfl (fun hc => ?_) (fun hc => ?_)
                      | (exfalso; omega)
                      | (refine l_o ?_; first | refine l_eqnil rfl (by kernel_rfl) (by intro b; simp only [nz]; rfl) (fun b hb => ?_) | refine l_op rfl (by first | (apply k_and; first | exact ops_andv (n := 4) rfl rfl hd (by omega) e4 | fail) | (apply k_mul; first | exact ops_mul (m := 2) (n := (a : Int) + 1) rfl rfl (by omega) (by omega) | fail) | fail) (hk := ?_) | refine l_op (hk := ?_) | (refine l_g ?_; first | refine l_y rfl rfl rfl ?_ | refine l_n rfl rfl rfl rfl (hk := ?_) | refine l_n' rfl rfl rfl (hk := ?_) | refine l_spnd rfl rfl rfl (h1 := fun hc => ?_) (h2 := fun hc => ?_) | refine l_spd rfl rfl rfl (h1 := fun hc => ?_) (h2 := fun hc => ?_) | refine l_spn rfl rfl rfl (h1 := fun hc => ?_) (h2 := fun hc => ?_) | refine l_sp rfl rfl rfl (h1 := fun hc => ?_) (h2 := fun hc => ?_)))
                    refine rn_mk (k + 1, L2) ?_ (by first | omega | (dsimp only; omega)) (le_eq (by (repeat' first | exact .nil | refine .keep ?_ | refine .any ?_); first | done | fail) rfl rfl)
                    exact ⟨hk2, hfin⟩
            · repeat' first
                | refine w_seq ?_
                | refine w_block ?_
                | refine rb_n ?_
                | refine rb_ret ?_
                | refine rb_eq ?_
                | refine rb_ne (by rfl) ?_
                | refine w_exit ?_
                | refine rt_exit ?_
                | refine w_region ?_
                | refine l_nil ?_
                | refine rt_n ?_
                | refine w_ret ?_
                | refine rt_ret ?_
                | refine w_skip ?_
                | refine w_cond_t rfl ?_
                | refine w_cond_f rfl ?_
                | refine w_cnd rfl (fun hc => ?_) (fun hc => ?_)
                | refine w_cd rfl (fun hc => ?_) (fun hc => ?_)
                | refine w_cn rfl (fun hc => ?_) (fun hc => ?_)
                | refine w_cond rfl (fun hc => ?_) (fun hc => ?_)
                | (exfalso; omega)
                | (refine l_o ?_; first | refine l_eqnil rfl (by kernel_rfl) (by intro b; simp only [nz]; rfl) (fun b hb => ?_) | refine l_op rfl (by first | (apply k_and; first | exact ops_andv (n := 1) rfl rfl hd (by omega) e1 | exact ops_andv (n := 2) rfl rfl hd (by omega) e2 | fail) | (apply k_buildSlice; first | exact ops_buildSlice_fz (d := some 32) (k := 1) rfl rfl rfl (by decide) (by decide) (by kernel_rfl) (by decide +kernel) rfl | exact ops_buildSlice_fz (d := some 44) (k := 1) rfl rfl rfl (by decide) (by decide) (by kernel_rfl) (by decide +kernel) rfl | fail) | fail) (hk := ?_) | refine l_op (hk := ?_) | (refine l_g ?_; first | refine l_y rfl rfl rfl ?_ | refine l_n rfl rfl rfl rfl (hk := ?_) | refine l_n' rfl rfl rfl (hk := ?_) | refine l_spnd rfl rfl rfl (h1 := fun hc => ?_) (h2 := fun hc => ?_) | refine l_spd rfl rfl rfl (h1 := fun hc => ?_) (h2 := fun hc => ?_) | refine l_spn rfl rfl rfl (h1 := fun hc => ?_) (h2 := fun hc => ?_) | refine l_sp rfl rfl rfl (h1 := fun hc => ?_) (h2 := fun hc => ?_)))
              rw [show List.map RIs L0 ++ [RV.sh []] = List.map RIs (L0 ++ [[]]) from apm (x := []), List.length_map]
              refine w_loopm (ι := Nat × List (List Int)) (fun q => [(9, RVi ((q.1 : Int) + 1)), (5, .ref 10 0 q.2.length)]) (fun q => [(10, 1, q.2.map RIs)]) (fun q => q.1 ≤ A ∧ q.2 = L0 ++ ([[]] ++ splT (n - (k : Int) - 1) q.1)) (fun q => A - q.1) (0, L0 ++ [[]]) (h0 := ?_) (hs := ?_) (round := ?_)
              · exact ⟨Nat.zero_le _, by simp [splT]⟩
              · refine le_eq (by (repeat' first | exact .nil | refine .keep ?_ | refine .any ?_); first | done | fail) rfl rfl
              · intro ⟨a, L2⟩ ⟨ha, hL2⟩
                dsimp only at ha hL2 ⊢
                have hl2 : L2.length ≤ 10000 := by rw [hL2]; simp [splT_len]; omega
                have haA := hA a
                by_cases hlt : a < A
                · obtain ⟨b4, hle⟩ := haA.2 hlt
                  exfalso; omega
                · have haeq : a = A := by omega
                  subst haeq
                  have hfin : L2 = rawT c n (k + 1) := by rw [hL2, hrw]
                  by_cases b4 : c[k] / 4 % 2 = 1
                  · simp only [b4, if_true] at e4
                    have hle : ¬ 2 * ((a : Int) + 1) ≤ n - (k : Int) - 1 := fun h => hlt (haA.1 ⟨b4, h⟩)
                    repeat' first
                      | refine w_seq ?_
                      | refine w_block ?_
                      | refine rb_n ?_
                      | refine rb_ret ?_
                      | refine rb_eq ?_
                      | refine rb_ne (by rfl) ?_
                      | refine w_exit ?_
                      | refine rt_exit ?_
                      | refine w_region ?_
                      | refine l_nil ?_
                      | refine rt_n ?_
                      | refine w_ret ?_
                      | refine rt_ret ?_
                      | refine w_skip ?_
                      | refine w_cond_t rfl ?_
                      | refine w_cond_f rfl ?_
                      | refine w_cnd rfl (fun hc => ?_) (fun hc => ?_)
                      | refine w_cd rfl (fun hc => ?_) (fun hc => ?_)
                      | refine w_cn rfl (fun hc => ?_) (fun hc => ?_)
                      | refine w_cond rfl (fun hc => ?_) (fun hc => ?_)
                      | (exfalso; omega)
                      | (refine l_o ?_; first | refine l_eqnil rfl (by kernel_rfl) (by intro b; simp only [nz]; rfl) (fun b hb => ?_) | refine l_op rfl (by first | (apply k_and; first | exact ops_andv (n := 4) rfl rfl hd (by omega) e4 | fail) | (apply k_mul; first | exact ops_mul (m := 2) (n := (a : Int) + 1) rfl rfl (by omega) (by omega) | fail) | fail) (hk := ?_) | refine l_op (hk := ?_) | (refine l_g ?_; first | refine l_y rfl rfl rfl ?_ | refine l_n rfl rfl rfl rfl (hk := ?_) | refine l_n' rfl rfl rfl (hk := ?_) | refine l_spnd rfl rfl rfl (h1 := fun hc => ?_) (h2 := fun hc => ?_) | refine l_spd rfl rfl rfl (h1 := fun hc => ?_) (h2 := fun hc => ?_) | refine l_spn rfl rfl rfl (h1 := fun hc => ?_) (h2 := fun hc => ?_) | refine l_sp rfl rfl rfl (h1 := fun hc => ?_) (h2 := fun hc => ?_)))
                    refine rn_mk (k + 1, L2) ?_ (by first | omega | (dsimp only; omega)) (le_eq (by (repeat' first | exact .nil | refine .keep ?_ | refine .any ?_); first | done | fail) rfl rfl)
                    exact ⟨hk2, hfin⟩
                  · simp only [b4, if_false] at e4
                    repeat' first
                      | refine w_seq ?_
                      | refine w_block ?_
                      | refine rb_n ?_
                      | refine rb_ret ?_
                      | refine rb_eq ?_
                      | refine rb_ne (by rfl) ?_
                      | refine w_exit ?_
                      | refine rt_exit ?_
                      | refine w_region ?_
                      | refine l_nil ?_
                      | refine rt_n ?_
                      | refine w_ret ?_
                      | refine rt_ret ?_
                      | refine w_skip ?_
                      | refine w_cond_t rfl ?_
                      | refine w_cond_f rfl ?_
                      | refine w_cnd rfl (fun hc => ?_) (fun hc => ?_)
                      | refine w_cd rfl (fun hc => ?_) (fun hc => ?_)
                      | refine w_cn rfl (fun hc => ?_) (fun hc => ?_)
                      | refine w_cond rfl (fun hc => ?_) (fun hc => ?_)
                      | (exfalso; omega)
                      | (refine l_o ?_; first | refine l_eqnil rfl (by kernel_rfl) (by intro b; simp only [nz]; rfl) (fun b hb => ?_) | refine l_op rfl (by first | (apply k_and; first | exact ops_andv (n := 4) rfl rfl hd (by omega) e4 | fail) | (apply k_mul; first | exact ops_mul (m := 2) (n := (a : Int) + 1) rfl rfl (by omega) (by omega) | fail) | fail) (hk := ?_) | refine l_op (hk := ?_) | (refine l_g ?_; first | refine l_y rfl rfl rfl ?_ | refine l_n rfl rfl rfl rfl (hk := ?_) | refine l_n' rfl rfl rfl (hk := ?_) | refine l_spnd rfl rfl rfl (h1 := fun hc => ?_) (h2 := fun hc => ?_) | refine l_spd rfl rfl rfl (h1 := fun hc => ?_) (h2 := fun hc => ?_) | refine l_spn rfl rfl rfl (h1 := fun hc => ?_) (h2 := fun hc => ?_) | refine l_sp rfl rfl rfl (h1 := fun hc => ?_) (h2 := fun hc => ?_)))
                    refine rn_mk (k + 1, L2) ?_ (by first | omega | (dsimp only; omega)) (le_eq (by (repeat' first | exact .nil | refine .keep ?_ | refine .any ?_); first | done | fail) rfl rfl)
                    exact ⟨hk2, hfin⟩
          · have hB : mvB c[k] (n - (k : Int) - 1) = [] := by unfold mvB; rw [if_neg (fun h => b1 h.1), if_neg (by omega)]; rfl
            rw [hB] at hrw hkl1
            simp only [b1, if_true, if_false] at e1 e2
            by_cases bx : c[k] / 2 % 2 = 1 <;> simp only [bx, if_true, if_false] at e1 e2
            · repeat' first
                | refine w_seq ?_
                | refine w_block ?_
                | refine rb_n ?_
                | refine rb_ret ?_
                | refine rb_eq ?_
                | refine rb_ne (by rfl) ?_
                | refine w_exit ?_
                | refine rt_exit ?_
                | refine w_region ?_
                | refine l_nil ?_
                | refine rt_n ?_
                | refine w_ret ?_
                | refine rt_ret ?_
                | refine w_skip ?_
                | refine w_cond_t rfl ?_
                | refine w_cond_f rfl ?_
                | refine w_cnd rfl (fun hc => ?_) (fun hc => ?_)
                | refine w_cd rfl (fun hc => ?_) (fun hc => ?_)
                | refine w_cn rfl (fun hc => ?_) (fun hc => ?_)
                | refine w_cond rfl (fun hc => ?_) (fun hc => ?_)
                | (exfalso; omega)
                | (refine l_o ?_; first | refine l_eqnil rfl (by kernel_rfl) (by intro b; simp only [nz]; rfl) (fun b hb => ?_) | refine l_op rfl (by first | (apply k_and; first | exact ops_andv (n := 1) rfl rfl hd (by omega) e1 | exact ops_andv (n := 2) rfl rfl hd (by omega) e2 | fail) | (apply k_buildSlice; first | exact ops_buildSlice_fz (d := some 32) (k := 1) rfl rfl rfl (by decide) (by decide) (by kernel_rfl) (by decide +kernel) rfl | exact ops_buildSlice_fz (d := some 44) (k := 1) rfl rfl rfl (by decide) (by decide) (by kernel_rfl) (by decide +kernel) rfl | fail) | fail) (hk := ?_) | refine l_op (hk := ?_) | (refine l_g ?_; first | refine l_y rfl rfl rfl ?_ | refine l_n rfl rfl rfl rfl (hk := ?_) | refine l_n' rfl rfl rfl (hk := ?_) | refine l_spnd rfl rfl rfl (h1 := fun hc => ?_) (h2 := fun hc => ?_) | refine l_spd rfl rfl rfl (h1 := fun hc => ?_) (h2 := fun hc => ?_) | refine l_spn rfl rfl rfl (h1 := fun hc => ?_) (h2 := fun hc => ?_) | refine l_sp rfl rfl rfl (h1 := fun hc => ?_) (h2 := fun hc => ?_)))
              refine w_loopm (ι := Nat × List (List Int)) (fun q => [(9, RVi ((q.1 : Int) + 1)), (5, .ref 10 0 q.2.length)]) (fun q => [(10, 1, q.2.map RIs)]) (fun q => q.1 ≤ A ∧ q.2 = L0 ++ ([] ++ splT (n - (k : Int) - 1) q.1)) (fun q => A - q.1) (0, L0) (h0 := ?_) (hs := ?_) (round := ?_)
              · exact ⟨Nat.zero_le _, by simp [splT]⟩
              · refine le_eq (by (repeat' first | exact .nil | refine .keep ?_ | refine .any ?_); first | done | fail) rfl rfl
              · intro ⟨a, L2⟩ ⟨ha, hL2⟩
                dsimp only at ha hL2 ⊢
                have hl2 : L2.length ≤ 10000 := by rw [hL2]; simp [splT_len]; omega
                have haA := hA a
                by_cases hlt : a < A
                · obtain ⟨b4, hle⟩ := haA.2 hlt
                  exfalso; omega
                · have haeq : a = A := by omega
                  subst haeq
                  have hfin : L2 = rawT c n (k + 1) := by rw [hL2, hrw]
                  by_cases b4 : c[k] / 4 % 2 = 1
                  · simp only [b4, if_true] at e4
                    have hle : ¬ 2 * ((a : Int) + 1) ≤ n - (k : Int) - 1 := fun h => hlt (haA.1 ⟨b4, h⟩)
                    repeat' first
                      | refine w_seq ?_
                      | refine w_block ?_
                      | refine rb_n ?_
                      | refine rb_ret ?_
                      | refine rb_eq ?_
                      | refine rb_ne (by rfl) ?_
                      | refine w_exit ?_
                      | refine rt_exit ?_
                      | refine w_region ?_
                      | refine l_nil ?_
                      | refine rt_n ?_
                      | refine w_ret ?_
                      | refine rt_ret ?_
                      | refine w_skip ?_
                      | refine w_cond_t rfl ?_
                      | refine w_cond_f rfl ?_
                      | refine w_cnd rfl (fun hc => ?_) (fun hc => ?_)
                      | refine w_cd rfl (fun hc => ?_) (fun hc => ?_)
                      | refine w_cn rfl (fun hc => ?_) (fun hc => ?_)
                      | refine w_cond rfl (fun hc => ?_) (fun hc => ?_)
                      | (exfalso; omega)
                      | (refine l_o ?_; first | refine l_eqnil rfl (by kernel_rfl) (by intro b; simp only [nz]; rfl) (fun b hb => ?_) | refine l_op rfl (by first | (apply k_and; first | exact ops_andv (n := 4) rfl rfl hd (by omega) e4 | fail) | (apply k_mul; first | exact ops_mul (m := 2) (n := (a : Int) + 1) rfl rfl (by omega) (by omega) | fail) | fail) (hk := ?_) | refine l_op (hk := ?_) | (refine l_g ?_; first | refine l_y rfl rfl rfl ?_ | refine l_n rfl rfl rfl rfl (hk := ?_) | refine l_n' rfl rfl rfl (hk := ?_) | refine l_spnd rfl rfl rfl (h1 := fun hc => ?_) (h2 := fun hc => ?_) | refine l_spd rfl rfl rfl (h1 := fun hc => ?_) (h2 := fun hc => ?_) | refine l_spn rfl rfl rfl (h1 := fun hc => ?_) (h2 := fun hc => ?_) | refine l_sp rfl rfl rfl (h1 := fun hc => ?_) (h2 := fun hc => ?_)))
                    refine rn_mk (k + 1, L2) ?_ (by first | omega | (dsimp only; omega)) (le_eq (by (repeat' first | exact .nil | refine .keep ?_ | refine .any ?_); first | done | fail) rfl rfl)
                    exact ⟨hk2, hfin⟩
                  · simp only [b4, if_false] at e4
                    repeat' first
                      | refine w_seq ?_
                      | refine w_block ?_
                      | refine rb_n ?_
                      | refine rb_ret ?_
                      | refine rb_eq ?_
                      | refine rb_ne (by rfl) ?_
                      | refine w_exit ?_
                      | refine rt_exit ?_
                      | refine w_region ?_
                      | refine l_nil ?_
                      | refine rt_n ?_
                      | refine w_ret ?_
                      | refine rt_ret ?_
                      | refine w_skip ?_
                      | refine w_cond_t rfl ?_
                      | refine w_cond_f rfl ?_
                      | refine w_cnd rfl (fun hc => ?_) (fun hc => ?_)
                      | refine w_cd rfl (fun hc => ?_) (fun hc => ?_)
                      | refine w_cn rfl (fun hc => ?_) (fun hc => ?_)
                      | refine w_cond rfl (fun hc => ?_) (fun hc => ?_)
                      | (exfalso; omega)
                      | (refine l_o ?_; first | refine l_eqnil rfl (by kernel_rfl) (by intro b; simp only [nz]; rfl) (fun b hb => ?_) | refine l_op rfl (by first | (apply k_and; first | exact ops_andv (n := 4) rfl rfl hd (by omega) e4 | fail) | (apply k_mul; first | exact ops_mul (m := 2) (n := (a : Int) + 1) rfl rfl (by omega) (by omega) | fail) | fail) (hk := ?_) | refine l_op (hk := ?_) | (refine l_g ?_; first | refine l_y rfl rfl rfl ?_ | refine l_n rfl rfl rfl rfl (hk := ?_) | refine l_n' rfl rfl rfl (hk := ?_) | refine l_spnd rfl rfl rfl (h1 := fun hc => ?_) (h2 := fun hc => ?_) | refine l_spd rfl rfl rfl (h1 := fun hc => ?_) (h2 := fun hc => ?_) | refine l_spn rfl rfl rfl (h1 := fun hc => ?_) (h2 := fun hc => ?_) | refine l_sp rfl rfl rfl (h1 := fun hc => ?_) (h2 := fun hc => ?_)))
                    refine rn_mk (k + 1, L2) ?_ (by first | omega | (dsimp only; omega)) (le_eq (by (repeat' first | exact .nil | refine .keep ?_ | refine .any ?_); first | done | fail) rfl rfl)
                    exact ⟨hk2, hfin⟩
            · repeat' first
                | refine w_seq ?_
                | refine w_block ?_
                | refine rb_n ?_
                | refine rb_ret ?_
                | refine rb_eq ?_
                | refine rb_ne (by rfl) ?_
                | refine w_exit ?_
                | refine rt_exit ?_
                | refine w_region ?_
                | refine l_nil ?_
                | refine rt_n ?_
                | refine w_ret ?_
                | refine rt_ret ?_
                | refine w_skip ?_
                | refine w_cond_t rfl ?_
                | refine w_cond_f rfl ?_
                | refine w_cnd rfl (fun hc => ?_) (fun hc => ?_)
                | refine w_cd rfl (fun hc => ?_) (fun hc => ?_)
                | refine w_cn rfl (fun hc => ?_) (fun hc => ?_)
                | refine w_cond rfl (fun hc => ?_) (fun hc => ?_)
                | (exfalso; omega)
                | (refine l_o ?_; first | refine l_eqnil rfl (by kernel_rfl) (by intro b; simp only [nz]; rfl) (fun b hb => ?_) | refine l_op rfl (by first | (apply k_and; first | exact ops_andv (n := 1) rfl rfl hd (by omega) e1 | exact ops_andv (n := 2) rfl rfl hd (by omega) e2 | fail) | (apply k_buildSlice; first | exact ops_buildSlice_fz (d := some 32) (k := 1) rfl rfl rfl (by decide) (by decide) (by kernel_rfl) (by decide +kernel) rfl | exact ops_buildSlice_fz (d := some 44) (k := 1) rfl rfl rfl (by decide) (by decide) (by kernel_rfl) (by decide +kernel) rfl | fail) | fail) (hk := ?_) | refine l_op (hk := ?_) | (refine l_g ?_; first | refine l_y rfl rfl rfl ?_ | refine l_n rfl rfl rfl rfl (hk := ?_) | refine l_n' rfl rfl rfl (hk := ?_) | refine l_spnd rfl rfl rfl (h1 := fun hc => ?_) (h2 := fun hc => ?_) | refine l_spd rfl rfl rfl (h1 := fun hc => ?_) (h2 := fun hc => ?_) | refine l_spn rfl rfl rfl (h1 := fun hc => ?_) (h2 := fun hc => ?_) | refine l_sp rfl rfl rfl (h1 := fun hc => ?_) (h2 := fun hc => ?_)))
              refine w_loopm (ι := Nat × List (List Int)) (fun q => [(9, RVi ((q.1 : Int) + 1)), (5, .ref 10 0 q.2.length)]) (fun q => [(10, 1, q.2.map RIs)]) (fun q => q.1 ≤ A ∧ q.2 = L0 ++ ([] ++ splT (n - (k : Int) - 1) q.1)) (fun q => A - q.1) (0, L0) (h0 := ?_) (hs := ?_) (round := ?_)
              · exact ⟨Nat.zero_le _, by simp [splT]⟩
              · refine le_eq (by (repeat' first | exact .nil | refine .keep ?_ | refine .any ?_); first | done | fail) rfl rfl
              · intro ⟨a, L2⟩ ⟨ha, hL2⟩
                dsimp only at ha hL2 ⊢
                have hl2 : L2.length ≤ 10000 := by rw [hL2]; simp [splT_len]; omega
                have haA := hA a
                by_cases hlt : a < A
                · obtain ⟨b4, hle⟩ := haA.2 hlt
                  exfalso; omega
                · have haeq : a = A := by omega
                  subst haeq
                  have hfin : L2 = rawT c n (k + 1) := by rw [hL2, hrw]
                  by_cases b4 : c[k] / 4 % 2 = 1
                  · simp only [b4, if_true] at e4
                    have hle : ¬ 2 * ((a : Int) + 1) ≤ n - (k : Int) - 1 := fun h => hlt (haA.1 ⟨b4, h⟩)
                    repeat' first
                      | refine w_seq ?_
                      | refine w_block ?_
                      | refine rb_n ?_
                      | refine rb_ret ?_
                      | refine rb_eq ?_
                      | refine rb_ne (by rfl) ?_
                      | refine w_exit ?_
                      | refine rt_exit ?_
                      | refine w_region ?_
                      | refine l_nil ?_
                      | refine rt_n ?_
                      | refine w_ret ?_
                      | refine rt_ret ?_
                      | refine w_skip ?_
                      | refine w_cond_t rfl ?_
                      | refine w_cond_f rfl ?_
                      | refine w_cnd rfl (fun hc => ?_) (fun hc => ?_)
                      | refine w_cd rfl (fun hc => ?_) (fun hc => ?_)
                      | refine w_cn rfl (fun hc => ?_) (fun hc => ?_)
                      | refine w_cond rfl (fun hc => ?_) (fun hc => ?_)
                      | (exfalso; omega)
                      | (refine l_o ?_; first | refine l_eqnil rfl (by kernel_rfl) (by intro b; simp only [nz]; rfl) (fun b hb => ?_) | refine l_op rfl (by first | (apply k_and; first | exact ops_andv (n := 4) rfl rfl hd (by omega) e4 | fail) | (apply k_mul; first | exact ops_mul (m := 2) (n := (a : Int) + 1) rfl rfl (by omega) (by omega) | fail) | fail) (hk := ?_) | refine l_op (hk := ?_) | (refine l_g ?_; first | refine l_y rfl rfl rfl ?_ | refine l_n rfl rfl rfl rfl (hk := ?_) | refine l_n' rfl rfl rfl (hk := ?_) | refine l_spnd rfl rfl rfl (h1 := fun hc => ?_) (h2 := fun hc => ?_) | refine l_spd rfl rfl rfl (h1 := fun hc => ?_) (h2 := fun hc => ?_) | refine l_spn rfl rfl rfl (h1 := fun hc => ?_) (h2 := fun hc => ?_) | refine l_sp rfl rfl rfl (h1 := fun hc => ?_) (h2 := fun hc => ?_)))
                    refine rn_mk (k + 1, L2) ?_ (by first | omega | (dsimp only; omega)) (le_eq (by (repeat' first | exact .nil | refine .keep ?_ | refine .any ?_); first | done | fail) rfl rfl)
                    exact ⟨hk2, hfin⟩
                  · simp only [b4, if_false] at e4
                    repeat' first
                      | refine w_seq ?_
                      | refine w_block ?_
                      | refine rb_n ?_
                      | refine rb_ret ?_
                      | refine rb_eq ?_
                      | refine rb_ne (by rfl) ?_
                      | refine w_exit ?_
                      | refine rt_exit ?_
                      | refine w_region ?_
                      | refine l_nil ?_
                      | refine rt_n ?_
                      | refine w_ret ?_
                      | refine rt_ret ?_
                      | refine w_skip ?_
                      | refine w_cond_t rfl ?_
                      | refine w_cond_f rfl ?_
                      | refine w_cnd rfl (fun hc => ?_) (fun hc => ?_)
                      | refine w_cd rfl (fun hc => ?_) (fun hc => ?_)
                      | refine w_cn rfl (fun hc => ?_) (fun hc => ?_)
                      | refine w_cond rfl (fun hc => ?_) (fun hc => ?_)
                      | (exfalso; omega)
                      | (refine l_o ?_; first | refine l_eqnil rfl (by kernel_rfl) (by intro b; simp only [nz]; rfl) (fun b hb => ?_) | refine l_op rfl (by first | (apply k_and; first | exact ops_andv (n := 4) rfl rfl hd (by omega) e4 | fail) | (apply k_mul; first | exact ops_mul (m := 2) (n := (a : Int) + 1) rfl rfl (by omega) (by omega) | fail) | fail) (hk := ?_) | refine l_op (hk := ?_) | (refine l_g ?_; first | refine l_y rfl rfl rfl ?_ | refine l_n rfl rfl rfl rfl (hk := ?_) | refine l_n' rfl rfl rfl (hk := ?_) | refine l_spnd rfl rfl rfl (h1 := fun hc => ?_) (h2 := fun hc => ?_) | refine l_spd rfl rfl rfl (h1 := fun hc => ?_) (h2 := fun hc => ?_) | refine l_spn rfl rfl rfl (h1 := fun hc => ?_) (h2 := fun hc => ?_) | refine l_sp rfl rfl rfl (h1 := fun hc => ?_) (h2 := fun hc => ?_)))
                    refine rn_mk (k + 1, L2) ?_ (by first | omega | (dsimp only; omega)) (le_eq (by (repeat' first | exact .nil | refine .keep ?_ | refine .any ?_); first | done | fail) rfl rfl)
                    exact ⟨hk2, hfin⟩
        · by_cases b2 : c[k] / 2 % 2 = 1
          · have hB : mvB c[k] (n - (k : Int) - 1) = [[n - (k : Int) - 1]] := by unfold mvB; rw [if_neg (fun h => h0 h.2), if_pos ⟨b2, by omega⟩]; rfl
            rw [hB] at hrw hkl1
            simp only [b2, if_true, if_false] at e1 e2
            by_cases bx : c[k] % 2 = 1 <;> simp only [bx, if_true, if_false] at e1 e2
            · repeat' first
                | refine w_seq ?_
                | refine w_block ?_
                | refine rb_n ?_
                | refine rb_ret ?_
                | refine rb_eq ?_
                | refine rb_ne (by rfl) ?_
                | refine w_exit ?_
                | refine rt_exit ?_
                | refine w_region ?_
                | refine l_nil ?_
                | refine rt_n ?_
                | refine w_ret ?_
                | refine rt_ret ?_
                | refine w_skip ?_
                | refine w_cond_t rfl ?_
                | refine w_cond_f rfl ?_
                | refine w_cnd rfl (fun hc => ?_) (fun hc => ?_)
                | refine w_cd rfl (fun hc => ?_) (fun hc => ?_)
                | refine w_cn rfl (fun hc => ?_) (fun hc => ?_)
                | refine w_cond rfl (fun hc => ?_) (fun hc => ?_)
                | (exfalso; omega)
                | (refine l_o ?_; first | refine l_eqnil rfl (by kernel_rfl) (by intro b; simp only [nz]; rfl) (fun b hb => ?_) | refine l_op rfl (by first | (apply k_and; first | exact ops_andv (n := 1) rfl rfl hd (by omega) e1 | exact ops_andv (n := 2) rfl rfl hd (by omega) e2 | fail) | (apply k_buildSlice; first | exact ops_buildSlice_fz (d := some 32) (k := 1) rfl rfl rfl (by decide) (by decide) (by kernel_rfl) (by decide +kernel) rfl | exact ops_buildSlice_fz (d := some 44) (k := 1) rfl rfl rfl (by decide) (by decide) (by kernel_rfl) (by decide +kernel) rfl | fail) | fail) (hk := ?_) | refine l_op (hk := ?_) | (refine l_g ?_; first | refine l_y rfl rfl rfl ?_ | refine l_n rfl rfl rfl rfl (hk := ?_) | refine l_n' rfl rfl rfl (hk := ?_) | refine l_spnd rfl rfl rfl (h1 := fun hc => ?_) (h2 := fun hc => ?_) | refine l_spd rfl rfl rfl (h1 := fun hc => ?_) (h2 := fun hc => ?_) | refine l_spn rfl rfl rfl (h1 := fun hc => ?_) (h2 := fun hc => ?_) | refine l_sp rfl rfl rfl (h1 := fun hc => ?_) (h2 := fun hc => ?_)))
              rw [show List.map RIs L0 ++ [RV.sh [RVi (n - (k : Int) - 1)]] = List.map RIs (L0 ++ [[n - (k : Int) - 1]]) from apm (x := [n - (k : Int) - 1]), List.length_map]
              refine w_loopm (ι := Nat × List (List Int)) (fun q => [(9, RVi ((q.1 : Int) + 1)), (5, .ref 10 0 q.2.length), (46, .any)]) (fun q => [(10, 1, q.2.map RIs)]) (fun q => q.1 ≤ A ∧ q.2 = L0 ++ ([[n - (k : Int) - 1]] ++ splT (n - (k : Int) - 1) q.1)) (fun q => A - q.1) (0, L0 ++ [[n - (k : Int) - 1]]) (h0 := ?_) (hs := ?_) (round := ?_)
              · exact ⟨Nat.zero_le _, by simp [splT]⟩
              · refine le_eq (by (repeat' first | exact .nil | refine .keep ?_ | refine .any ?_); first | done | fail) rfl rfl
              · intro ⟨a, L2⟩ ⟨ha, hL2⟩
                dsimp only at ha hL2 ⊢
                have hl2 : L2.length ≤ 10000 := by rw [hL2]; simp [splT_len]; omega
                have haA := hA a
                by_cases hlt : a < A
                · obtain ⟨b4, hle⟩ := haA.2 hlt
                  simp only [b4, if_true] at e4
                  repeat' first
                    | refine w_seq ?_
                    | refine w_block ?_
                    | refine rb_n ?_
                    | refine rb_ret ?_
                    | refine rb_eq ?_
                    | refine rb_ne (by rfl) ?_
                    | refine w_exit ?_
                    | refine rt_exit ?_
                    | refine w_region ?_
                    | refine l_nil ?_
                    | refine rt_n ?_
                    | refine w_ret ?_
                    | refine rt_ret ?_
                    | refine w_skip ?_
                    | refine w_cond_t rfl ?_
                    | refine w_cond_f rfl ?_
                    | refine w_cnd rfl (fun hc => ?_) (fun hc => ?_)
                    | refine w_cd rfl (fun hc => ?_) (fun hc => ?_)
                    | refine w_cn rfl (fun hc => ?_) (fun hc => ?_)
                    | refine w_cond rfl (fun hc => ?_) (fun hc => ?_)
                    | (exfalso; omega)
                    | (refine l_o ?_; first | refine l_eqnil rfl (by kernel_rfl) (by intro b; simp only [nz]; rfl) (fun b hb => ?_) | refine l_op rfl (by first | (apply k_and; first | exact ops_andv (n := 4) rfl rfl hd (by omega) e4 | fail) | (apply k_mul; first | exact ops_mul (m := 2) (n := (a : Int) + 1) rfl rfl (by omega) (by omega) | fail) | (apply k_buildSlice; first | exact ops_buildSlice_fz (d := some 63) (k := 1) rfl rfl rfl (by decide) (by decide) (by kernel_rfl) (by decide +kernel) rfl | fail) | fail) (hk := ?_) | refine l_op (hk := ?_) | (refine l_g ?_; first | refine l_y rfl rfl rfl ?_ | refine l_n rfl rfl rfl rfl (hk := ?_) | refine l_n' rfl rfl rfl (hk := ?_) | refine l_spnd rfl rfl rfl (h1 := fun hc => ?_) (h2 := fun hc => ?_) | refine l_spd rfl rfl rfl (h1 := fun hc => ?_) (h2 := fun hc => ?_) | refine l_spn rfl rfl rfl (h1 := fun hc => ?_) (h2 := fun hc => ?_) | refine l_sp rfl rfl rfl (h1 := fun hc => ?_) (h2 := fun hc => ?_)))
                  rw [show (a : Int) + 1 + 1 = ((a + 1 : Nat) : Int) + 1 by omega]
                  rw [show List.map RIs L2 ++ [RV.sh [RVi ((a : Int) + 1), RVi (n - (k : Int) - 1 - ((a : Int) + 1))]] = List.map RIs (L2 ++ [[(a : Int) + 1, n - (k : Int) - 1 - ((a : Int) + 1)]]) from apm (x := [(a : Int) + 1, n - (k : Int) - 1 - ((a : Int) + 1)]), List.length_map]
                  refine rn_mk (a + 1, L2 ++ [[(a : Int) + 1, n - (k : Int) - 1 - ((a : Int) + 1)]]) ?_ (by first | omega | (dsimp only; omega)) (le_eq (by (repeat' first | exact .nil | refine .keep ?_ | refine .any ?_); first | done | fail) rfl rfl)
                  exact ⟨hlt, by dsimp only; rw [hL2, splT_succ]; simp⟩
                · have haeq : a = A := by omega
                  subst haeq
                  have hfin : L2 = rawT c n (k + 1) := by rw [hL2, hrw]
                  by_cases b4 : c[k] / 4 % 2 = 1
                  · simp only [b4, if_true] at e4
                    have hle : ¬ 2 * ((a : Int) + 1) ≤ n - (k : Int) - 1 := fun h => hlt (haA.1 ⟨b4, h⟩)
                    repeat' first
                      | refine w_seq ?_
                      | refine w_block ?_
                      | refine rb_n ?_
                      | refine rb_ret ?_
                      | refine rb_eq ?_
                      | refine rb_ne (by rfl) ?_
                      | refine w_exit ?_
                      | refine rt_exit ?_
                      | refine w_region ?_
                      | refine l_nil ?_
                      | refine rt_n ?_
                      | refine w_ret ?_
                      | refine rt_ret ?_
                      | refine w_skip ?_
                      | refine w_cond_t rfl ?_
                      | refine w_cond_f rfl ?_
                      | refine w_cnd rfl (fun hc => ?_) (fun hc => ?_)
                      | refine w_cd rfl (fun hc => ?_) (fun hc => ?_)
                      | refine w_cn rfl (fun hc => ?_) (fun hc => ?_)
                      | refine w_cond rfl (fun hc => ?_) (fun hc => ?_)
                      | (exfalso; omega)
                      | (refine l_o ?_; first | refine l_eqnil rfl (by kernel_rfl) (by intro b; simp only [nz]; rfl) (fun b hb => ?_) | refine l_op rfl (by first | (apply k_and; first | exact ops_andv (n := 4) rfl rfl hd (by omega) e4 | fail) | (apply k_mul; first | exact ops_mul (m := 2) (n := (a : Int) + 1) rfl rfl (by omega) (by omega) | fail) | fail) (hk := ?_) | refine l_op (hk := ?_) | (refine l_g ?_; first | refine l_y rfl rfl rfl ?_ | refine l_n rfl rfl rfl rfl (hk := ?_) | refine l_n' rfl rfl rfl (hk := ?_) | refine l_spnd rfl rfl rfl (h1 := fun hc => ?_) (h2 := fun hc => ?_) | refine l_spd rfl rfl rfl (h1 := fun hc => ?_) (h2 := fun hc => ?_) | refine l_spn rfl rfl rfl (h1 := fun hc => ?_) (h2 := fun hc => ?_) | refine l_sp rfl rfl rfl (h1 := fun hc => ?_) (h2 := fun hc => ?_)))
                    refine rn_mk (k + 1, L2) ?_ (by first | omega | (dsimp only; omega)) (le_eq (by (repeat' first | exact .nil | refine .keep ?_ | refine .any ?_); first | done | fail) rfl rfl)
                    exact ⟨hk2, hfin⟩
                  · simp only [b4, if_false] at e4
                    repeat' first
                      | refine w_seq ?_
                      | refine w_block ?_
                      | refine rb_n ?_
                      | refine rb_ret ?_
                      | refine rb_eq ?_
                      | refine rb_ne (by rfl) ?_
                      | refine w_exit ?_
                      | refine rt_exit ?_
                      | refine w_region ?_
                      | refine l_nil ?_
                      | refine rt_n ?_
                      | refine w_ret ?_
                      | refine rt_ret ?_
                      | refine w_skip ?_
                      | refine w_cond_t rfl ?_
                      | refine w_cond_f rfl ?_
                      | refine w_cnd rfl (fun hc => ?_) (fun hc => ?_)
                      | refine w_cd rfl (fun hc => ?_) (fun hc => ?_)
                      | refine w_cn rfl (fun hc => ?_) (fun hc => ?_)
                      | refine w_cond rfl (fun hc => ?_) (fun hc => ?_)
                      | (exfalso; omega)
                      | (refine l_o ?_; first | refine l_eqnil rfl (by kernel_rfl) (by intro b; simp only [nz]; rfl) (fun b hb => ?_) | refine l_op rfl (by first | (apply k_and; first | exact ops_andv (n := 4) rfl rfl hd (by omega) e4 | fail) | (apply k_mul; first | exact ops_mul (m := 2) (n := (a : Int) + 1) rfl rfl (by omega) (by omega) | fail) | fail) (hk := ?_) | refine l_op (hk := ?_) | (refine l_g ?_; first | refine l_y rfl rfl rfl ?_ | refine l_n rfl rfl rfl rfl (hk := ?_) | refine l_n' rfl rfl rfl (hk := ?_) | refine l_spnd rfl rfl rfl (h1 := fun hc => ?_) (h2 := fun hc => ?_) | refine l_spd rfl rfl rfl (h1 := fun hc => ?_) (h2 := fun hc => ?_) | refine l_spn rfl rfl rfl (h1 := fun hc => ?_) (h2 := fun hc => ?_) | refine l_sp rfl rfl rfl (h1 := fun hc => ?_) (h2 := fun hc => ?_)))
                    refine rn_mk (k + 1, L2) ?_ (by first | omega | (dsimp only; omega)) (le_eq (by (repeat' first | exact .nil | refine .keep ?_ | refine .any ?_); first | done | fail) rfl rfl)
                    exact ⟨hk2, hfin⟩
            · repeat' first
                | refine w_seq ?_
                | refine w_block ?_
                | refine rb_n ?_
                | refine rb_ret ?_
                | refine rb_eq ?_
                | refine rb_ne (by rfl) ?_
                | refine w_exit ?_
                | refine rt_exit ?_
                | refine w_region ?_
                | refine l_nil ?_
                | refine rt_n ?_
                | refine w_ret ?_
                | refine rt_ret ?_
                | refine w_skip ?_
                | refine w_cond_t rfl ?_
                | refine w_cond_f rfl ?_
                | refine w_cnd rfl (fun hc => ?_) (fun hc => ?_)
                | refine w_cd rfl (fun hc => ?_) (fun hc => ?_)
                | refine w_cn rfl (fun hc => ?_) (fun hc => ?_)
                | refine w_cond rfl (fun hc => ?_) (fun hc => ?_)
                | (exfalso; omega)
                | (refine l_o ?_; first | refine l_eqnil rfl (by kernel_rfl) (by intro b; simp only [nz]; rfl) (fun b hb => ?_) | refine l_op rfl (by first | (apply k_and; first | exact ops_andv (n := 1) rfl rfl hd (by omega) e1 | exact ops_andv (n := 2) rfl rfl hd (by omega) e2 | fail) | (apply k_buildSlice; first | exact ops_buildSlice_fz (d := some 32) (k := 1) rfl rfl rfl (by decide) (by decide) (by kernel_rfl) (by decide +kernel) rfl | exact ops_buildSlice_fz (d := some 44) (k := 1) rfl rfl rfl (by decide) (by decide) (by kernel_rfl) (by decide +kernel) rfl | fail) | fail) (hk := ?_) | refine l_op (hk := ?_) | (refine l_g ?_; first | refine l_y rfl rfl rfl ?_ | refine l_n rfl rfl rfl rfl (hk := ?_) | refine l_n' rfl rfl rfl (hk := ?_) | refine l_spnd rfl rfl rfl (h1 := fun hc => ?_) (h2 := fun hc => ?_) | refine l_spd rfl rfl rfl (h1 := fun hc => ?_) (h2 := fun hc => ?_) | refine l_spn rfl rfl rfl (h1 := fun hc => ?_) (h2 := fun hc => ?_) | refine l_sp rfl rfl rfl (h1 := fun hc => ?_) (h2 := fun hc => ?_)))
              rw [show List.map RIs L0 ++ [RV.sh [RVi (n - (k : Int) - 1)]] = List.map RIs (L0 ++ [[n - (k : Int) - 1]]) from apm (x := [n - (k : Int) - 1]), List.length_map]
              refine w_loopm (ι := Nat × List (List Int)) (fun q => [(9, RVi ((q.1 : Int) + 1)), (5, .ref 10 0 q.2.length), (46, .any)]) (fun q => [(10, 1, q.2.map RIs)]) (fun q => q.1 ≤ A ∧ q.2 = L0 ++ ([[n - (k : Int) - 1]] ++ splT (n - (k : Int) - 1) q.1)) (fun q => A - q.1) (0, L0 ++ [[n - (k : Int) - 1]]) (h0 := ?_) (hs := ?_) (round := ?_)
              · exact ⟨Nat.zero_le _, by simp [splT]⟩
              · refine le_eq (by (repeat' first | exact .nil | refine .keep ?_ | refine .any ?_); first | done | fail) rfl rfl
              · intro ⟨a, L2⟩ ⟨ha, hL2⟩
                dsimp only at ha hL2 ⊢
                have hl2 : L2.length ≤ 10000 := by rw [hL2]; simp [splT_len]; omega
                have haA := hA a
                by_cases hlt : a < A
                · obtain ⟨b4, hle⟩ := haA.2 hlt
                  simp only [b4, if_true] at e4
                  repeat' first
                    | refine w_seq ?_
                    | refine w_block ?_
                    | refine rb_n ?_
                    | refine rb_ret ?_
                    | refine rb_eq ?_
                    | refine rb_ne (by rfl) ?_
                    | refine w_exit ?_
                    | refine rt_exit ?_
                    | refine w_region ?_
                    | refine l_nil ?_
                    | refine rt_n ?_
                    | refine w_ret ?_
                    | refine rt_ret ?_
                    | refine w_skip ?_
                    | refine w_cond_t rfl ?_
                    | refine w_cond_f rfl ?_
                    | refine w_cnd rfl (fun hc => ?_) (fun hc => ?_)
                    | refine w_cd rfl (fun hc => ?_) (fun hc => ?_)
                    | refine w_cn rfl (fun hc => ?_) (fun hc => ?_)
                    | refine w_cond rfl (fun hc => ?_) (fun hc => ?_)
                    | (exfalso; omega)
                    | (refine l_o ?_; first | refine l_eqnil rfl (by kernel_rfl) (by intro b; simp only [nz]; rfl) (fun b hb => ?_) | refine l_op rfl (by first | (apply k_and; first | exact ops_andv (n := 4) rfl rfl hd (by omega) e4 | fail) | (apply k_mul; first | exact ops_mul (m := 2) (n := (a : Int) + 1) rfl rfl (by omega) (by omega) | fail) | (apply k_buildSlice; first | exact ops_buildSlice_fz (d := some 63) (k := 1) rfl rfl rfl (by decide) (by decide) (by kernel_rfl) (by decide +kernel) rfl | fail) | fail) (hk := ?_) | refine l_op (hk := ?_) | (refine l_g ?_; first | refine l_y rfl rfl rfl ?_ | refine l_n rfl rfl rfl rfl (hk := ?_) | refine l_n' rfl rfl rfl (hk := ?_) | refine l_spnd rfl rfl rfl (h1 := fun hc => ?_) (h2 := fun hc => ?_) | refine l_spd rfl rfl rfl (h1 := fun hc => ?_) (h2 := fun hc => ?_) | refine l_spn rfl rfl rfl (h1 := fun hc => ?_) (h2 := fun hc => ?_) | refine l_sp rfl rfl rfl (h1 := fun hc => ?_) (h2 := fun hc => ?_)))
                  rw [show (a : Int) + 1 + 1 = ((a + 1 : Nat) : Int) + 1 by omega]
                  rw [show List.map RIs L2 ++ [RV.sh [RVi ((a : Int) + 1), RVi (n - (k : Int) - 1 - ((a : Int) + 1))]] = List.map RIs (L2 ++ [[(a : Int) + 1, n - (k : Int) - 1 - ((a : Int) + 1)]]) from apm (x := [(a : Int) + 1, n - (k : Int) - 1 - ((a : Int) + 1)]), List.length_map]
                  refine rn_mk (a + 1, L2 ++ [[(a : Int) + 1, n - (k : Int) - 1 - ((a : Int) + 1)]]) ?_ (by first | omega | (dsimp only; omega)) (le_eq (by (repeat' first | exact .nil | refine .keep ?_ | refine .any ?_); first | done | fail) rfl rfl)
                  exact ⟨hlt, by dsimp only; rw [hL2, splT_succ]; simp⟩
                · have haeq : a = A := by omega
                  subst haeq
                  have hfin : L2 = rawT c n (k + 1) := by rw [hL2, hrw]
                  by_cases b4 : c[k] / 4 % 2 = 1
                  · simp only [b4, if_true] at e4
                    have hle : ¬ 2 * ((a : Int) + 1) ≤ n - (k : Int) - 1 := fun h => hlt (haA.1 ⟨b4, h⟩)
                    repeat' first
                      | refine w_seq ?_
                      | refine w_block ?_
                      | refine rb_n ?_
                      | refine rb_ret ?_
                      | refine rb_eq ?_
                      | refine rb_ne (by rfl) ?_
                      | refine w_exit ?_
                      | refine rt_exit ?_
                      | refine w_region ?_
                      | refine l_nil ?_
                      | refine rt_n ?_
                      | refine w_ret ?_
                      | refine rt_ret ?_
                      | refine w_skip ?_
                      | refine w_cond_t rfl ?_
                      | refine w_cond_f rfl ?_
                      | refine w_cnd rfl (fun hc => ?_) (fun hc => ?_)
                      | refine w_cd rfl (fun hc => ?_) (fun hc => ?_)
                      | refine w_cn rfl (fun hc => ?_) (fun hc => ?_)
                      | refine w_cond rfl (fun hc => ?_) (fun hc => ?_)
                      | (exfalso; omega)
                      | (refine l_o ?_; first | refine l_eqnil rfl (by kernel_rfl) (by intro b; simp only [nz]; rfl) (fun b hb => ?_) | refine l_op rfl (by first | (apply k_and; first | exact ops_andv (n := 4) rfl rfl hd (by omega) e4 | fail) | (apply k_mul; first | exact ops_mul (m := 2) (n := (a : Int) + 1) rfl rfl (by omega) (by omega) | fail) | fail) (hk := ?_) | refine l_op (hk := ?_) | (refine l_g ?_; first | refine l_y rfl rfl rfl ?_ | refine l_n rfl rfl rfl rfl (hk := ?_) | refine l_n' rfl rfl rfl (hk := ?_) | refine l_spnd rfl rfl rfl (h1 := fun hc => ?_) (h2 := fun hc => ?_) | refine l_spd rfl rfl rfl (h1 := fun hc => ?_) (h2 := fun hc => ?_) | refine l_spn rfl rfl rfl (h1 := fun hc => ?_) (h2 := fun hc => ?_) | refine l_sp rfl rfl rfl (h1 := fun hc => ?_) (h2 := fun hc => ?_)))
                    refine rn_mk (k + 1, L2) ?_ (by first | omega | (dsimp only; omega)) (le_eq (by (repeat' first | exact .nil | refine .keep ?_ | refine .any ?_); first | done | fail) rfl rfl)
                    exact ⟨hk2, hfin⟩
                  · simp only [b4, if_false] at e4
                    repeat' first
                      | refine w_seq ?_
                      | refine w_block ?_
                      | refine rb_n ?_
                      | refine rb_ret ?_
                      | refine rb_eq ?_
                      | refine rb_ne (by rfl) ?_
                      | refine w_exit ?_
                      | refine rt_exit ?_
                      | refine w_region ?_
                      | refine l_nil ?_
                      | refine rt_n ?_
                      | refine w_ret ?_
                      | refine rt_ret ?_
                      | refine w_skip ?_
                      | refine w_cond_t rfl ?_
                      | refine w_cond_f rfl ?_
                      | refine w_cnd rfl (fun hc => ?_) (fun hc => ?_)
                      | refine w_cd rfl (fun hc => ?_) (fun hc => ?_)
                      | refine w_cn rfl (fun hc => ?_) (fun hc => ?_)
                      | refine w_cond rfl (fun hc => ?_) (fun hc => ?_)
                      | (exfalso; omega)
                      | (refine l_o ?_; first | refine l_eqnil rfl (by kernel_rfl) (by intro b; simp only [nz]; rfl) (fun b hb => ?_) | refine l_op rfl (by first | (apply k_and; first | exact ops_andv (n := 4) rfl rfl hd (by omega) e4 | fail) | (apply k_mul; first | exact ops_mul (m := 2) (n := (a : Int) + 1) rfl rfl (by omega) (by omega) | fail) | fail) (hk := ?_) | refine l_op (hk := ?_) | (refine l_g ?_; first | refine l_y rfl rfl rfl ?_ | refine l_n rfl rfl rfl rfl (hk := ?_) | refine l_n' rfl rfl rfl (hk := ?_) | refine l_spnd rfl rfl rfl (h1 := fun hc => ?_) (h2 := fun hc => ?_) | refine l_spd rfl rfl rfl (h1 := fun hc => ?_) (h2 := fun hc => ?_) | refine l_spn rfl rfl rfl (h1 := fun hc => ?_) (h2 := fun hc => ?_) | refine l_sp rfl rfl rfl (h1 := fun hc => ?_) (h2 := fun hc => ?_)))
                    refine rn_mk (k + 1, L2) ?_ (by first | omega | (dsimp only; omega)) (le_eq (by (repeat' first | exact .nil | refine .keep ?_ | refine .any ?_); first | done | fail) rfl rfl)
                    exact ⟨hk2, hfin⟩
          · have hB : mvB c[k] (n - (k : Int) - 1) = [] := by unfold mvB; rw [if_neg (fun h => h0 h.2), if_neg (fun h => b2 h.1)]; rfl
            rw [hB] at hrw hkl1
            simp only [b2, if_true, if_false] at e1 e2
            by_cases bx : c[k] % 2 = 1 <;> simp only [bx, if_true, if_false] at e1 e2
            · repeat' first
                | refine w_seq ?_
                | refine w_block ?_
                | refine rb_n ?_
                | refine rb_ret ?_
                | refine rb_eq ?_
                | refine rb_ne (by rfl) ?_
                | refine w_exit ?_
                | refine rt_exit ?_
                | refine w_region ?_
                | refine l_nil ?_
                | refine rt_n ?_
                | refine w_ret ?_
                | refine rt_ret ?_
                | refine w_skip ?_
                | refine w_cond_t rfl ?_
                | refine w_cond_f rfl ?_
                | refine w_cnd rfl (fun hc => ?_) (fun hc => ?_)
                | refine w_cd rfl (fun hc => ?_) (fun hc => ?_)
                | refine w_cn rfl (fun hc => ?_) (fun hc => ?_)
                | refine w_cond rfl (fun hc => ?_) (fun hc => ?_)
                | (exfalso; omega)
                | (refine l_o ?_; first | refine l_eqnil rfl (by kernel_rfl) (by intro b; simp only [nz]; rfl) (fun b hb => ?_) | refine l_op rfl (by first | (apply k_and; first | exact ops_andv (n := 1) rfl rfl hd (by omega) e1 | exact ops_andv (n := 2) rfl rfl hd (by omega) e2 | fail) | (apply k_buildSlice; first | exact ops_buildSlice_fz (d := some 32) (k := 1) rfl rfl rfl (by decide) (by decide) (by kernel_rfl) (by decide +kernel) rfl | exact ops_buildSlice_fz (d := some 44) (k := 1) rfl rfl rfl (by decide) (by decide) (by kernel_rfl) (by decide +kernel) rfl | fail) | fail) (hk := ?_) | refine l_op (hk := ?_) | (refine l_g ?_; first | refine l_y rfl rfl rfl ?_ | refine l_n rfl rfl rfl rfl (hk := ?_) | refine l_n' rfl rfl rfl (hk := ?_) | refine l_spnd rfl rfl rfl (h1 := fun hc => ?_) (h2 := fun hc => ?_) | refine l_spd rfl rfl rfl (h1 := fun hc => ?_) (h2 := fun hc => ?_) | refine l_spn rfl rfl rfl (h1 := fun hc => ?_) (h2 := fun hc => ?_) | refine l_sp rfl rfl rfl (h1 := fun hc => ?_) (h2 := fun hc => ?_)))
              refine w_loopm (ι := Nat × List (List Int)) (fun q => [(9, RVi ((q.1 : Int) + 1)), (5, .ref 10 0 q.2.length)]) (fun q => [(10, 1, q.2.map RIs)]) (fun q => q.1 ≤ A ∧ q.2 = L0 ++ ([] ++ splT (n - (k : Int) - 1) q.1)) (fun q => A - q.1) (0, L0) (h0 := ?_) (hs := ?_) (round := ?_)
              · exact ⟨Nat.zero_le _, by simp [splT]⟩
              · refine le_eq (by (repeat' first | exact .nil | refine .keep ?_ | refine .any ?_); first | done | fail) rfl rfl
              · intro ⟨a, L2⟩ ⟨ha, hL2⟩
                dsimp only at ha hL2 ⊢
                have hl2 : L2.length ≤ 10000 := by rw [hL2]; simp [splT_len]; omega
                have haA := hA a
                by_cases hlt : a < A
                · obtain ⟨b4, hle⟩ := haA.2 hlt
                  simp only [b4, if_true] at e4
                  repeat' first
                    | refine w_seq ?_
                    | refine w_block ?_
                    | refine rb_n ?_
                    | refine rb_ret ?_
                    | refine rb_eq ?_
                    | refine rb_ne (by rfl) ?_
                    | refine w_exit ?_
                    | refine rt_exit ?_
                    | refine w_region ?_
                    | refine l_nil ?_
                    | refine rt_n ?_
                    | refine w_ret ?_
                    | refine rt_ret ?_
                    | refine w_skip ?_
                    | refine w_cond_t rfl ?_
                    | refine w_cond_f rfl ?_
                    | refine w_cnd rfl (fun hc => ?_) (fun hc => ?_)
                    | refine w_cd rfl (fun hc => ?_) (fun hc => ?_)
                    | refine w_cn rfl (fun hc => ?_) (fun hc => ?_)
                    | refine w_cond rfl (fun hc => ?_) (fun hc => ?_)
                    | (exfalso; omega)
                    | (refine l_o ?_; first | refine l_eqnil rfl (by kernel_rfl) (by intro b; simp only [nz]; rfl) (fun b hb => ?_) | refine l_op rfl (by first | (apply k_and; first | exact ops_andv (n := 4) rfl rfl hd (by omega) e4 | fail) | (apply k_mul; first | exact ops_mul (m := 2) (n := (a : Int) + 1) rfl rfl (by omega) (by omega) | fail) | (apply k_buildSlice; first | exact ops_buildSlice_fz (d := some 63) (k := 1) rfl rfl rfl (by decide) (by decide) (by kernel_rfl) (by decide +kernel) rfl | fail) | fail) (hk := ?_) | refine l_op (hk := ?_) | (refine l_g ?_; first | refine l_y rfl rfl rfl ?_ | refine l_n rfl rfl rfl rfl (hk := ?_) | refine l_n' rfl rfl rfl (hk := ?_) | refine l_spnd rfl rfl rfl (h1 := fun hc => ?_) (h2 := fun hc => ?_) | refine l_spd rfl rfl rfl (h1 := fun hc => ?_) (h2 := fun hc => ?_) | refine l_spn rfl rfl rfl (h1 := fun hc => ?_) (h2 := fun hc => ?_) | refine l_sp rfl rfl rfl (h1 := fun hc => ?_) (h2 := fun hc => ?_)))
                  rw [show (a : Int) + 1 + 1 = ((a + 1 : Nat) : Int) + 1 by omega]
                  rw [show List.map RIs L2 ++ [RV.sh [RVi ((a : Int) + 1), RVi (n - (k : Int) - 1 - ((a : Int) + 1))]] = List.map RIs (L2 ++ [[(a : Int) + 1, n - (k : Int) - 1 - ((a : Int) + 1)]]) from apm (x := [(a : Int) + 1, n - (k : Int) - 1 - ((a : Int) + 1)]), List.length_map]
                  refine rn_mk (a + 1, L2 ++ [[(a : Int) + 1, n - (k : Int) - 1 - ((a : Int) + 1)]]) ?_ (by first | omega | (dsimp only; omega)) (le_eq (by (repeat' first | exact .nil | refine .keep ?_ | refine .any ?_); first | done | fail) rfl rfl)
                  exact ⟨hlt, by dsimp only; rw [hL2, splT_succ]; simp⟩
                · have haeq : a = A := by omega
                  subst haeq
                  have hfin : L2 = rawT c n (k + 1) := by rw [hL2, hrw]
                  by_cases b4 : c[k] / 4 % 2 = 1
                  · simp only [b4, if_true] at e4
                    have hle : ¬ 2 * ((a : Int) + 1) ≤ n - (k : Int) - 1 := fun h => hlt (haA.1 ⟨b4, h⟩)
                    repeat' first
                      | refine w_seq ?_
                      | refine w_block ?_
                      | refine rb_n ?_
                      | refine rb_ret ?_
                      | refine rb_eq ?_
                      | refine rb_ne (by rfl) ?_
                      | refine w_exit ?_
                      | refine rt_exit ?_
                      | refine w_region ?_
                      | refine l_nil ?_
                      | refine rt_n ?_
                      | refine w_ret ?_
                      | refine rt_ret ?_
                      | refine w_skip ?_
                      | refine w_cond_t rfl ?_
                      | refine w_cond_f rfl ?_
                      | refine w_cnd rfl (fun hc => ?_) (fun hc => ?_)
                      | refine w_cd rfl (fun hc => ?_) (fun hc => ?_)
                      | refine w_cn rfl (fun hc => ?_) (fun hc => ?_)
                      | refine w_cond rfl (fun hc => ?_) (fun hc => ?_)
                      | (exfalso; omega)
                      | (refine l_o ?_; first | refine l_eqnil rfl (by kernel_rfl) (by intro b; simp only [nz]; rfl) (fun b hb => ?_) | refine l_op rfl (by first | (apply k_and; first | exact ops_andv (n := 4) rfl rfl hd (by omega) e4 | fail) | (apply k_mul; first | exact ops_mul (m := 2) (n := (a : Int) + 1) rfl rfl (by omega) (by omega) | fail) | fail) (hk := ?_) | refine l_op (hk := ?_) | (refine l_g ?_; first | refine l_y rfl rfl rfl ?_ | refine l_n rfl rfl rfl rfl (hk := ?_) | refine l_n' rfl rfl rfl (hk := ?_) | refine l_spnd rfl rfl rfl (h1 := fun hc => ?_) (h2 := fun hc => ?_) | refine l_spd rfl rfl rfl (h1 := fun hc => ?_) (h2 := fun hc => ?_) | refine l_spn rfl rfl rfl (h1 := fun hc => ?_) (h2 := fun hc => ?_) | refine l_sp rfl rfl rfl (h1 := fun hc => ?_) (h2 := fun hc => ?_)))
                    refine rn_mk (k + 1, L2) ?_ (by first | omega | (dsimp only; omega)) (le_eq (by (repeat' first | exact .nil | refine .keep ?_ | refine .any ?_); first | done | fail) rfl rfl)
                    exact ⟨hk2, hfin⟩
                  · simp only [b4, if_false] at e4
                    repeat' first
                      | refine w_seq ?_
                      | refine w_block ?_
                      | refine rb_n ?_
                      | refine rb_ret ?_
                      | refine rb_eq ?_
                      | refine rb_ne (by rfl) ?_
                      | refine w_exit ?_
                      | refine rt_exit ?_
                      | refine w_region ?_
                      | refine l_nil ?_
                      | refine rt_n ?_
                      | refine w_ret ?_
                      | refine rt_ret ?_
                      | refine w_skip ?_
                      | refine w_cond_t rfl ?_
                      | refine w_cond_f rfl ?_
                      | refine w_cnd rfl (fun hc => ?_) (fun hc => ?_)
                      | refine w_cd rfl (fun hc => ?_) (fun hc => ?_)
                      | refine w_cn rfl (fun hc => ?_) (fun hc => ?_)
                      | refine w_cond rfl (fun hc => ?_) (fun hc => ?_)
                      | (exfalso; omega)
                      | (refine l_o ?_; first | refine l_eqnil rfl (by kernel_rfl) (by intro b; simp only [nz]; rfl) (fun b hb => ?_) | refine l_op rfl (by first | (apply k_and; first | exact ops_andv (n := 4) rfl rfl hd (by omega) e4 | fail) | (apply k_mul; first | exact ops_mul (m := 2) (n := (a : Int) + 1) rfl rfl (by omega) (by omega) | fail) | fail) (hk := ?_) | refine l_op (hk := ?_) | (refine l_g ?_; first | refine l_y rfl rfl rfl ?_ | refine l_n rfl rfl rfl rfl (hk := ?_) | refine l_n' rfl rfl rfl (hk := ?_) | refine l_spnd rfl rfl rfl (h1 := fun hc => ?_) (h2 := fun hc => ?_) | refine l_spd rfl rfl rfl (h1 := fun hc => ?_) (h2 := fun hc => ?_) | refine l_spn rfl rfl rfl (h1 := fun hc => ?_) (h2 := fun hc => ?_) | refine l_sp rfl rfl rfl (h1 := fun hc => ?_) (h2 := fun hc => ?_)))
                    refine rn_mk (k + 1, L2) ?_ (by first | omega | (dsimp only; omega)) (le_eq (by (repeat' first | exact .nil | refine .keep ?_ | refine .any ?_); first | done | fail) rfl rfl)
                    exact ⟨hk2, hfin⟩
            · repeat' first
                | refine w_seq ?_
                | refine w_block ?_
                | refine rb_n ?_
                | refine rb_ret ?_
                | refine rb_eq ?_
                | refine rb_ne (by rfl) ?_
                | refine w_exit ?_
                | refine rt_exit ?_
                | refine w_region ?_
                | refine l_nil ?_
                | refine rt_n ?_
                | refine w_ret ?_
                | refine rt_ret ?_
                | refine w_skip ?_
                | refine w_cond_t rfl ?_
                | refine w_cond_f rfl ?_
                | refine w_cnd rfl (fun hc => ?_) (fun hc => ?_)
                | refine w_cd rfl (fun hc => ?_) (fun hc => ?_)
                | refine w_cn rfl (fun hc => ?_) (fun hc => ?_)
                | refine w_cond rfl (fun hc => ?_) (fun hc => ?_)
                | (exfalso; omega)
                | (refine l_o ?_; first | refine l_eqnil rfl (by kernel_rfl) (by intro b; simp only [nz]; rfl) (fun b hb => ?_) | refine l_op rfl (by first | (apply k_and; first | exact ops_andv (n := 1) rfl rfl hd (by omega) e1 | exact ops_andv (n := 2) rfl rfl hd (by omega) e2 | fail) | (apply k_buildSlice; first | exact ops_buildSlice_fz (d := some 32) (k := 1) rfl rfl rfl (by decide) (by decide) (by kernel_rfl) (by decide +kernel) rfl | exact ops_buildSlice_fz (d := some 44) (k := 1) rfl rfl rfl (by decide) (by decide) (by kernel_rfl) (by decide +kernel) rfl | fail) | fail) (hk := ?_) | refine l_op (hk := ?_) | (refine l_g ?_; first | refine l_y rfl rfl rfl ?_ | refine l_n rfl rfl rfl rfl (hk := ?_) | refine l_n' rfl rfl rfl (hk := ?_) | refine l_spnd rfl rfl rfl (h1 := fun hc => ?_) (h2 := fun hc => ?_) | refine l_spd rfl rfl rfl (h1 := fun hc => ?_) (h2 := fun hc => ?_) | refine l_spn rfl rfl rfl (h1 := fun hc => ?_) (h2 := fun hc => ?_) | refine l_sp rfl rfl rfl (h1 := fun hc => ?_) (h2 := fun hc => ?_)))
              refine w_loopm (ι := Nat × List (List Int)) (fun q => [(9, RVi ((q.1 : Int) + 1)), (5, .ref 10 0 q.2.length)]) (fun q => [(10, 1, q.2.map RIs)]) (fun q => q.1 ≤ A ∧ q.2 = L0 ++ ([] ++ splT (n - (k : Int) - 1) q.1)) (fun q => A - q.1) (0, L0) (h0 := ?_) (hs := ?_) (round := ?_)
              · exact ⟨Nat.zero_le _, by simp [splT]⟩
              · refine le_eq (by (repeat' first | exact .nil | refine .keep ?_ | refine .any ?_); first | done | fail) rfl rfl
              · intro ⟨a, L2⟩ ⟨ha, hL2⟩
                dsimp only at ha hL2 ⊢
                have hl2 : L2.length ≤ 10000 := by rw [hL2]; simp [splT_len]; omega
                have haA := hA a
                by_cases hlt : a < A
                · obtain ⟨b4, hle⟩ := haA.2 hlt
                  simp only [b4, if_true] at e4
                  repeat' first
                    | refine w_seq ?_
                    | refine w_block ?_
                    | refine rb_n ?_
                    | refine rb_ret ?_
                    | refine rb_eq ?_
                    | refine rb_ne (by rfl) ?_
                    | refine w_exit ?_
                    | refine rt_exit ?_
                    | refine w_region ?_
                    | refine l_nil ?_
                    | refine rt_n ?_
                    | refine w_ret ?_
                    | refine rt_ret ?_
                    | refine w_skip ?_
                    | refine w_cond_t rfl ?_
                    | refine w_cond_f rfl ?_
                    | refine w_cnd rfl (fun hc => ?_) (fun hc => ?_)
                    | refine w_cd rfl (fun hc => ?_) (fun hc => ?_)
                    | refine w_cn rfl (fun hc => ?_) (fun hc => ?_)
                    | refine w_cond rfl (fun hc => ?_) (fun hc => ?_)
                    | (exfalso; omega)
                    | (refine l_o ?_; first | refine l_eqnil rfl (by kernel_rfl) (by intro b; simp only [nz]; rfl) (fun b hb => ?_) | refine l_op rfl (by first | (apply k_and; first | exact ops_andv (n := 4) rfl rfl hd (by omega) e4 | fail) | (apply k_mul; first | exact ops_mul (m := 2) (n := (a : Int) + 1) rfl rfl (by omega) (by omega) | fail) | (apply k_buildSlice; first | exact ops_buildSlice_fz (d := some 63) (k := 1) rfl rfl rfl (by decide) (by decide) (by kernel_rfl) (by decide +kernel) rfl | fail) | fail) (hk := ?_) | refine l_op (hk := ?_) | (refine l_g ?_; first | refine l_y rfl rfl rfl ?_ | refine l_n rfl rfl rfl rfl (hk := ?_) | refine l_n' rfl rfl rfl (hk := ?_) | refine l_spnd rfl rfl rfl (h1 := fun hc => ?_) (h2 := fun hc => ?_) | refine l_spd rfl rfl rfl (h1 := fun hc => ?_) (h2 := fun hc => ?_) | refine l_spn rfl rfl rfl (h1 := fun hc => ?_) (h2 := fun hc => ?_) | refine l_sp rfl rfl rfl (h1 := fun hc => ?_) (h2 := fun hc => ?_)))
                  rw [show (a : Int) + 1 + 1 = ((a + 1 : Nat) : Int) + 1 by omega]
                  rw [show List.map RIs L2 ++ [RV.sh [RVi ((a : Int) + 1), RVi (n - (k : Int) - 1 - ((a : Int) + 1))]] = List.map RIs (L2 ++ [[(a : Int) + 1, n - (k : Int) - 1 - ((a : Int) + 1)]]) from apm (x := [(a : Int) + 1, n - (k : Int) - 1 - ((a : Int) + 1)]), List.length_map]
                  refine rn_mk (a + 1, L2 ++ [[(a : Int) + 1, n - (k : Int) - 1 - ((a : Int) + 1)]]) ?_ (by first | omega | (dsimp only; omega)) (le_eq (by (repeat' first | exact .nil | refine .keep ?_ | refine .any ?_); first | done | fail) rfl rfl)
                  exact ⟨hlt, by dsimp only; rw [hL2, splT_succ]; simp⟩
                · have haeq : a = A := by omega
                  subst haeq
                  have hfin : L2 = rawT c n (k + 1) := by rw [hL2, hrw]
                  by_cases b4 : c[k] / 4 % 2 = 1
                  · simp only [b4, if_true] at e4
                    have hle : ¬ 2 * ((a : Int) + 1) ≤ n - (k : Int) - 1 := fun h => hlt (haA.1 ⟨b4, h⟩)
                    repeat' first
                      | refine w_seq ?_
                      | refine w_block ?_
                      | refine rb_n ?_
                      | refine rb_ret ?_
                      | refine rb_eq ?_
                      | refine rb_ne (by rfl) ?_
                      | refine w_exit ?_
                      | refine rt_exit ?_
                      | refine w_region ?_
                      | refine l_nil ?_
                      | refine rt_n ?_
                      | refine w_ret ?_
                      | refine rt_ret ?_
                      | refine w_skip ?_
                      | refine w_cond_t rfl ?_
                      | refine w_cond_f rfl ?_
                      | refine w_cnd rfl (fun hc => ?_) (fun hc => ?_)
                      | refine w_cd rfl (fun hc => ?_) (fun hc => ?_)
                      | refine w_cn rfl (fun hc => ?_) (fun hc => ?_)
                      | refine w_cond rfl (fun hc => ?_) (fun hc => ?_)
                      | (exfalso; omega)
                      | (refine l_o ?_; first | refine l_eqnil rfl (by kernel_rfl) (by intro b; simp only [nz]; rfl) (fun b hb => ?_) | refine l_op rfl (by first | (apply k_and; first | exact ops_andv (n := 4) rfl rfl hd (by omega) e4 | fail) | (apply k_mul; first | exact ops_mul (m := 2) (n := (a : Int) + 1) rfl rfl (by omega) (by omega) | fail) | fail) (hk := ?_) | refine l_op (hk := ?_) | (refine l_g ?_; first | refine l_y rfl rfl rfl ?_ | refine l_n rfl rfl rfl rfl (hk := ?_) | refine l_n' rfl rfl rfl (hk := ?_) | refine l_spnd rfl rfl rfl (h1 := fun hc => ?_) (h2 := fun hc => ?_) | refine l_spd rfl rfl rfl (h1 := fun hc => ?_) (h2 := fun hc => ?_) | refine l_spn rfl rfl rfl (h1 := fun hc => ?_) (h2 := fun hc => ?_) | refine l_sp rfl rfl rfl (h1 := fun hc => ?_) (h2 := fun hc => ?_)))
                    refine rn_mk (k + 1, L2) ?_ (by first | omega | (dsimp only; omega)) (le_eq (by (repeat' first | exact .nil | refine .keep ?_ | refine .any ?_); first | done | fail) rfl rfl)
                    exact ⟨hk2, hfin⟩
                  · simp only [b4, if_false] at e4
                    repeat' first
                      | refine w_seq ?_
                      | refine w_block ?_
                      | refine rb_n ?_
                      | refine rb_ret ?_
                      | refine rb_eq ?_
                      | refine rb_ne (by rfl) ?_
                      | refine w_exit ?_
                      | refine rt_exit ?_
                      | refine w_region ?_
                      | refine l_nil ?_
                      | refine rt_n ?_
                      | refine w_ret ?_
                      | refine rt_ret ?_
                      | refine w_skip ?_
                      | refine w_cond_t rfl ?_
                      | refine w_cond_f rfl ?_
                      | refine w_cnd rfl (fun hc => ?_) (fun hc => ?_)
                      | refine w_cd rfl (fun hc => ?_) (fun hc => ?_)
                      | refine w_cn rfl (fun hc => ?_) (fun hc => ?_)
                      | refine w_cond rfl (fun hc => ?_) (fun hc => ?_)
                      | (exfalso; omega)
                      | (refine l_o ?_; first | refine l_eqnil rfl (by kernel_rfl) (by intro b; simp only [nz]; rfl) (fun b hb => ?_) | refine l_op rfl (by first | (apply k_and; first | exact ops_andv (n := 4) rfl rfl hd (by omega) e4 | fail) | (apply k_mul; first | exact ops_mul (m := 2) (n := (a : Int) + 1) rfl rfl (by omega) (by omega) | fail) | fail) (hk := ?_) | refine l_op (hk := ?_) | (refine l_g ?_; first | refine l_y rfl rfl rfl ?_ | refine l_n rfl rfl rfl rfl (hk := ?_) | refine l_n' rfl rfl rfl (hk := ?_) | refine l_spnd rfl rfl rfl (h1 := fun hc => ?_) (h2 := fun hc => ?_) | refine l_spd rfl rfl rfl (h1 := fun hc => ?_) (h2 := fun hc => ?_) | refine l_spn rfl rfl rfl (h1 := fun hc => ?_) (h2 := fun hc => ?_) | refine l_sp rfl rfl rfl (h1 := fun hc => ?_) (h2 := fun hc => ?_)))
                    refine rn_mk (k + 1, L2) ?_ (by first | omega | (dsimp only; omega)) (le_eq (by (repeat' first | exact .nil | refine .keep ?_ | refine .any ?_); first | done | fail) rfl rfl)
                    exact ⟨hk2, hfin⟩
    · obtain rfl : k = c.length := by omega
      rw [← hL] at hS
      repeat' first
        | refine w_seq ?_
        | refine w_block ?_
        | refine rb_n ?_
        | refine rb_ret ?_
        | refine rb_eq ?_
        | refine rb_ne (by rfl) ?_
        | refine w_exit ?_
        | refine rt_exit ?_
        | refine w_region ?_
        | refine l_nil ?_
        | refine rt_n ?_
        | refine w_ret ?_
        | refine rt_ret ?_
        | refine w_skip ?_
        | refine w_cond_t rfl ?_
        | refine w_cond_f rfl ?_
        | refine w_cnd rfl (fun hc => ?_) (fun hc => ?_)
        | refine w_cd rfl (fun hc => ?_) (fun hc => ?_)
        | refine w_cn rfl (fun hc => ?_) (fun hc => ?_)
        | refine w_cond rfl (fun hc => ?_) (fun hc => ?_)
        | (exfalso; omega)
        | (refine l_o ?_; first | refine l_eqnil rfl (by kernel_rfl) (by intro b; simp only [nz]; rfl) (fun b hb => ?_) | refine l_op rfl (by first | (apply k_callf; first | exact ops_callG (d := 68) [10] [10] ([]) (hfc := hS) | fail) | fail) (hk := ?_) | refine l_op (hk := ?_) | (refine l_g ?_; first | refine l_y rfl rfl rfl ?_ | refine l_n rfl rfl rfl rfl (hk := ?_) | refine l_n' rfl rfl rfl (hk := ?_) | refine l_spnd rfl rfl rfl (h1 := fun hc => ?_) (h2 := fun hc => ?_) | refine l_spd rfl rfl rfl (h1 := fun hc => ?_) (h2 := fun hc => ?_) | refine l_spn rfl rfl rfl (h1 := fun hc => ?_) (h2 := fun hc => ?_) | refine l_sp rfl rfl rfl (h1 := fun hc => ?_) (h2 := fun hc => ?_)))
      refine en_end (hf := Tryz.results100) (hr := ?_); simp only [ne, nf, nl, nr, lget, reduceIte, Nat.reduceEqDiff]; first | rfl | refine congrArg RVb ?_ | refine congrArg RVi ?_ | skip
end Go.Proofs.YtmfbcipjknjicaaGreatDoor
