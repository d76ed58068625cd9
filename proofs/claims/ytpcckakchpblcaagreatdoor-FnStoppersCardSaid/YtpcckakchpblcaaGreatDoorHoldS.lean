/- l26Hold of the reference comes to what solving by rounds leaves; HoldTable, StopAtLeast, StopSame of the reference. For all good loops. -/
import Derived.Test.YtpcckakchpblcaaGreatDoorJ31
import Derived.Test.YtpcckakchpblcaaGreatDoorKeeps
import Derived.Test.YtpcckakchpblcaaGreatDoorStopLaw
namespace Go.Proofs.YtpcckakchpblcaaGreatDoor
open Eng
attribute [local irreducible] OpS OpG FC FCr Rel Fl Ef DR Fs
set_option linter.unusedSimpArgs false
set_option maxHeartbeats 0
set_option maxRecDepth 100000

theorem keepsG {gL gR hL hR : List (List Int)} (hg : goodLp gL gR = true) (hh : goodLp hL hR = true) {H : List Bool} {i : Nat} (hH : H.length = nJ gL hL) (hi : i < nJ gL hL) : FCr Tryz.prog 67 [RLp gL gR, RLp hL hR, RBs H, RVn i] (RVb (keepsH (nxtJ gL gR hL hR) H i)) := by
  have g := goodN hg
  have h := goodN hh
  have hk := l26Keeps_ok (toN gL) (toN gR) (toN hL) (toN hR) H i g.inside h.inside (by rw [toN_len]; have := g.len; omega) (by rw [toN_len]; have := h.len; omega) (fun l hl => by have := g.lL l hl; omega) (fun l hl => by have := g.lR l hl; omega) (fun l hl => by have := h.lL l hl; omega) (fun l hl => by have := h.lR l hl; omega) (by rw [toN_len, toN_len]; exact hH) (by rw [toN_len, toN_len]; exact hi)
  have e1 : RLp gL gR = .agg [RNss (toN gL), RNss (toN gR)] := by show RV.agg _ = _; rw [g.eL, g.eR]
  have e2 : RLp hL hR = .agg [RNss (toN hL), RNss (toN hR)] := by show RV.agg _ = _; rw [h.eL, h.eR]
  rw [e1, e2, ← keepsJ (goodI hg) (goodI hh) hi, keepsH, kxJ_at hi, ← kkN_eq]
  exact hk
theorem l26Hold_ok {gL gR hL hR : List (List Int)} (hg : goodLp gL gR = true) (hh : goodLp hL hR = true) : FCr Tryz.prog 41 [RLp gL gR, RLp hL hR] (OBs (hldJ gL gR hL hR)) := by
  have hb : gL.length * hL.length ≤ 1296 := Nat.le_trans (Nat.mul_le_mul (goodI hg).len (goodI hh).len) (Nat.le_refl _)
  have hgl := (goodI hg).len
  have hhl := (goodI hh).len
  have hK := fun (H : List Bool) (i : Nat) (hH : H.length = nJ gL hL) (hi : i < nJ gL hL) => keepsG hg hh hH hi
  have hal := nxtJ_alt (goodI hg) (goodI hh)
  unfold hldJ
  have hn : nJ gL hL = 2 * (gL.length * hL.length) := rfl
  generalize hN : nJ gL hL = N at *
  generalize nxtJ gL gR hL hR = nx at *
  refine (fcr_in Tryz.func41 rfl (by simp only [Tryz.ntmps41, anys, List.length_cons, List.length_nil, Nat.reduceAdd, Nat.reduceSub, List.replicate_succ, List.replicate_zero, List.cons_append, List.nil_append] <;> rfl) ?_)
  repeat' first
    | refine w_seq ?_
    | refine w_block ?_
    | refine rb_n ?_
    | refine rb_ret ?_
    | refine rb_eq ?_
    | refine rb_ne (by rfl) ?_
    | refine w_exit ?_
    | refine rt_exit ?_
    | refine w_region ?_
    | refine l_nil ?_
    | refine rt_n ?_
    | refine w_ret ?_
    | refine rt_ret ?_
    | refine w_skip ?_
    | refine w_cond_t rfl ?_
    | refine w_cond_f rfl ?_
    | refine w_cnd rfl (fun hc => ?_) (fun hc => ?_)
    | refine w_cd rfl (fun hc => ?_) (fun hc => ?_)
    | refine w_cn rfl (fun hc => ?_) (fun hc => ?_)
    | refine w_cond rfl (fun hc => ?_) (fun hc => ?_)
    | (refine l_o ?_; first | refine l_op rfl (by first | (apply k_mul; first | exact ops_muln (m := gL.length) (n := hL.length) rfl rfl (by omega) | exact ops_muln (m := 2) (n := gL.length * hL.length) rfl rfl (by omega) | fail) | fail) (hk := ?_) | refine l_op (hk := ?_) | (refine l_g ?_; first | refine l_y rfl rfl rfl ?_ | refine l_n rfl rfl rfl rfl (hk := ?_) | refine l_n' rfl rfl rfl (hk := ?_) | refine l_spnd rfl rfl rfl (h1 := fun hc => ?_) (h2 := fun hc => ?_) | refine l_spd rfl rfl rfl (h1 := fun hc => ?_) (h2 := fun hc => ?_) | refine l_spn rfl rfl rfl (h1 := fun hc => ?_) (h2 := fun hc => ?_) | refine l_sp rfl rfl rfl (h1 := fun hc => ?_) (h2 := fun hc => ?_)))
  simp only [← hn]
  refine w_loopm (ι := Nat × List Bool) (fun i => [(8, RVn i.1)]) (fun i => [(21, 1, i.2.map RVb), (3, 2, [.agg [RIss hL, RIss hR]]), (2, 2, [.agg [RIss gL, RIss gR]])]) (fun i => i.1 ≤ N ∧ i.2.length = N ∧ ∀ k (h : k < i.2.length), k < i.1 → i.2[k] = true) (fun i => N - i.1) (0, List.replicate N false) (h0 := ?_) (hs := ?_) (round := ?_)
  · exact ⟨Nat.zero_le _, by simp, fun k h h2 => absurd h2 (Nat.not_lt_zero _)⟩
  · refine le_eq (by (repeat' first | exact .nil | refine .keep ?_ | refine .any ?_); first | done | fail) rfl rfl
  · intro ⟨i, l⟩ ⟨hin, hll, hle⟩
    dsimp only at hin hll hle ⊢
    by_cases hil : i < N
    · have hil2 : i < l.length := by omega
      repeat' first
        | refine w_seq ?_
        | refine w_block ?_
        | refine rb_n ?_
        | refine rb_ret ?_
        | refine rb_eq ?_
        | refine rb_ne (by rfl) ?_
        | refine w_exit ?_
        | refine rt_exit ?_
        | refine w_region ?_
        | refine l_nil ?_
        | refine rt_n ?_
        | refine w_ret ?_
        | refine rt_ret ?_
        | refine w_skip ?_
        | refine w_cond_t rfl ?_
        | refine w_cond_f rfl ?_
        | refine w_cnd rfl (fun hc => ?_) (fun hc => ?_)
        | refine w_cd rfl (fun hc => ?_) (fun hc => ?_)
        | refine w_cn rfl (fun hc => ?_) (fun hc => ?_)
        | refine w_cond rfl (fun hc => ?_) (fun hc => ?_)
        | (exfalso; omega)
        | (refine l_o ?_; first | refine l_op rfl (by first | (apply k_mul; first | exact ops_muln (m := 2) (n := gL.length * hL.length) rfl rfl (by omega) | fail) | fail) (hk := ?_) | refine l_op (hk := ?_) | (refine l_g ?_; first | refine l_y rfl rfl rfl ?_ | refine l_n rfl rfl rfl rfl (hk := ?_) | refine l_n' rfl rfl rfl (hk := ?_) | refine l_spnd rfl rfl rfl (h1 := fun hc => ?_) (h2 := fun hc => ?_) | refine l_spd rfl rfl rfl (h1 := fun hc => ?_) (h2 := fun hc => ?_) | refine l_spn rfl rfl rfl (h1 := fun hc => ?_) (h2 := fun hc => ?_) | refine l_sp rfl rfl rfl (h1 := fun hc => ?_) (h2 := fun hc => ?_)))
      refine rn_mk (i + 1, l.set i true) ?_ (by first | omega | (dsimp only; omega)) (le_eq (by (repeat' first | exact .nil | refine .keep ?_ | refine .any ?_); first | done | fail) rfl rfl)
      refine ⟨by dsimp only; omega, by simpa using hll, fun k h h2 => ?_⟩
      dsimp only at h h2 ⊢
      rw [List.getElem_set]
      split
      · rfl
      · exact hle k (by simpa using h) (by omega)
    · obtain rfl : l = List.replicate N true := by
        rw [List.eq_replicate_iff]
        refine ⟨hll, fun b hb => ?_⟩
        obtain ⟨k, hk, rfl⟩ := List.getElem_of_mem hb
        exact hle k hk (by omega)
      clear hll hle
      repeat' first
        | refine w_seq ?_
        | refine w_block ?_
        | refine rb_n ?_
        | refine rb_ret ?_
        | refine rb_eq ?_
        | refine rb_ne (by rfl) ?_
        | refine w_exit ?_
        | refine rt_exit ?_
        | refine w_region ?_
        | refine l_nil ?_
        | refine rt_n ?_
        | refine w_ret ?_
        | refine rt_ret ?_
        | refine w_skip ?_
        | refine w_cond_t rfl ?_
        | refine w_cond_f rfl ?_
        | refine w_cnd rfl (fun hc => ?_) (fun hc => ?_)
        | refine w_cd rfl (fun hc => ?_) (fun hc => ?_)
        | refine w_cn rfl (fun hc => ?_) (fun hc => ?_)
        | refine w_cond rfl (fun hc => ?_) (fun hc => ?_)
        | (exfalso; omega)
        | (refine l_o ?_; first | refine l_op rfl (by first | (apply k_mul; first | exact ops_muln (m := 2) (n := gL.length * hL.length) rfl rfl (by omega) | fail) | fail) (hk := ?_) | refine l_op (hk := ?_) | (refine l_g ?_; first | refine l_y rfl rfl rfl ?_ | refine l_n rfl rfl rfl rfl (hk := ?_) | refine l_n' rfl rfl rfl (hk := ?_) | refine l_spnd rfl rfl rfl (h1 := fun hc => ?_) (h2 := fun hc => ?_) | refine l_spd rfl rfl rfl (h1 := fun hc => ?_) (h2 := fun hc => ?_) | refine l_spn rfl rfl rfl (h1 := fun hc => ?_) (h2 := fun hc => ?_) | refine l_sp rfl rfl rfl (h1 := fun hc => ?_) (h2 := fun hc => ?_)))
      refine w_loopm (ι := List Bool × Bool) (fun q => [(9, RVb q.2), (10, .any)]) (fun q => [(21, 1, q.1.map RVb), (3, 2, [.agg [RIss hL, RIss hR]]), (2, 2, [.agg [RIss gL, RIss gR]])]) (fun q => q.1.length = N ∧ HoldsAll nx N q.1 ∧ (q.2 = false → ∀ i, i < N → q.1.getD i false = true → keepsH nx q.1 i = true)) (fun q => 2 * held q.1 + (if q.2 then 1 else 0)) (List.replicate N true, true) (h0 := ?_) (hs := ?_) (round := ?_)
      · refine ⟨by simp, fun i hi _ => ?_, fun h => by cases h⟩
        simp [List.getD_eq_getElem?_getD, hi]
      · refine le_eq (by (repeat' first | exact .nil | refine .keep ?_ | refine .any ?_); first | done | fail) rfl rfl
      · intro ⟨H, c⟩ ⟨hHl, hHa, hHf⟩
        dsimp only at hHl hHa hHf ⊢
        cases c with
        | false =>
          have he := hold_eq hal hHl hHa (hHf rfl)
          rw [← he]
          repeat' first
            | refine w_seq ?_
            | refine w_block ?_
            | refine rb_n ?_
            | refine rb_ret ?_
            | refine rb_eq ?_
            | refine rb_ne (by rfl) ?_
            | refine w_exit ?_
            | refine rt_exit ?_
            | refine w_region ?_
            | refine l_nil ?_
            | refine rt_n ?_
            | refine w_ret ?_
            | refine rt_ret ?_
            | refine w_skip ?_
            | refine w_cond_t rfl ?_
            | refine w_cond_f rfl ?_
            | refine w_cnd rfl (fun hc => ?_) (fun hc => ?_)
            | refine w_cd rfl (fun hc => ?_) (fun hc => ?_)
            | refine w_cn rfl (fun hc => ?_) (fun hc => ?_)
            | refine w_cond rfl (fun hc => ?_) (fun hc => ?_)
            | (refine l_o ?_; first | refine l_op (hk := ?_) | (refine l_g ?_; first | refine l_y rfl rfl rfl ?_ | refine l_n rfl rfl rfl rfl (hk := ?_) | refine l_n' rfl rfl rfl (hk := ?_) | refine l_spnd rfl rfl rfl (h1 := fun hc => ?_) (h2 := fun hc => ?_) | refine l_spd rfl rfl rfl (h1 := fun hc => ?_) (h2 := fun hc => ?_) | refine l_spn rfl rfl rfl (h1 := fun hc => ?_) (h2 := fun hc => ?_) | refine l_sp rfl rfl rfl (h1 := fun hc => ?_) (h2 := fun hc => ?_)))
          refine en_end (hf := Tryz.results41) (hr := ?_); simp only [ne, nf, nl, nr, lget, reduceIte, Nat.reduceEqDiff]; first | rfl | refine congrArg RVb ?_ | refine congrArg RVi ?_ | skip
        | true =>
          repeat' first
            | refine w_seq ?_
            | refine w_block ?_
            | refine rb_n ?_
            | refine rb_ret ?_
            | refine rb_eq ?_
            | refine rb_ne (by rfl) ?_
            | refine w_exit ?_
            | refine rt_exit ?_
            | refine w_region ?_
            | refine l_nil ?_
            | refine rt_n ?_
            | refine w_ret ?_
            | refine rt_ret ?_
            | refine w_skip ?_
            | refine w_cond_t rfl ?_
            | refine w_cond_f rfl ?_
            | refine w_cnd rfl (fun hc => ?_) (fun hc => ?_)
            | refine w_cd rfl (fun hc => ?_) (fun hc => ?_)
            | refine w_cn rfl (fun hc => ?_) (fun hc => ?_)
            | refine w_cond rfl (fun hc => ?_) (fun hc => ?_)
            | (refine l_o ?_; first | refine l_op (hk := ?_) | (refine l_g ?_; first | refine l_y rfl rfl rfl ?_ | refine l_n rfl rfl rfl rfl (hk := ?_) | refine l_n' rfl rfl rfl (hk := ?_) | refine l_spnd rfl rfl rfl (h1 := fun hc => ?_) (h2 := fun hc => ?_) | refine l_spd rfl rfl rfl (h1 := fun hc => ?_) (h2 := fun hc => ?_) | refine l_spn rfl rfl rfl (h1 := fun hc => ?_) (h2 := fun hc => ?_) | refine l_sp rfl rfl rfl (h1 := fun hc => ?_) (h2 := fun hc => ?_)))
          refine w_loopm (ι := Nat) (fun i => [(10, RVn i), (9, RVb (chgTo nx H i))]) (fun i => [(21, 1, (swpTo nx H i).map RVb), (3, 2, [.agg [RIss hL, RIss hR]]), (2, 2, [.agg [RIss gL, RIss gR]])]) (fun i => i ≤ N) (fun i => N - i) 0 (h0 := ?_) (hs := ?_) (round := ?_)
          · omega
          · refine le_eq (by (repeat' first | exact .nil | refine .keep ?_ | refine .any ?_); first | done | fail) rfl rfl
          · intro i hi
            have hql : (swpTo nx H i).length = N := by rw [swpTo_len]; exact hHl
            by_cases hil : i < N
            · have hqs : swpTo nx H (i + 1) = swp1 nx (swpTo nx H i) i := rfl
              have hqc : chgTo nx H (i + 1) = (chgTo nx H i || (decide ((swpTo nx H i).getD i false = true) && !keepsH nx (swpTo nx H i) i)) := rfl
              generalize swpTo nx H i = q at *
              generalize chgTo nx H i = c at *
              have hiq : i < q.length := by omega
              have hKi := hK q i hql hil
              have t1 : (q.map RVb).take N = q.map RVb := List.take_of_length_le (by rw [List.length_map]; omega)
              rw [swp1] at hqs
              rw [gdB hiq] at hqs hqc
              generalize keepsH nx q i = kp at *
              cases hqi : q[i] with
              | false =>
                rw [hqi] at hqs hqc
                simp at hqs hqc
                repeat' first
                  | refine w_seq ?_
                  | refine w_block ?_
                  | refine rb_n ?_
                  | refine rb_ret ?_
                  | refine rb_eq ?_
                  | refine rb_ne (by rfl) ?_
                  | refine w_exit ?_
                  | refine rt_exit ?_
                  | refine w_region ?_
                  | refine l_nil ?_
                  | refine rt_n ?_
                  | refine w_ret ?_
                  | refine rt_ret ?_
                  | refine w_skip ?_
                  | refine w_cond_t rfl ?_
                  | refine w_cond_f rfl ?_
                  | refine w_cnd rfl (fun hc => ?_) (fun hc => ?_)
                  | refine w_cd rfl (fun hc => ?_) (fun hc => ?_)
                  | refine w_cn rfl (fun hc => ?_) (fun hc => ?_)
                  | refine w_cond rfl (fun hc => ?_) (fun hc => ?_)
                  | (exfalso; omega)
                  | (exfalso; revert hc; simp [hqi]; done)
                  | (refine l_o ?_; first | refine l_op rfl (by first | (apply k_mul; first | exact ops_muln (m := 2) (n := gL.length * hL.length) rfl rfl (by omega) | fail) | (apply k_callf; first | exact ops_callz (by simp [view1, viewC, olook, nz, nf, t1]; omega) rfl (by kernel_rfl) hKi (by simp [ns]) | fail) | fail) (hk := ?_) | refine l_op (hk := ?_) | (refine l_g ?_; first | refine l_y rfl rfl rfl ?_ | refine l_n rfl rfl rfl rfl (hk := ?_) | refine l_n' rfl rfl rfl (hk := ?_) | refine l_spnd rfl rfl rfl (h1 := fun hc => ?_) (h2 := fun hc => ?_) | refine l_spd rfl rfl rfl (h1 := fun hc => ?_) (h2 := fun hc => ?_) | refine l_spn rfl rfl rfl (h1 := fun hc => ?_) (h2 := fun hc => ?_) | refine l_sp rfl rfl rfl (h1 := fun hc => ?_) (h2 := fun hc => ?_)))
                refine rn_mk (i + 1) (by omega) (by omega) ?_
                rw [hqs, hqc]
                refine le_eq (by (repeat' first | exact .nil | refine .keep ?_ | refine .any ?_); first | done | fail) rfl rfl
              | true =>
                rw [hqi] at hqs hqc
                cases kp with
                | false =>
                  simp at hqs hqc
                  repeat' first
                    | refine w_seq ?_
                    | refine w_block ?_
                    | refine rb_n ?_
                    | refine rb_ret ?_
                    | refine rb_eq ?_
                    | refine rb_ne (by rfl) ?_
                    | refine w_exit ?_
                    | refine rt_exit ?_
                    | refine w_region ?_
                    | refine l_nil ?_
                    | refine rt_n ?_
                    | refine w_ret ?_
                    | refine rt_ret ?_
                    | refine w_skip ?_
                    | refine w_cond_t rfl ?_
                    | refine w_cond_f rfl ?_
                    | refine w_cnd rfl (fun hc => ?_) (fun hc => ?_)
                    | refine w_cd rfl (fun hc => ?_) (fun hc => ?_)
                    | refine w_cn rfl (fun hc => ?_) (fun hc => ?_)
                    | refine w_cond rfl (fun hc => ?_) (fun hc => ?_)
                    | (exfalso; omega)
                    | (exfalso; revert hc; simp [hqi]; done)
                    | (refine l_o ?_; first | refine l_op rfl (by first | (apply k_mul; first | exact ops_muln (m := 2) (n := gL.length * hL.length) rfl rfl (by omega) | fail) | (apply k_callf; first | exact ops_callz (by simp [view1, viewC, olook, nz, nf, t1]; omega) rfl (by kernel_rfl) hKi (by simp [ns]) | fail) | fail) (hk := ?_) | refine l_op (hk := ?_) | (refine l_g ?_; first | refine l_y rfl rfl rfl ?_ | refine l_n rfl rfl rfl rfl (hk := ?_) | refine l_n' rfl rfl rfl (hk := ?_) | refine l_spnd rfl rfl rfl (h1 := fun hc => ?_) (h2 := fun hc => ?_) | refine l_spd rfl rfl rfl (h1 := fun hc => ?_) (h2 := fun hc => ?_) | refine l_spn rfl rfl rfl (h1 := fun hc => ?_) (h2 := fun hc => ?_) | refine l_sp rfl rfl rfl (h1 := fun hc => ?_) (h2 := fun hc => ?_)))
                  refine rn_mk (i + 1) (by omega) (by omega) ?_
                  rw [hqs, hqc]
                  refine le_eq (by (repeat' first | exact .nil | refine .keep ?_ | refine .any ?_); first | done | fail) rfl rfl
                | true =>
                  simp at hqs hqc
                  repeat' first
                    | refine w_seq ?_
                    | refine w_block ?_
                    | refine rb_n ?_
                    | refine rb_ret ?_
                    | refine rb_eq ?_
                    | refine rb_ne (by rfl) ?_
                    | refine w_exit ?_
                    | refine rt_exit ?_
                    | refine w_region ?_
                    | refine l_nil ?_
                    | refine rt_n ?_
                    | refine w_ret ?_
                    | refine rt_ret ?_
                    | refine w_skip ?_
                    | refine w_cond_t rfl ?_
                    | refine w_cond_f rfl ?_
                    | refine w_cnd rfl (fun hc => ?_) (fun hc => ?_)
                    | refine w_cd rfl (fun hc => ?_) (fun hc => ?_)
                    | refine w_cn rfl (fun hc => ?_) (fun hc => ?_)
                    | refine w_cond rfl (fun hc => ?_) (fun hc => ?_)
                    | (exfalso; omega)
                    | (exfalso; revert hc; simp [hqi]; done)
                    | (refine l_o ?_; first | refine l_op rfl (by first | (apply k_mul; first | exact ops_muln (m := 2) (n := gL.length * hL.length) rfl rfl (by omega) | fail) | (apply k_callf; first | exact ops_callz (by simp [view1, viewC, olook, nz, nf, t1]; omega) rfl (by kernel_rfl) hKi (by simp [ns]) | fail) | fail) (hk := ?_) | refine l_op (hk := ?_) | (refine l_g ?_; first | refine l_y rfl rfl rfl ?_ | refine l_n rfl rfl rfl rfl (hk := ?_) | refine l_n' rfl rfl rfl (hk := ?_) | refine l_spnd rfl rfl rfl (h1 := fun hc => ?_) (h2 := fun hc => ?_) | refine l_spd rfl rfl rfl (h1 := fun hc => ?_) (h2 := fun hc => ?_) | refine l_spn rfl rfl rfl (h1 := fun hc => ?_) (h2 := fun hc => ?_) | refine l_sp rfl rfl rfl (h1 := fun hc => ?_) (h2 := fun hc => ?_)))
                  refine rn_mk (i + 1) (by omega) (by omega) ?_
                  rw [hqs, hqc]
                  refine le_eq (by (repeat' first | exact .nil | refine .keep ?_ | refine .any ?_); first | done | fail) rfl rfl
            · obtain rfl : i = N := by omega
              repeat' first
                | refine w_seq ?_
                | refine w_block ?_
                | refine rb_n ?_
                | refine rb_ret ?_
                | refine rb_eq ?_
                | refine rb_ne (by rfl) ?_
                | refine w_exit ?_
                | refine rt_exit ?_
                | refine w_region ?_
                | refine l_nil ?_
                | refine rt_n ?_
                | refine w_ret ?_
                | refine rt_ret ?_
                | refine w_skip ?_
                | refine w_cond_t rfl ?_
                | refine w_cond_f rfl ?_
                | refine w_cnd rfl (fun hc => ?_) (fun hc => ?_)
                | refine w_cd rfl (fun hc => ?_) (fun hc => ?_)
                | refine w_cn rfl (fun hc => ?_) (fun hc => ?_)
                | refine w_cond rfl (fun hc => ?_) (fun hc => ?_)
                | (exfalso; omega)
                | (refine l_o ?_; first | refine l_op rfl (by first | (apply k_mul; first | exact ops_muln (m := 2) (n := gL.length * hL.length) rfl rfl (by omega) | fail) | fail) (hk := ?_) | refine l_op (hk := ?_) | (refine l_g ?_; first | refine l_y rfl rfl rfl ?_ | refine l_n rfl rfl rfl rfl (hk := ?_) | refine l_n' rfl rfl rfl (hk := ?_) | refine l_spnd rfl rfl rfl (h1 := fun hc => ?_) (h2 := fun hc => ?_) | refine l_spd rfl rfl rfl (h1 := fun hc => ?_) (h2 := fun hc => ?_) | refine l_spn rfl rfl rfl (h1 := fun hc => ?_) (h2 := fun hc => ?_) | refine l_sp rfl rfl rfl (h1 := fun hc => ?_) (h2 := fun hc => ?_)))
              have hnh := swpTo_held nx H i
              refine rn_mk (swpTo nx H i, chgTo nx H i) ⟨hql, holds_swpTo hal hHa i (Nat.le_refl _), fun hc => ?_⟩ ?_ ?_
              · dsimp only at hc ⊢
                rw [swpTo_same i hc]
                exact fixed_of_same i hc
              · dsimp only
                cases hc : chgTo nx H i with
                | false => simp; omega
                | true => have := swpTo_less i hc; simp; omega
              · refine le_eq (by (repeat' first | exact .nil | refine .keep ?_ | refine .any ?_); first | done | fail) rfl rfl
end Go.Proofs.YtpcckakchpblcaaGreatDoor
