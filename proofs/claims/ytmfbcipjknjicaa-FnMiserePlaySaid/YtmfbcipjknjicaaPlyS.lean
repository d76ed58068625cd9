/- The reference's play of misere play. For all arguments. -/
import Derived.Test.YtmfbcipjknjicaaPlyI
namespace Go.Proofs.Ytmfbcipjknjicaa
open Eng
attribute [local irreducible] OpS OpG FC FCr Rel Fl Ef DR Fs
attribute [local simp] RV.fzR_names
set_option linter.unusedSimpArgs false
set_option linter.unusedVariables false
set_option maxHeartbeats 0
set_option maxRecDepth 100000

def SMC (c p : List Int) (B B' : Bok) : Prop := FC Try.prog 43 [.ptr 1000000000000 0 0, RIs p] (BK c B.1 B.2) fun rv O => rv = .ow 1 ((losL c p).map RIs) ∧ O = BK c B'.1 B'.2
theorem mx_all {c : List Int} (hc : gcode c = true) : ∃ mx : List Int → Bok → Bok, ∀ p B, vld p 0 0 → bookOk c B.1 B.2 → bookOk c (mx p B).1 (mx p B).2 ∧ SMC c p B (mx p B) := by
  classical
  refine ⟨fun p B => if H : ∃ B' : Bok, bookOk c B'.1 B'.2 ∧ SMC c p B B' then H.choose else B, fun p B h1 h2 => ?_⟩
  have H : ∃ B' : Bok, bookOk c B'.1 B'.2 ∧ SMC c p B B' := smoves_ok hc h1 h2
  dsimp only
  rw [dif_pos H]
  exact H.choose_spec
theorem sMiserePlay_ok (c h : List Int) (hc : c.length ≤ 1048576) (hl : h.length ≤ 1048576) : FCr Try.prog 35 [RIs c, RIs h] (if gcode c && ghp h && decide (h.sum ≤ 20) then .tup [.ow 1 ((ply c (fillH h)).map RIs), RVb true] else .tup [.ow 1 [], RVb false]) := by
  have hG := l19Good_ok c h hc hl
  have hS := l17Sorted_ok h hl
  obtain ⟨K0, V0, hb0, hN⟩ := sbook_new c
  by_cases hg : (gcode c && ghp h && decide (h.sum ≤ 20)) = true
  · rw [hg] at hG ⊢
    simp only [Bool.and_eq_true, decide_eq_true_eq] at hg
    rw [srt0_fill hg.1.2] at hS
    have hp := fillH_vld hg.1.2 (n := 20) hg.2
    have hcg := hg.1.1
    obtain ⟨mx, hmx⟩ := mx_all hcg
    have hpl := ply_len c _ (fillH h) hp.1 (Nat.lt_succ_self _)
    have hp2 := hp.2.1
    have hp1 := hp.1
    generalize fillH h = H at *
    clear hp
    simp only [reduceIte]
    refine (fcr_in Try.func35 rfl (by simp only [Try.ntmps35, anys, List.length_cons, List.length_nil, Nat.reduceAdd, Nat.reduceSub, List.replicate_succ, List.replicate_zero, List.cons_append, List.nil_append] <;> rfl) ?_)
    repeat' first
      | refine w_seq ?_
      | refine w_block ?_
      | refine rb_n ?_
      | refine rb_ret ?_
      | refine rb_eq ?_
      | refine rb_ne (by rfl) ?_
      | refine w_exit ?_
      | refine rt_exit ?_
      | refine w_region ?_
      | refine l_nil ?_
      | refine rt_n ?_
      | refine w_ret ?_
      | refine rt_ret ?_
      | refine w_skip ?_
      | refine w_cond_t rfl ?_
      | refine w_cond_f rfl ?_
      | refine w_cnd rfl (fun hc => ?_) (fun hc => ?_)
      | refine w_cd rfl (fun hc => ?_) (fun hc => ?_)
      | refine w_cn rfl (fun hc => ?_) (fun hc => ?_)
      | refine w_cond rfl (fun hc => ?_) (fun hc => ?_)
      | (refine l_o ?_; first | refine l_op rfl (by first | (apply k_callf; first | exact ops_callf (hfc := hG) | fail) | fail) (hk := ?_) | refine l_op (hk := ?_) | (refine l_g ?_; first | refine l_y rfl rfl rfl ?_ | refine l_n rfl rfl rfl rfl (hk := ?_) | refine l_n' rfl rfl rfl (hk := ?_) | refine l_spnd rfl rfl rfl (h1 := fun hc => ?_) (h2 := fun hc => ?_) | refine l_spd rfl rfl rfl (h1 := fun hc => ?_) (h2 := fun hc => ?_) | refine l_spn rfl rfl rfl (h1 := fun hc => ?_) (h2 := fun hc => ?_) | refine l_sp rfl rfl rfl (h1 := fun hc => ?_) (h2 := fun hc => ?_)))
    refine l_book 1000 1009 1006 1007 hN (hk := ?_)
    repeat' first
      | refine w_seq ?_
      | refine w_block ?_
      | refine rb_n ?_
      | refine rb_ret ?_
      | refine rb_eq ?_
      | refine rb_ne (by rfl) ?_
      | refine w_exit ?_
      | refine rt_exit ?_
      | refine w_region ?_
      | refine l_nil ?_
      | refine rt_n ?_
      | refine w_ret ?_
      | refine rt_ret ?_
      | refine w_skip ?_
      | refine w_cond_t rfl ?_
      | refine w_cond_f rfl ?_
      | refine w_cnd rfl (fun hc => ?_) (fun hc => ?_)
      | refine w_cd rfl (fun hc => ?_) (fun hc => ?_)
      | refine w_cn rfl (fun hc => ?_) (fun hc => ?_)
      | refine w_cond rfl (fun hc => ?_) (fun hc => ?_)
      | (refine l_o ?_; first | refine l_op rfl (by first | (apply k_callf; first | exact ops_callf (d := 21) (hfc := hS) | fail) | fail) (hk := ?_) | refine l_op (hk := ?_) | (refine l_g ?_; first | refine l_y rfl rfl rfl ?_ | refine l_n rfl rfl rfl rfl (hk := ?_) | refine l_n' rfl rfl rfl (hk := ?_) | refine l_spnd rfl rfl rfl (h1 := fun hc => ?_) (h2 := fun hc => ?_) | refine l_spd rfl rfl rfl (h1 := fun hc => ?_) (h2 := fun hc => ?_) | refine l_spn rfl rfl rfl (h1 := fun hc => ?_) (h2 := fun hc => ?_) | refine l_sp rfl rfl rfl (h1 := fun hc => ?_) (h2 := fun hc => ?_)))
    refine w_le _ (le_perm [1009, 1006, 1007, 22] rfl rfl) ?_
    refine w_loopm (ι := List Int × List (List Int) × Bok) (fun q => [(7, RIs q.1), (8, .ref 22 0 q.2.1.length), (22, .any), (9, .any), (10, .any), (11, .any), (12, .any), (13, .any)]) (fun q => [(1009, 3, [.agg [RIs c, .ref 1006 0 8192, .ref 1007 0 8192]]), (1006, 1, q.2.2.1.map RVi), (1007, 1, q.2.2.2.map RVi), (22, 1, q.2.1.map RIs)]) (fun q => posH q.1 ∧ q.1.sum ≤ 20 ∧ bookOk c q.2.2.1 q.2.2.2 ∧ q.2.1 ++ ply c q.1 = ply c H) (fun q => q.1.sum.toNat) (H, [], K0, V0) (h0 := ?_) (hs := ?_) (round := ?_)
    · exact ⟨hp1, hp2, hb0, rfl⟩
    · refine le_eq (by (repeat' first | exact .nil | refine .keep ?_ | refine .any ?_); first | done | fail) rfl rfl
    · intro ⟨p, L, K1, V1⟩ ⟨h1, h2, h3, h4⟩
      dsimp only at h1 h2 h3 h4 ⊢
      have hn := sum_nn h1.1
      have hv : vld p 0 0 := ⟨h1, h2, .inl ⟨rfl, rfl⟩⟩
      have hm := hmx p (K1, V1) hv h3
      have hcall := hm.2
      have hb2 := hm.1
      unfold SMC at hcall
      dsimp only at hcall
      have hll : L.length ≤ H.sum.toNat := by
        have := congrArg List.length h4
        rw [List.length_append] at this; omega
      generalize mx p (K1, V1) = B2 at *
      obtain ⟨K2, V2⟩ := B2
      dsimp only at hcall hb2
      have hpx : ∀ x ∈ p, 0 < x ∧ x ≤ 20 := fun x hx => ⟨h1.1 x hx, by have := hn.2 x hx; omega⟩
      have hpl2 : p.length ≤ 20 := by have := hn.1; omega
      by_cases el : losL c p = []
      · rw [el] at hcall
        repeat' first
          | refine w_seq ?_
          | refine w_block ?_
          | refine rb_n ?_
          | refine rb_ret ?_
          | refine rb_eq ?_
          | refine rb_ne (by rfl) ?_
          | refine w_exit ?_
          | refine rt_exit ?_
          | refine w_region ?_
          | refine l_nil ?_
          | refine rt_n ?_
          | refine w_ret ?_
          | refine rt_ret ?_
          | refine w_skip ?_
          | refine w_cond_t rfl ?_
          | refine w_cond_f rfl ?_
          | refine w_cnd rfl (fun hc => ?_) (fun hc => ?_)
          | refine w_cd rfl (fun hc => ?_) (fun hc => ?_)
          | refine w_cn rfl (fun hc => ?_) (fun hc => ?_)
          | refine w_cond rfl (fun hc => ?_) (fun hc => ?_)
          | (refine l_le _ (le_freeze 25 rfl (by simp only [nz, nf, nl, nb, nr, ng, nq, nu, reduceIte, Nat.reduceEqDiff, Nat.reduceAdd]; rfl) (by simp only [nz, nf, nl, nb, nr, ng, nq, nu, reduceIte, Nat.reduceEqDiff, Nat.reduceAdd]; rfl)) ?_)
          | (exfalso; omega)
          | (refine l_o ?_; first | refine l_op rfl (by first | (apply k_buildSlice; first | exact ops_buildSlice_fz (d := some 26) (k := 1) rfl rfl rfl (by decide) (by decide) (by kernel_rfl) (by decide +kernel) rfl | fail) | (apply k_callf; first | exact ops_callG (d := 25) [1009, 1006, 1007] [] (BK c K2 V2) (hfc := hcall) | fail) | fail) (hk := ?_) | refine l_op (hk := ?_) | (refine l_g ?_; first | refine l_y rfl rfl rfl ?_ | refine l_n rfl rfl rfl rfl (hk := ?_) | refine l_n' rfl rfl rfl (hk := ?_) | refine l_spnd rfl rfl rfl (h1 := fun hc => ?_) (h2 := fun hc => ?_) | refine l_spd rfl rfl rfl (h1 := fun hc => ?_) (h2 := fun hc => ?_) | refine l_spn rfl rfl rfl (h1 := fun hc => ?_) (h2 := fun hc => ?_) | refine l_sp rfl rfl rfl (h1 := fun hc => ?_) (h2 := fun hc => ?_)))
        refine w_loopm (ι := Nat × Option (List Int)) (fun q => [(12, RVn q.1), (10, RIs (q.2.getD [])), (11, RVb q.2.isSome), (13, .any)]) (fun _ => [(1009, 3, [.agg [RIs c, .ref 1006 0 8192, .ref 1007 0 8192]]), (1006, 1, K2.map RVi), (1007, 1, V2.map RVi), (22, 1, L.map RIs)]) (fun q => q.1 ≤ p.length ∧ (q.2 = none → losL c p = [] ∧ fsM c p q.1 = fsM c p 0) ∧ (∀ r, q.2 = some r → nxM c p = some r)) (fun q => p.length - q.1) (0, none) (h0 := ?_) (hs := ?_) (round := ?_)
        · exact ⟨Nat.zero_le _, fun _ => ⟨el, rfl⟩, by simp⟩
        · refine le_eq (by (repeat' first | exact .nil | refine .keep ?_ | refine .any ?_); first | done | fail) rfl rfl
        · intro ⟨i, o⟩ ⟨hi, ho1, ho2⟩
          dsimp only at hi ho1 ho2 ⊢
          cases o with
          | none =>
            obtain ⟨g1, g2⟩ := ho1 rfl
            by_cases hi2 : i < p.length
            · have hMv := l17Moves_ok c p[i] hcg (by have := hpx _ (List.getElem_mem hi2); omega) (by have := hpx _ (List.getElem_mem hi2); omega)
              by_cases e : hms c p[i] = []
              · rw [fsM_nil hi2 e] at g2
                rw [e] at hMv
                repeat' first
                  | refine w_seq ?_
                  | refine w_block ?_
                  | refine rb_n ?_
                  | refine rb_ret ?_
                  | refine rb_eq ?_
                  | refine rb_ne (by rfl) ?_
                  | refine w_exit ?_
                  | refine rt_exit ?_
                  | refine w_region ?_
                  | refine l_nil ?_
                  | refine rt_n ?_
                  | refine w_ret ?_
                  | refine rt_ret ?_
                  | refine w_skip ?_
                  | refine w_cond_t rfl ?_
                  | refine w_cond_f rfl ?_
                  | refine w_cnd rfl (fun hc => ?_) (fun hc => ?_)
                  | refine w_cd rfl (fun hc => ?_) (fun hc => ?_)
                  | refine w_cn rfl (fun hc => ?_) (fun hc => ?_)
                  | refine w_cond rfl (fun hc => ?_) (fun hc => ?_)
                  | (exfalso; omega)
                  | (refine l_o ?_; first | refine l_op rfl (by first | (apply k_callf; first | exact ops_callf (d := 49) (hfc := hMv) | fail) | fail) (hk := ?_) | refine l_op (hk := ?_) | (refine l_g ?_; first | refine l_y rfl rfl rfl ?_ | refine l_n rfl rfl rfl rfl (hk := ?_) | refine l_n' rfl rfl rfl (hk := ?_) | refine l_spnd rfl rfl rfl (h1 := fun hc => ?_) (h2 := fun hc => ?_) | refine l_spd rfl rfl rfl (h1 := fun hc => ?_) (h2 := fun hc => ?_) | refine l_spn rfl rfl rfl (h1 := fun hc => ?_) (h2 := fun hc => ?_) | refine l_sp rfl rfl rfl (h1 := fun hc => ?_) (h2 := fun hc => ?_)))
                refine rn_mk (i + 1, none) ?_ (by first | omega | (dsimp only; omega)) (le_eq (by (repeat' first | exact .nil | refine .keep ?_ | refine .any ?_); first | done | fail) rfl rfl)
                exact ⟨hi2, fun _ => ⟨g1, g2⟩, by simp⟩
              · have hzl : 0 < (hms c p[i]).length := List.length_pos_iff.2 e
                obtain ⟨m0, rest, e3⟩ := List.exists_cons_of_ne_nil e
                have e4 : (hms c p[i])[0]'hzl = m0 := by simp [e3]
                have hmm := hms_mem (List.getElem_mem hzl)
                rw [fsM_cons hi2 e3, ← e4] at g2
                have hA := l17After_ok p i (hms c p[i])[0] hi2 (by omega) (by omega) (fun x hx => (hpx x hx).1) hmm.1
                have hnx : nxM c p = some (aftH p i (hms c p[i])[0]) := by
                  unfold nxM
                  rw [g1]; exact g2.symm
                clear e3 e4 hmm g2
                generalize hms c p[i] = Z at *
                generalize aftH p i Z[0] = r at *
                repeat' first
                  | refine w_seq ?_
                  | refine w_block ?_
                  | refine rb_n ?_
                  | refine rb_ret ?_
                  | refine rb_eq ?_
                  | refine rb_ne (by rfl) ?_
                  | refine w_exit ?_
                  | refine rt_exit ?_
                  | refine w_region ?_
                  | refine l_nil ?_
                  | refine rt_n ?_
                  | refine w_ret ?_
                  | refine rt_ret ?_
                  | refine w_skip ?_
                  | refine w_cond_t rfl ?_
                  | refine w_cond_f rfl ?_
                  | refine w_cnd rfl (fun hc => ?_) (fun hc => ?_)
                  | refine w_cd rfl (fun hc => ?_) (fun hc => ?_)
                  | refine w_cn rfl (fun hc => ?_) (fun hc => ?_)
                  | refine w_cond rfl (fun hc => ?_) (fun hc => ?_)
                  | (exfalso; omega)
                  | (refine l_o ?_; first | refine l_op rfl (by first | (apply k_callf; first | exact ops_callf (d := 49) (hfc := hMv) | exact ops_callf (d := 58) (hfc := hA) | fail) | fail) (hk := ?_) | refine l_op (hk := ?_) | (refine l_g ?_; first | refine l_y rfl rfl rfl ?_ | refine l_n rfl rfl rfl rfl (hk := ?_) | refine l_n' rfl rfl rfl (hk := ?_) | refine l_spnd rfl rfl rfl (h1 := fun hc => ?_) (h2 := fun hc => ?_) | refine l_spd rfl rfl rfl (h1 := fun hc => ?_) (h2 := fun hc => ?_) | refine l_spn rfl rfl rfl (h1 := fun hc => ?_) (h2 := fun hc => ?_) | refine l_sp rfl rfl rfl (h1 := fun hc => ?_) (h2 := fun hc => ?_)))
                refine rn_mk (i + 1, some r) ?_ (by first | omega | (dsimp only; omega)) (le_eq (by (repeat' first | exact .nil | refine .keep ?_ | refine .any ?_); first | done | fail) rfl rfl)
                exact ⟨hi2, by simp, fun r' h' => by cases h'; exact hnx⟩
            · rw [fsM_end (by omega)] at g2
              have hn0 : nxM c p = none := by unfold nxM; rw [g1]; exact g2.symm
              rw [ply_none hn0, List.append_nil] at h4
              rw [← h4]
              repeat' first
                | refine w_seq ?_
                | refine w_block ?_
                | refine rb_n ?_
                | refine rb_ret ?_
                | refine rb_eq ?_
                | refine rb_ne (by rfl) ?_
                | refine w_exit ?_
                | refine rt_exit ?_
                | refine w_region ?_
                | refine l_nil ?_
                | refine rt_n ?_
                | refine w_ret ?_
                | refine rt_ret ?_
                | refine w_skip ?_
                | refine w_cond_t rfl ?_
                | refine w_cond_f rfl ?_
                | refine w_cnd rfl (fun hc => ?_) (fun hc => ?_)
                | refine w_cd rfl (fun hc => ?_) (fun hc => ?_)
                | refine w_cn rfl (fun hc => ?_) (fun hc => ?_)
                | refine w_cond rfl (fun hc => ?_) (fun hc => ?_)
                | (exfalso; omega)
                | (refine l_o ?_; first | refine l_op (hk := ?_) | (refine l_g ?_; first | refine l_y rfl rfl rfl ?_ | refine l_n rfl rfl rfl rfl (hk := ?_) | refine l_n' rfl rfl rfl (hk := ?_) | refine l_spnd rfl rfl rfl (h1 := fun hc => ?_) (h2 := fun hc => ?_) | refine l_spd rfl rfl rfl (h1 := fun hc => ?_) (h2 := fun hc => ?_) | refine l_spn rfl rfl rfl (h1 := fun hc => ?_) (h2 := fun hc => ?_) | refine l_sp rfl rfl rfl (h1 := fun hc => ?_) (h2 := fun hc => ?_)))
              refine en_end (hf := Try.results35) (hr := ?_); simp only [ne, nf, nl, nr, lget, reduceIte, Nat.reduceEqDiff]; first | rfl | refine congrArg RVb ?_ | refine congrArg RVi ?_ | skip
          | some r =>
            have hnx := ho2 r rfl
            have hq := vis_mem h1 (nxM_vis h1.2 hnx)
            have hqs := (sum_nn hq.1.1)
            rw [ply_some h1 hnx] at h4
            repeat' first
              | refine w_seq ?_
              | refine w_block ?_
              | refine rb_n ?_
              | refine rb_ret ?_
              | refine rb_eq ?_
              | refine rb_ne (by rfl) ?_
              | refine w_exit ?_
              | refine rt_exit ?_
              | refine w_region ?_
              | refine l_nil ?_
              | refine rt_n ?_
              | refine w_ret ?_
              | refine rt_ret ?_
              | refine w_skip ?_
              | refine w_cond_t rfl ?_
              | refine w_cond_f rfl ?_
              | refine w_cnd rfl (fun hc => ?_) (fun hc => ?_)
              | refine w_cd rfl (fun hc => ?_) (fun hc => ?_)
              | refine w_cn rfl (fun hc => ?_) (fun hc => ?_)
              | refine w_cond rfl (fun hc => ?_) (fun hc => ?_)
              | (refine l_o ?_; first | refine l_op rfl (by first | (apply k_buildSlice; first | exact ops_buildSlice_fz (d := some 64) (k := 1) rfl rfl rfl (by decide) (by decide) (by kernel_rfl) (by decide +kernel) rfl | fail) | fail) (hk := ?_) | refine l_op (hk := ?_) | (refine l_g ?_; first | refine l_y rfl rfl rfl ?_ | refine l_n rfl rfl rfl rfl (hk := ?_) | refine l_n' rfl rfl rfl (hk := ?_) | refine l_spnd rfl rfl rfl (h1 := fun hc => ?_) (h2 := fun hc => ?_) | refine l_spd rfl rfl rfl (h1 := fun hc => ?_) (h2 := fun hc => ?_) | refine l_spn rfl rfl rfl (h1 := fun hc => ?_) (h2 := fun hc => ?_) | refine l_sp rfl rfl rfl (h1 := fun hc => ?_) (h2 := fun hc => ?_)))
            all_goals
              refine rn_mk (r, L ++ [r], (K2, V2)) ?_ (by first | omega | (dsimp only; omega)) (le_eq (by (repeat' first | exact .nil | refine .keep ?_ | refine .any ?_); first | done | fail) rfl rfl)
              refine ⟨hq.1, by dsimp only; omega, hb2, ?_⟩
              rw [← h4]; simp
      · have hz : 0 < (losL c p).length := List.length_pos_iff.2 el
        have e2 : nxM c p = some (losL c p)[0] := by
          unfold nxM
          split
          · rename_i e3; exact absurd e3 el
          · rename_i e3; simp [e3]
        repeat' first
          | refine w_seq ?_
          | refine w_block ?_
          | refine rb_n ?_
          | refine rb_ret ?_
          | refine rb_eq ?_
          | refine rb_ne (by rfl) ?_
          | refine w_exit ?_
          | refine rt_exit ?_
          | refine w_region ?_
          | refine l_nil ?_
          | refine rt_n ?_
          | refine w_ret ?_
          | refine rt_ret ?_
          | refine w_skip ?_
          | refine w_cond_t rfl ?_
          | refine w_cond_f rfl ?_
          | refine w_cnd rfl (fun hc => ?_) (fun hc => ?_)
          | refine w_cd rfl (fun hc => ?_) (fun hc => ?_)
          | refine w_cn rfl (fun hc => ?_) (fun hc => ?_)
          | refine w_cond rfl (fun hc => ?_) (fun hc => ?_)
          | (refine l_le _ (le_freeze 25 rfl (by simp only [nz, nf, nl, nb, nr, ng, nq, nu, reduceIte, Nat.reduceEqDiff, Nat.reduceAdd]; rfl) (by simp only [nz, nf, nl, nb, nr, ng, nq, nu, reduceIte, Nat.reduceEqDiff, Nat.reduceAdd]; rfl)) ?_)
          | (exfalso; omega)
          | (refine l_o ?_; first | refine l_op rfl (by first | (apply k_buildSlice; first | exact ops_buildSlice_fz (d := some 26) (k := 1) rfl rfl rfl (by decide) (by decide) (by kernel_rfl) (by decide +kernel) rfl | fail) | (apply k_callf; first | exact ops_callG (d := 25) [1009, 1006, 1007] [] (BK c K2 V2) (hfc := hcall) | fail) | fail) (hk := ?_) | refine l_op (hk := ?_) | (refine l_g ?_; first | refine l_y rfl rfl rfl ?_ | refine l_n rfl rfl rfl rfl (hk := ?_) | refine l_n' rfl rfl rfl (hk := ?_) | refine l_spnd rfl rfl rfl (h1 := fun hc => ?_) (h2 := fun hc => ?_) | refine l_spd rfl rfl rfl (h1 := fun hc => ?_) (h2 := fun hc => ?_) | refine l_spn rfl rfl rfl (h1 := fun hc => ?_) (h2 := fun hc => ?_) | refine l_sp rfl rfl rfl (h1 := fun hc => ?_) (h2 := fun hc => ?_)))
        rw [show decide ((0 : Int) < ((losL c p).length : Nat)) = true from decide_eq_true (by omega)]
        refine w_loopm (ι := Nat × Option (List Int)) (fun q => [(12, RVn q.1), (10, RIs (q.2.getD [])), (11, RVb q.2.isSome), (13, .any)]) (fun _ => [(1009, 3, [.agg [RIs c, .ref 1006 0 8192, .ref 1007 0 8192]]), (1006, 1, K2.map RVi), (1007, 1, V2.map RVi), (22, 1, L.map RIs)]) (fun q => q.1 ≤ p.length ∧ (q.2 = none → losL c p = [] ∧ fsM c p q.1 = fsM c p 0) ∧ (∀ r, q.2 = some r → nxM c p = some r)) (fun q => p.length - q.1) (0, some (losL c p)[0]) (h0 := ?_) (hs := ?_) (round := ?_)
        · exact ⟨Nat.zero_le _, by simp, fun r' h' => by cases h'; exact e2⟩
        · refine le_eq (by (repeat' first | exact .nil | refine .keep ?_ | refine .any ?_); first | done | fail) rfl rfl
        · intro ⟨i, o⟩ ⟨hi, ho1, ho2⟩
          dsimp only at hi ho1 ho2 ⊢
          cases o with
          | none =>
            obtain ⟨g1, g2⟩ := ho1 rfl
            by_cases hi2 : i < p.length
            · have hMv := l17Moves_ok c p[i] hcg (by have := hpx _ (List.getElem_mem hi2); omega) (by have := hpx _ (List.getElem_mem hi2); omega)
              by_cases e : hms c p[i] = []
              · rw [fsM_nil hi2 e] at g2
                rw [e] at hMv
                repeat' first
                  | refine w_seq ?_
                  | refine w_block ?_
                  | refine rb_n ?_
                  | refine rb_ret ?_
                  | refine rb_eq ?_
                  | refine rb_ne (by rfl) ?_
                  | refine w_exit ?_
                  | refine rt_exit ?_
                  | refine w_region ?_
                  | refine l_nil ?_
                  | refine rt_n ?_
                  | refine w_ret ?_
                  | refine rt_ret ?_
                  | refine w_skip ?_
                  | refine w_cond_t rfl ?_
                  | refine w_cond_f rfl ?_
                  | refine w_cnd rfl (fun hc => ?_) (fun hc => ?_)
                  | refine w_cd rfl (fun hc => ?_) (fun hc => ?_)
                  | refine w_cn rfl (fun hc => ?_) (fun hc => ?_)
                  | refine w_cond rfl (fun hc => ?_) (fun hc => ?_)
                  | (exfalso; omega)
                  | (refine l_o ?_; first | refine l_op rfl (by first | (apply k_callf; first | exact ops_callf (d := 49) (hfc := hMv) | fail) | fail) (hk := ?_) | refine l_op (hk := ?_) | (refine l_g ?_; first | refine l_y rfl rfl rfl ?_ | refine l_n rfl rfl rfl rfl (hk := ?_) | refine l_n' rfl rfl rfl (hk := ?_) | refine l_spnd rfl rfl rfl (h1 := fun hc => ?_) (h2 := fun hc => ?_) | refine l_spd rfl rfl rfl (h1 := fun hc => ?_) (h2 := fun hc => ?_) | refine l_spn rfl rfl rfl (h1 := fun hc => ?_) (h2 := fun hc => ?_) | refine l_sp rfl rfl rfl (h1 := fun hc => ?_) (h2 := fun hc => ?_)))
                refine rn_mk (i + 1, none) ?_ (by first | omega | (dsimp only; omega)) (le_eq (by (repeat' first | exact .nil | refine .keep ?_ | refine .any ?_); first | done | fail) rfl rfl)
                exact ⟨hi2, fun _ => ⟨g1, g2⟩, by simp⟩
              · have hzl : 0 < (hms c p[i]).length := List.length_pos_iff.2 e
                obtain ⟨m0, rest, e3⟩ := List.exists_cons_of_ne_nil e
                have e4 : (hms c p[i])[0]'hzl = m0 := by simp [e3]
                have hmm := hms_mem (List.getElem_mem hzl)
                rw [fsM_cons hi2 e3, ← e4] at g2
                have hA := l17After_ok p i (hms c p[i])[0] hi2 (by omega) (by omega) (fun x hx => (hpx x hx).1) hmm.1
                have hnx : nxM c p = some (aftH p i (hms c p[i])[0]) := by
                  unfold nxM
                  rw [g1]; exact g2.symm
                clear e3 e4 hmm g2
                generalize hms c p[i] = Z at *
                generalize aftH p i Z[0] = r at *
                repeat' first
                  | refine w_seq ?_
                  | refine w_block ?_
                  | refine rb_n ?_
                  | refine rb_ret ?_
                  | refine rb_eq ?_
                  | refine rb_ne (by rfl) ?_
                  | refine w_exit ?_
                  | refine rt_exit ?_
                  | refine w_region ?_
                  | refine l_nil ?_
                  | refine rt_n ?_
                  | refine w_ret ?_
                  | refine rt_ret ?_
                  | refine w_skip ?_
                  | refine w_cond_t rfl ?_
                  | refine w_cond_f rfl ?_
                  | refine w_cnd rfl (fun hc => ?_) (fun hc => ?_)
                  | refine w_cd rfl (fun hc => ?_) (fun hc => ?_)
                  | refine w_cn rfl (fun hc => ?_) (fun hc => ?_)
                  | refine w_cond rfl (fun hc => ?_) (fun hc => ?_)
                  | (exfalso; omega)
                  | (refine l_o ?_; first | refine l_op rfl (by first | (apply k_callf; first | exact ops_callf (d := 49) (hfc := hMv) | exact ops_callf (d := 58) (hfc := hA) | fail) | fail) (hk := ?_) | refine l_op (hk := ?_) | (refine l_g ?_; first | refine l_y rfl rfl rfl ?_ | refine l_n rfl rfl rfl rfl (hk := ?_) | refine l_n' rfl rfl rfl (hk := ?_) | refine l_spnd rfl rfl rfl (h1 := fun hc => ?_) (h2 := fun hc => ?_) | refine l_spd rfl rfl rfl (h1 := fun hc => ?_) (h2 := fun hc => ?_) | refine l_spn rfl rfl rfl (h1 := fun hc => ?_) (h2 := fun hc => ?_) | refine l_sp rfl rfl rfl (h1 := fun hc => ?_) (h2 := fun hc => ?_)))
                refine rn_mk (i + 1, some r) ?_ (by first | omega | (dsimp only; omega)) (le_eq (by (repeat' first | exact .nil | refine .keep ?_ | refine .any ?_); first | done | fail) rfl rfl)
                exact ⟨hi2, by simp, fun r' h' => by cases h'; exact hnx⟩
            · rw [fsM_end (by omega)] at g2
              have hn0 : nxM c p = none := by unfold nxM; rw [g1]; exact g2.symm
              rw [ply_none hn0, List.append_nil] at h4
              rw [← h4]
              repeat' first
                | refine w_seq ?_
                | refine w_block ?_
                | refine rb_n ?_
                | refine rb_ret ?_
                | refine rb_eq ?_
                | refine rb_ne (by rfl) ?_
                | refine w_exit ?_
                | refine rt_exit ?_
                | refine w_region ?_
                | refine l_nil ?_
                | refine rt_n ?_
                | refine w_ret ?_
                | refine rt_ret ?_
                | refine w_skip ?_
                | refine w_cond_t rfl ?_
                | refine w_cond_f rfl ?_
                | refine w_cnd rfl (fun hc => ?_) (fun hc => ?_)
                | refine w_cd rfl (fun hc => ?_) (fun hc => ?_)
                | refine w_cn rfl (fun hc => ?_) (fun hc => ?_)
                | refine w_cond rfl (fun hc => ?_) (fun hc => ?_)
                | (exfalso; omega)
                | (refine l_o ?_; first | refine l_op (hk := ?_) | (refine l_g ?_; first | refine l_y rfl rfl rfl ?_ | refine l_n rfl rfl rfl rfl (hk := ?_) | refine l_n' rfl rfl rfl (hk := ?_) | refine l_spnd rfl rfl rfl (h1 := fun hc => ?_) (h2 := fun hc => ?_) | refine l_spd rfl rfl rfl (h1 := fun hc => ?_) (h2 := fun hc => ?_) | refine l_spn rfl rfl rfl (h1 := fun hc => ?_) (h2 := fun hc => ?_) | refine l_sp rfl rfl rfl (h1 := fun hc => ?_) (h2 := fun hc => ?_)))
              refine en_end (hf := Try.results35) (hr := ?_); simp only [ne, nf, nl, nr, lget, reduceIte, Nat.reduceEqDiff]; first | rfl | refine congrArg RVb ?_ | refine congrArg RVi ?_ | skip
          | some r =>
            have hnx := ho2 r rfl
            have hq := vis_mem h1 (nxM_vis h1.2 hnx)
            have hqs := (sum_nn hq.1.1)
            rw [ply_some h1 hnx] at h4
            repeat' first
              | refine w_seq ?_
              | refine w_block ?_
              | refine rb_n ?_
              | refine rb_ret ?_
              | refine rb_eq ?_
              | refine rb_ne (by rfl) ?_
              | refine w_exit ?_
              | refine rt_exit ?_
              | refine w_region ?_
              | refine l_nil ?_
              | refine rt_n ?_
              | refine w_ret ?_
              | refine rt_ret ?_
              | refine w_skip ?_
              | refine w_cond_t rfl ?_
              | refine w_cond_f rfl ?_
              | refine w_cnd rfl (fun hc => ?_) (fun hc => ?_)
              | refine w_cd rfl (fun hc => ?_) (fun hc => ?_)
              | refine w_cn rfl (fun hc => ?_) (fun hc => ?_)
              | refine w_cond rfl (fun hc => ?_) (fun hc => ?_)
              | (refine l_o ?_; first | refine l_op rfl (by first | (apply k_buildSlice; first | exact ops_buildSlice_fz (d := some 64) (k := 1) rfl rfl rfl (by decide) (by decide) (by kernel_rfl) (by decide +kernel) rfl | fail) | fail) (hk := ?_) | refine l_op (hk := ?_) | (refine l_g ?_; first | refine l_y rfl rfl rfl ?_ | refine l_n rfl rfl rfl rfl (hk := ?_) | refine l_n' rfl rfl rfl (hk := ?_) | refine l_spnd rfl rfl rfl (h1 := fun hc => ?_) (h2 := fun hc => ?_) | refine l_spd rfl rfl rfl (h1 := fun hc => ?_) (h2 := fun hc => ?_) | refine l_spn rfl rfl rfl (h1 := fun hc => ?_) (h2 := fun hc => ?_) | refine l_sp rfl rfl rfl (h1 := fun hc => ?_) (h2 := fun hc => ?_)))
            all_goals
              refine rn_mk (r, L ++ [r], (K2, V2)) ?_ (by first | omega | (dsimp only; omega)) (le_eq (by (repeat' first | exact .nil | refine .keep ?_ | refine .any ?_); first | done | fail) rfl rfl)
              refine ⟨hq.1, by dsimp only; omega, hb2, ?_⟩
              rw [← h4]; simp
  · rw [Bool.not_eq_true] at hg
    rw [hg] at hG ⊢
    refine (fcr_in Try.func35 rfl (by simp only [Try.ntmps35, anys, List.length_cons, List.length_nil, Nat.reduceAdd, Nat.reduceSub, List.replicate_succ, List.replicate_zero, List.cons_append, List.nil_append] <;> rfl) ?_)
    repeat' first
      | refine w_seq ?_
      | refine w_block ?_
      | refine rb_n ?_
      | refine rb_ret ?_
      | refine rb_eq ?_
      | refine rb_ne (by rfl) ?_
      | refine w_exit ?_
      | refine rt_exit ?_
      | refine w_region ?_
      | refine l_nil ?_
      | refine rt_n ?_
      | refine w_ret ?_
      | refine rt_ret ?_
      | refine w_skip ?_
      | refine w_cond_t rfl ?_
      | refine w_cond_f rfl ?_
      | refine w_cnd rfl (fun hc => ?_) (fun hc => ?_)
      | refine w_cd rfl (fun hc => ?_) (fun hc => ?_)
      | refine w_cn rfl (fun hc => ?_) (fun hc => ?_)
      | refine w_cond rfl (fun hc => ?_) (fun hc => ?_)
      | (refine l_o ?_; first | refine l_op rfl (by first | (apply k_callf; first | exact ops_callf (hfc := hG) | fail) | fail) (hk := ?_) | refine l_op (hk := ?_) | (refine l_g ?_; first | refine l_y rfl rfl rfl ?_ | refine l_n rfl rfl rfl rfl (hk := ?_) | refine l_n' rfl rfl rfl (hk := ?_) | refine l_spnd rfl rfl rfl (h1 := fun hc => ?_) (h2 := fun hc => ?_) | refine l_spd rfl rfl rfl (h1 := fun hc => ?_) (h2 := fun hc => ?_) | refine l_spn rfl rfl rfl (h1 := fun hc => ?_) (h2 := fun hc => ?_) | refine l_sp rfl rfl rfl (h1 := fun hc => ?_) (h2 := fun hc => ?_)))
    refine en_endn ([.ow 1 [], RVb false]) (hf := Try.results35) (hr := ?_); simp only [ne]; first | rfl | skip
end Go.Proofs.Ytmfbcipjknjicaa
