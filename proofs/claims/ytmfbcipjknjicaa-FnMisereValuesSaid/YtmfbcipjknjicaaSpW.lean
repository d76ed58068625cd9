/- The reference's misere values, winning moves and rows. For all arguments. -/
import Derived.Test.YtmfbcipjknjicaaMisW
import Derived.Test.YtmfbcipjknjicaaSpV
namespace Go.Proofs.Ytmfbcipjknjicaa
open Eng
attribute [local irreducible] OpS OpG FC FCr Rel Fl Ef DR Fs
attribute [local simp] RV.fzR_names
set_option linter.unusedSimpArgs false
set_option linter.unusedVariables false
set_option maxHeartbeats 0
set_option maxRecDepth 100000

theorem sbook_new (c : List Int) : ∃ K0 V0 : List Int, bookOk c K0 V0 ∧ FC Try.prog 42 [RIs c] [] fun rv O => rv = .ptr 9 0 0 ∧ O = [(9, 3, [.agg [RIs c, .ref 6 0 8192, .ref 7 0 8192]]), (6, 1, K0.map RVi), (7, 1, V0.map RVi)] := ⟨_, _, bookOk_new c, l19New_ok c⟩
namespace Eng
theorem l_book {P : Program} {d : Tmp} {ty : TypeId} {pos : String} {after : Array Edge} {ops : Array Oper} {rest R} {fr : List RV} {O : List Bk} {f args ats} {c K0 V0 : List Int} (δ n a b : Nat)
    (hfc : FC P f [RIs c] [] fun rv O' => rv = .ptr 9 0 0 ∧ O' = [(9, 3, [.agg [RIs c, .ref 6 0 8192, .ref 7 0 8192]]), (6, 1, K0.map RVi), (7, 1, V0.map RVi)])
    (hn : 9 + δ = n := by rfl) (ha : 6 + δ = a := by rfl) (hb : 7 + δ = b := by rfl)
    (hargs : args.toList.map (⟨fr, O⟩ : St).get = [RIs c] := by rfl) (hc : callable P f = true := by kernel_rfl) (hlt : n < 1000000000000 := by decide)
    (hm : n ∉ RV.namesL fr ∧ a ∉ RV.namesL fr ∧ b ∉ RV.namesL fr := by simp [nm]) (hmO : n ∉ onames O ∧ a ∉ onames O ∧ b ∉ onames O := by simp [nm, onames]) {fr' : List RV} (e : lset fr d (.ptr n 0 0) = fr' := by simp only [lset] <;> rfl)
    (hk : L P ops rest R ⟨fr', (n, 3, [.agg [RIs c, .ref a 0 8192, .ref b 0 8192]]) :: (a, 1, K0.map RVi) :: (b, 1, V0.map RVi) :: O⟩) : L P ops (⟨some d, .call ⟨.value (.func f), args, ats⟩, ty, pos, after, none⟩ :: rest) R ⟨fr, O⟩ := by
  subst hn; subst ha; subst hb; subst e
  have h := ops_callN (P := P) (s := ⟨fr, O⟩) (d := d) (ty := ty) (pos := pos) (after := after) (f := f) (args := args) (ats := ats) δ hfc hargs (by rw [hargs]; rfl) hc (by
    intro q hq
    simp [onames, nm] at hq
    have hq : q = 9 ∨ q = 6 ∨ q = 7 := by omega
    rcases hq with rfl | rfl | rfl
    · exact ⟨hlt, hm.1, hmO.1⟩
    · exact ⟨by omega, hm.2.1, hmO.2.1⟩
    · exact ⟨by omega, hm.2.2, hmO.2.2⟩)
  have e2 : renO (· + δ) [(9, 3, [RV.agg [RIs c, .ref 6 0 8192, .ref 7 0 8192]]), (6, 1, K0.map RVi), (7, 1, V0.map RVi)] ++ O = (9 + δ, 3, [.agg [RIs c, .ref (6 + δ) 0 8192, .ref (7 + δ) 0 8192]]) :: (6 + δ, 1, K0.map RVi) :: (7 + δ, 1, V0.map RVi) :: O := by
    have hi : ∀ l : List Int, RV.renL (· + δ) (l.map RVi) = l.map RVi := fun l => renL_id (by simp [nm])
    have hi2 : RV.renL (· + δ) [RV.agg [RIs c, .ref 6 0 8192, .ref 7 0 8192]] = [RV.agg [RIs c, .ref (6 + δ) 0 8192, .ref (7 + δ) 0 8192]] := by simp [ng]
    simp only [renO, hi, hi2, List.cons_append, List.nil_append]
  rw [e2] at h
  exact l_op rfl h (e := rfl) (hk := hk)
end Eng
theorem srt0_fill {h : List Int} (hg : ghp h = true) : srt0 h = fillH h := by
  simp only [ghp, Bool.and_eq_true, decide_eq_true_eq] at hg
  obtain ⟨h1, h2⟩ := ghpF_pos hg.2
  have e : (h.filter fun x => decide (x ≠ 0)) = fillH h := by
    unfold fillH
    refine List.filter_congr fun x hx => ?_
    have := (h1 x hx).1
    simp only [ne_eq, decide_eq_decide]; omega
  rw [srt0, e]
  exact (srtI_of (List.Perm.refl _) (by unfold fillH; exact h2.filter _)).symm
/-- A choice of what the table is behind each value. -/
theorem bx_all {c : List Int} (hc : gcode c = true) : ∃ nx : List Int → Nat → Nat → Bok → Bok, ∀ p t o B, vld p t o → bookOk c B.1 B.2 → bookOk c (nx p t o B).1 (nx p t o B).2 ∧ SVC c p t o B (nx p t o B) := by
  classical
  refine ⟨fun p t' o' B => if H : ∃ B' : Bok, bookOk c B'.1 B'.2 ∧ SVC c p t' o' B B' then H.choose else B, fun p t' o' B h1 h3 => ?_⟩
  have H := svalue_all c hc _ p t' o' B h1 (Nat.lt_succ_self _) h3
  dsimp only
  rw [dif_pos H]
  exact H.choose_spec
theorem sMisereRow_ok (c : List Int) (n : Int) (hc : c.length ≤ 1048576) : FCr Try.prog 27 [RIs c, RVi n] (if gcode c && decide (0 ≤ n) && decide (n ≤ 20) then .tup [.ow 1 ((rowM c n.toNat).map RVi), RVb true] else .tup [.ow 1 [], RVb false]) := by
  have hC := goodCodeS_ok c hc
  have hI := l1In_ok n 0 20
  obtain ⟨K0, V0, hb0, hN⟩ := sbook_new c
  have hF := fun k : Nat => l17Sorted_ok [(k : Int)] (by simp)
  by_cases hg : gcode c = true
  · rw [hg] at hC ⊢
    rw [Bool.true_and]
    by_cases h1 : (decide (0 ≤ n) && decide (n ≤ 20)) = true
    · rw [if_pos h1]
      rw [h1] at hI
      simp only [Bool.and_eq_true, decide_eq_true_eq] at h1
      obtain ⟨h0, h20⟩ := h1
      obtain ⟨k, rfl⟩ : ∃ k : Nat, n = (k : Int) := ⟨n.toNat, by omega⟩
      obtain ⟨nx, hnx⟩ := bx_all hg
      have hvj : ∀ j : Nat, j ≤ k → vld (fillH [(j : Int)]) 0 0 := fun j hj => fillH_vld (n := 20) (by simp [ghp, ghpF]; omega) (by simp; omega)
      have hsf : ∀ j : Nat, j ≤ k → srt0 [(j : Int)] = fillH [(j : Int)] := fun j hj => srt0_fill (by simp [ghp, ghpF]; omega)
      refine (fcr_in Try.func27 rfl (by simp only [Try.ntmps27, anys, List.length_cons, List.length_nil, Nat.reduceAdd, Nat.reduceSub, List.replicate_succ, List.replicate_zero, List.cons_append, List.nil_append] <;> rfl) ?_)
      repeat' first
        | refine w_seq ?_
        | refine w_block ?_
        | refine rb_n ?_
        | refine rb_ret ?_
        | refine rb_eq ?_
        | refine rb_ne (by rfl) ?_
        | refine w_exit ?_
        | refine rt_exit ?_
        | refine w_region ?_
        | refine l_nil ?_
        | refine rt_n ?_
        | refine w_ret ?_
        | refine rt_ret ?_
        | refine w_skip ?_
        | refine w_cond_t rfl ?_
        | refine w_cond_f rfl ?_
        | refine w_cnd rfl (fun hc => ?_) (fun hc => ?_)
        | refine w_cd rfl (fun hc => ?_) (fun hc => ?_)
        | refine w_cn rfl (fun hc => ?_) (fun hc => ?_)
        | refine w_cond rfl (fun hc => ?_) (fun hc => ?_)
        | (refine l_o ?_; first | refine l_op rfl (by first | (apply k_callf; first | exact ops_callf (hfc := hC) | exact ops_callf (hfc := hI) | fail) | fail) (hk := ?_) | refine l_op (hk := ?_) | (refine l_g ?_; first | refine l_y rfl rfl rfl ?_ | refine l_n rfl rfl rfl rfl (hk := ?_) | refine l_n' rfl rfl rfl (hk := ?_) | refine l_spnd rfl rfl rfl (h1 := fun hc => ?_) (h2 := fun hc => ?_) | refine l_spd rfl rfl rfl (h1 := fun hc => ?_) (h2 := fun hc => ?_) | refine l_spn rfl rfl rfl (h1 := fun hc => ?_) (h2 := fun hc => ?_) | refine l_sp rfl rfl rfl (h1 := fun hc => ?_) (h2 := fun hc => ?_)))
      refine l_book 1000 1009 1006 1007 hN (hk := ?_)
      repeat' first
        | refine w_seq ?_
        | refine w_block ?_
        | refine rb_n ?_
        | refine rb_ret ?_
        | refine rb_eq ?_
        | refine rb_ne (by rfl) ?_
        | refine w_exit ?_
        | refine rt_exit ?_
        | refine w_region ?_
        | refine l_nil ?_
        | refine rt_n ?_
        | refine w_ret ?_
        | refine rt_ret ?_
        | refine w_skip ?_
        | refine w_cond_t rfl ?_
        | refine w_cond_f rfl ?_
        | refine w_cnd rfl (fun hc => ?_) (fun hc => ?_)
        | refine w_cd rfl (fun hc => ?_) (fun hc => ?_)
        | refine w_cn rfl (fun hc => ?_) (fun hc => ?_)
        | refine w_cond rfl (fun hc => ?_) (fun hc => ?_)
        | (refine l_o ?_; first | refine l_op (hk := ?_) | (refine l_g ?_; first | refine l_y rfl rfl rfl ?_ | refine l_n rfl rfl rfl rfl (hk := ?_) | refine l_n' rfl rfl rfl (hk := ?_) | refine l_spnd rfl rfl rfl (h1 := fun hc => ?_) (h2 := fun hc => ?_) | refine l_spd rfl rfl rfl (h1 := fun hc => ?_) (h2 := fun hc => ?_) | refine l_spn rfl rfl rfl (h1 := fun hc => ?_) (h2 := fun hc => ?_) | refine l_sp rfl rfl rfl (h1 := fun hc => ?_) (h2 := fun hc => ?_)))
      refine w_loopm (ι := Nat × List Int × Bok) (fun q => [(8, RVn q.1), (7, .ref 19 0 q.2.1.length), (19, .any)]) (fun q => [(19, 1, q.2.1.map RVi), (1009, 3, [.agg [RIs c, .ref 1006 0 8192, .ref 1007 0 8192]]), (1006, 1, q.2.2.1.map RVi), (1007, 1, q.2.2.2.map RVi)]) (fun q => q.1 ≤ k + 1 ∧ q.2.1.length = q.1 ∧ q.2.1 = (List.range q.1).map (fun k : Nat => mv c (fillH [(k : Int)]) 0 0) ∧ bookOk c q.2.2.1 q.2.2.2) (fun q => k + 1 - q.1) (0, [], K0, V0) (h0 := ?_) (hs := ?_) (round := ?_)
      · exact ⟨Nat.zero_le _, rfl, rfl, hb0⟩
      · refine le_eq (by (repeat' first | exact .nil | refine .keep ?_ | refine .any ?_); first | done | fail) rfl rfl
      · intro ⟨j, L, K, V⟩ ⟨hj, hLl, hL, hB⟩
        dsimp only at hj hLl hL hB ⊢
        by_cases hj2 : j < k + 1
        · have hq := hnx _ 0 0 (K, V) (hvj j (by omega)) hB
          have hcall := hq.2
          have hFj := hF j
          rw [hsf j (by omega)] at hFj
          have hb2 := hq.1
          unfold SVC at hcall
          dsimp only at hcall
          generalize hHe : fillH [(j : Int)] = H at *
          generalize hVe : mv c H 0 0 = r at *
          generalize nx H 0 0 (K, V) = B4 at *
          obtain ⟨K4, V4⟩ := B4
          dsimp only at hcall hb2
          repeat' first
            | refine w_seq ?_
            | refine w_block ?_
            | refine rb_n ?_
            | refine rb_ret ?_
            | refine rb_eq ?_
            | refine rb_ne (by rfl) ?_
            | refine w_exit ?_
            | refine rt_exit ?_
            | refine w_region ?_
            | refine l_nil ?_
            | refine rt_n ?_
            | refine w_ret ?_
            | refine rt_ret ?_
            | refine w_skip ?_
            | refine w_cond_t rfl ?_
            | refine w_cond_f rfl ?_
            | refine w_cnd rfl (fun hc => ?_) (fun hc => ?_)
            | refine w_cd rfl (fun hc => ?_) (fun hc => ?_)
            | refine w_cn rfl (fun hc => ?_) (fun hc => ?_)
            | refine w_cond rfl (fun hc => ?_) (fun hc => ?_)
            | (exfalso; omega)
            | (refine l_o ?_; first | refine l_op rfl (by first | (apply k_buildSlice; first | exact ops_buildSlice_fz (d := some 28) (k := 1) rfl rfl rfl (by decide) (by decide) (by kernel_rfl) (by decide +kernel) rfl | fail) | (apply k_callf; first | exact ops_callG (d := 30) [1009, 1006, 1007] [] (BK c K4 V4) (hfc := hcall) | exact ops_callf (d := 29) (hfc := hFj) | fail) | fail) (hk := ?_) | refine l_op (hk := ?_) | (refine l_g ?_; first | refine l_y rfl rfl rfl ?_ | refine l_n rfl rfl rfl rfl (hk := ?_) | refine l_n' rfl rfl rfl (hk := ?_) | refine l_spnd rfl rfl rfl (h1 := fun hc => ?_) (h2 := fun hc => ?_) | refine l_spd rfl rfl rfl (h1 := fun hc => ?_) (h2 := fun hc => ?_) | refine l_spn rfl rfl rfl (h1 := fun hc => ?_) (h2 := fun hc => ?_) | refine l_sp rfl rfl rfl (h1 := fun hc => ?_) (h2 := fun hc => ?_)))
          refine rn_mk (j + 1, L ++ [r], K4, V4) ?_ (by dsimp only; omega) (le_trans (le_perm [19, 1009, 1006, 1007] rfl rfl) (le_eq (by (repeat' first | exact .nil | refine .keep ?_ | refine .any ?_); first | done | fail) rfl rfl))
          refine ⟨hj2, by simp [hLl], ?_, hb2⟩
          dsimp only
          rw [List.range_succ, List.map_append, ← hL]
          simp [hHe, hVe]
        · obtain rfl : j = k + 1 := by omega
          repeat' first
            | refine w_seq ?_
            | refine w_block ?_
            | refine rb_n ?_
            | refine rb_ret ?_
            | refine rb_eq ?_
            | refine rb_ne (by rfl) ?_
            | refine w_exit ?_
            | refine rt_exit ?_
            | refine w_region ?_
            | refine l_nil ?_
            | refine rt_n ?_
            | refine w_ret ?_
            | refine rt_ret ?_
            | refine w_skip ?_
            | refine w_cond_t rfl ?_
            | refine w_cond_f rfl ?_
            | refine w_cnd rfl (fun hc => ?_) (fun hc => ?_)
            | refine w_cd rfl (fun hc => ?_) (fun hc => ?_)
            | refine w_cn rfl (fun hc => ?_) (fun hc => ?_)
            | refine w_cond rfl (fun hc => ?_) (fun hc => ?_)
            | (exfalso; omega)
            | (refine l_o ?_; first | refine l_op (hk := ?_) | (refine l_g ?_; first | refine l_y rfl rfl rfl ?_ | refine l_n rfl rfl rfl rfl (hk := ?_) | refine l_n' rfl rfl rfl (hk := ?_) | refine l_spnd rfl rfl rfl (h1 := fun hc => ?_) (h2 := fun hc => ?_) | refine l_spd rfl rfl rfl (h1 := fun hc => ?_) (h2 := fun hc => ?_) | refine l_spn rfl rfl rfl (h1 := fun hc => ?_) (h2 := fun hc => ?_) | refine l_sp rfl rfl rfl (h1 := fun hc => ?_) (h2 := fun hc => ?_)))
          refine en_end (hf := Try.results27) (hr := ?_); simp only [ne, nf, nl, nr, lget, reduceIte, Nat.reduceEqDiff]; first | rfl | refine congrArg RVb ?_ | refine congrArg RVi ?_ | skip
          rw [hL]
          rfl
    · rw [if_neg h1]
      rw [Bool.not_eq_true] at h1
      rw [h1] at hI
      refine (fcr_in Try.func27 rfl (by simp only [Try.ntmps27, anys, List.length_cons, List.length_nil, Nat.reduceAdd, Nat.reduceSub, List.replicate_succ, List.replicate_zero, List.cons_append, List.nil_append] <;> rfl) ?_)
      repeat' first
        | refine w_seq ?_
        | refine w_block ?_
        | refine rb_n ?_
        | refine rb_ret ?_
        | refine rb_eq ?_
        | refine rb_ne (by rfl) ?_
        | refine w_exit ?_
        | refine rt_exit ?_
        | refine w_region ?_
        | refine l_nil ?_
        | refine rt_n ?_
        | refine w_ret ?_
        | refine rt_ret ?_
        | refine w_skip ?_
        | refine w_cond_t rfl ?_
        | refine w_cond_f rfl ?_
        | refine w_cnd rfl (fun hc => ?_) (fun hc => ?_)
        | refine w_cd rfl (fun hc => ?_) (fun hc => ?_)
        | refine w_cn rfl (fun hc => ?_) (fun hc => ?_)
        | refine w_cond rfl (fun hc => ?_) (fun hc => ?_)
        | (refine l_o ?_; first | refine l_op rfl (by first | (apply k_callf; first | exact ops_callf (hfc := hC) | exact ops_callf (hfc := hI) | fail) | fail) (hk := ?_) | refine l_op (hk := ?_) | (refine l_g ?_; first | refine l_y rfl rfl rfl ?_ | refine l_n rfl rfl rfl rfl (hk := ?_) | refine l_n' rfl rfl rfl (hk := ?_) | refine l_spnd rfl rfl rfl (h1 := fun hc => ?_) (h2 := fun hc => ?_) | refine l_spd rfl rfl rfl (h1 := fun hc => ?_) (h2 := fun hc => ?_) | refine l_spn rfl rfl rfl (h1 := fun hc => ?_) (h2 := fun hc => ?_) | refine l_sp rfl rfl rfl (h1 := fun hc => ?_) (h2 := fun hc => ?_)))
      refine en_endn ([.ow 1 [], RVb false]) (hf := Try.results27) (hr := ?_); simp only [ne]; first | rfl | skip
  · rw [Bool.not_eq_true] at hg
    rw [hg] at hC ⊢
    rw [Bool.false_and, Bool.false_and, if_neg (by simp)]
    refine (fcr_in Try.func27 rfl (by simp only [Try.ntmps27, anys, List.length_cons, List.length_nil, Nat.reduceAdd, Nat.reduceSub, List.replicate_succ, List.replicate_zero, List.cons_append, List.nil_append] <;> rfl) ?_)
    repeat' first
      | refine w_seq ?_
      | refine w_block ?_
      | refine rb_n ?_
      | refine rb_ret ?_
      | refine rb_eq ?_
      | refine rb_ne (by rfl) ?_
      | refine w_exit ?_
      | refine rt_exit ?_
      | refine w_region ?_
      | refine l_nil ?_
      | refine rt_n ?_
      | refine w_ret ?_
      | refine rt_ret ?_
      | refine w_skip ?_
      | refine w_cond_t rfl ?_
      | refine w_cond_f rfl ?_
      | refine w_cnd rfl (fun hc => ?_) (fun hc => ?_)
      | refine w_cd rfl (fun hc => ?_) (fun hc => ?_)
      | refine w_cn rfl (fun hc => ?_) (fun hc => ?_)
      | refine w_cond rfl (fun hc => ?_) (fun hc => ?_)
      | (refine l_o ?_; first | refine l_op rfl (by first | (apply k_callf; first | exact ops_callf (hfc := hC) | fail) | fail) (hk := ?_) | refine l_op (hk := ?_) | (refine l_g ?_; first | refine l_y rfl rfl rfl ?_ | refine l_n rfl rfl rfl rfl (hk := ?_) | refine l_n' rfl rfl rfl (hk := ?_) | refine l_spnd rfl rfl rfl (h1 := fun hc => ?_) (h2 := fun hc => ?_) | refine l_spd rfl rfl rfl (h1 := fun hc => ?_) (h2 := fun hc => ?_) | refine l_spn rfl rfl rfl (h1 := fun hc => ?_) (h2 := fun hc => ?_) | refine l_sp rfl rfl rfl (h1 := fun hc => ?_) (h2 := fun hc => ?_)))
    refine en_endn ([.ow 1 [], RVb false]) (hf := Try.results27) (hr := ?_); simp only [ne]; first | rfl | skip
end Go.Proofs.Ytmfbcipjknjicaa
