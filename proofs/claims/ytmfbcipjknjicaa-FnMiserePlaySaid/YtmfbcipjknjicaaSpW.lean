/- The reference's misere values, winning moves and rows. For all arguments. -/
import Derived.Test.YtmfbcipjknjicaaMisW
import Derived.Test.YtmfbcipjknjicaaSpV
namespace Go.Proofs.Ytmfbcipjknjicaa
open Eng
attribute [local irreducible] OpS OpG FC FCr Rel Fl Ef DR Fs
attribute [local simp] RV.fzR_names
set_option linter.unusedSimpArgs false
set_option linter.unusedVariables false
set_option maxHeartbeats 0
set_option maxRecDepth 100000

theorem sbook_new (c : List Int) : ∃ K0 V0 : List Int, bookOk c K0 V0 ∧ FC Try.prog 42 [RIs c] [] fun rv O => rv = .ptr 9 0 0 ∧ O = [(9, 3, [.agg [RIs c, .ref 6 0 8192, .ref 7 0 8192]]), (6, 1, K0.map RVi), (7, 1, V0.map RVi)] := ⟨_, _, bookOk_new c, l19New_ok c⟩
namespace Eng
theorem l_book {P : Program} {d : Tmp} {ty : TypeId} {pos : String} {after : Array Edge} {ops : Array Oper} {rest R} {fr : List RV} {O : List Bk} {f args ats} {c K0 V0 : List Int} (δ n a b : Nat)
    (hfc : FC P f [RIs c] [] fun rv O' => rv = .ptr 9 0 0 ∧ O' = [(9, 3, [.agg [RIs c, .ref 6 0 8192, .ref 7 0 8192]]), (6, 1, K0.map RVi), (7, 1, V0.map RVi)])
    (hn : 9 + δ = n := by rfl) (ha : 6 + δ = a := by rfl) (hb : 7 + δ = b := by rfl)
    (hargs : args.toList.map (⟨fr, O⟩ : St).get = [RIs c] := by rfl) (hc : callable P f = true := by kernel_rfl) (hlt : n < 1000000000000 := by decide)
    (hm : n ∉ RV.namesL fr ∧ a ∉ RV.namesL fr ∧ b ∉ RV.namesL fr := by simp [nm]) (hmO : n ∉ onames O ∧ a ∉ onames O ∧ b ∉ onames O := by simp [nm, onames]) {fr' : List RV} (e : lset fr d (.ptr n 0 0) = fr' := by simp only [lset] <;> rfl)
    (hk : L P ops rest R ⟨fr', (n, 3, [.agg [RIs c, .ref a 0 8192, .ref b 0 8192]]) :: (a, 1, K0.map RVi) :: (b, 1, V0.map RVi) :: O⟩) : L P ops (⟨some d, .call ⟨.value (.func f), args, ats⟩, ty, pos, after, none⟩ :: rest) R ⟨fr, O⟩ := by
  subst hn; subst ha; subst hb; subst e
  have h := ops_callN (P := P) (s := ⟨fr, O⟩) (d := d) (ty := ty) (pos := pos) (after := after) (f := f) (args := args) (ats := ats) δ hfc hargs (by rw [hargs]; rfl) hc (by
    intro q hq
    simp [onames, nm] at hq
    have hq : q = 9 ∨ q = 6 ∨ q = 7 := by omega
    rcases hq with rfl | rfl | rfl
    · exact ⟨hlt, hm.1, hmO.1⟩
    · exact ⟨by omega, hm.2.1, hmO.2.1⟩
    · exact ⟨by omega, hm.2.2, hmO.2.2⟩)
  have e2 : renO (· + δ) [(9, 3, [RV.agg [RIs c, .ref 6 0 8192, .ref 7 0 8192]]), (6, 1, K0.map RVi), (7, 1, V0.map RVi)] ++ O = (9 + δ, 3, [.agg [RIs c, .ref (6 + δ) 0 8192, .ref (7 + δ) 0 8192]]) :: (6 + δ, 1, K0.map RVi) :: (7 + δ, 1, V0.map RVi) :: O := by
    have hi : ∀ l : List Int, RV.renL (· + δ) (l.map RVi) = l.map RVi := fun l => renL_id (by simp [nm])
    have hi2 : RV.renL (· + δ) [RV.agg [RIs c, .ref 6 0 8192, .ref 7 0 8192]] = [RV.agg [RIs c, .ref (6 + δ) 0 8192, .ref (7 + δ) 0 8192]] := by simp [ng]
    simp only [renO, hi, hi2, List.cons_append, List.nil_append]
  rw [e2] at h
  exact l_op rfl h (e := rfl) (hk := hk)
end Eng
theorem srt0_fill {h : List Int} (hg : ghp h = true) : srt0 h = fillH h := by
  simp only [ghp, Bool.and_eq_true, decide_eq_true_eq] at hg
  obtain ⟨h1, h2⟩ := ghpF_pos hg.2
  have e : (h.filter fun x => decide (x ≠ 0)) = fillH h := by
    unfold fillH
    refine List.filter_congr fun x hx => ?_
    have := (h1 x hx).1
    simp only [ne_eq, decide_eq_decide]; omega
  rw [srt0, e]
  exact (srtI_of (List.Perm.refl _) (by unfold fillH; exact h2.filter _)).symm
/-- A choice of what the table is behind each value. -/
theorem bx_all {c : List Int} (hc : gcode c = true) : ∃ nx : List Int → Nat → Nat → Bok → Bok, ∀ p t o B, vld p t o → bookOk c B.1 B.2 → bookOk c (nx p t o B).1 (nx p t o B).2 ∧ SVC c p t o B (nx p t o B) := by
  classical
  refine ⟨fun p t' o' B => if H : ∃ B' : Bok, bookOk c B'.1 B'.2 ∧ SVC c p t' o' B B' then H.choose else B, fun p t' o' B h1 h3 => ?_⟩
  have H := svalue_all c hc _ p t' o' B h1 (Nat.lt_succ_self _) h3
  dsimp only
  rw [dif_pos H]
  exact H.choose_spec
/-- All that a move leaves, heap by heap. -/
def visA (c h : List Int) (i : Nat) : List (List Int) := (List.range i).flatMap fun j => (hms c (h.getD j 0)).map (aftH h j)
theorem visA_succ (c h : List Int) (i : Nat) : visA c h (i + 1) = visA c h i ++ (hms c (h.getD i 0)).map (aftH h i) := by simp [visA, List.range_succ]
theorem visA_iff {c h p : List Int} (hh : h.Pairwise (· ≤ ·)) : p ∈ visA c h h.length ↔ p ∈ vis c h := by
  rw [vis_iff hh, visA, List.mem_flatMap]
  constructor
  · rintro ⟨j, hj, hp⟩
    have hj := List.mem_range.1 hj
    obtain ⟨m, hm, rfl⟩ := List.mem_map.1 hp
    exact ⟨j, hj, m, by rw [getD_at hj] at hm; exact hm, rfl⟩
  · rintro ⟨i, hi, m, hm, rfl⟩
    exact ⟨i, List.mem_range.2 hi, List.mem_map.2 ⟨m, by rw [getD_at hi]; exact hm, rfl⟩⟩
theorem visA_sub {c h p : List Int} (hh : h.Pairwise (· ≤ ·)) {i : Nat} (hi : i ≤ h.length) (hp : p ∈ visA c h i) : p ∈ vis c h := by
  rw [← visA_iff hh]
  unfold visA at *
  obtain ⟨j, hj, hp⟩ := List.mem_flatMap.1 hp
  exact List.mem_flatMap.2 ⟨j, List.mem_range.2 (by have := List.mem_range.1 hj; omega), hp⟩
abbrev l0 (c : List Int) (l : List (List Int)) : List (List Int) := l.filter fun p => decide (mv c p 0 0 = 0)
theorem losL_eq {c h : List Int} (hh : h.Pairwise (· ≤ ·)) : putHs (l0 c (visA c h h.length)) [] = losL c h := by
  refine Eq.symm (ordH_of (l := l0 c (visA c h h.length)) ?_ fun x => ?_)
  · unfold losL rch
    exact (ordH_sh _).sublist List.filter_sublist
  · unfold losL
    rw [List.mem_filter, rch_iff, l0, List.mem_filter, visA_iff hh]
theorem bkL_ok {c : List Int} {nx : List Int → Nat → Nat → Bok → Bok} (hnx : ∀ p t o B, vld p t o → bookOk c B.1 B.2 → bookOk c (nx p t o B).1 (nx p t o B).2 ∧ SVC c p t o B (nx p t o B)) {t o : Nat} {B : Bok} (hb : bookOk c B.1 B.2) (l : List (List Int)) (hl : ∀ p ∈ l, vld p t o) : bookOk c (bkL nx t o l B).1 (bkL nx t o l B).2 := by
  have key : ∀ n, ∀ l : List (List Int), l.length = n → (∀ p ∈ l, vld p t o) → bookOk c (bkL nx t o l B).1 (bkL nx t o l B).2 := by
    intro n
    induction n with
    | zero => intro l h0 _; obtain rfl := List.eq_nil_of_length_eq_zero h0; exact hb
    | succ n ih =>
      intro l h0 hl
      have e : l = l.take n ++ [l[n]'(by omega)] := by rw [← List.take_succ_eq_append_getElem (by omega), List.take_of_length_le (by omega)]
      rw [e, bkL_snoc]
      exact (hnx _ _ _ _ (hl _ (List.getElem_mem (show n < l.length by omega))) (ih (l.take n) (by simp; omega) fun p hp => hl p (List.mem_of_mem_take hp))).1
  exact key _ l rfl hl
theorem smoves_ok {c h : List Int} (hcg : gcode c = true) (hv : vld h 0 0) {B : Bok} (hb : bookOk c B.1 B.2) : ∃ B' : Bok, bookOk c B'.1 B'.2 ∧ FC Try.prog 43 [.ptr 1000000000000 0 0, RIs h] (BK c B.1 B.2) fun rv O => rv = .ow 1 ((losL c h).map RIs) ∧ O = BK c B'.1 B'.2 := by
  obtain ⟨nx, hnx⟩ := bx_all hcg
  obtain ⟨ht, ho, hl, hx⟩ := vld_le hv
  have hcl := gcode_len hcg
  have hsub : ∀ {i p}, i ≤ h.length → p ∈ visA c h i → vld p 0 0 := fun hi hp => vld_vis hv (visA_sub hv.1.2 hi hp)
  refine ⟨bkL nx 0 0 (visA c h h.length) B, bkL_ok hnx hb _ fun p hp => hsub (Nat.le_refl _) hp, ?_⟩
  rw [← losL_eq hv.1.2]
  obtain ⟨K, V⟩ := B
  dsimp only at hb ⊢
  refine (fc_in Try.func43 rfl (by simp only [Try.ntmps43, anys, List.length_cons, List.length_nil, Nat.reduceAdd, Nat.reduceSub, List.replicate_succ, List.replicate_zero, List.cons_append, List.nil_append] <;> rfl) ?_)
  repeat' first
    | refine w_seq ?_
    | refine w_block ?_
    | refine rb_n ?_
    | refine rb_ret ?_
    | refine rb_eq ?_
    | refine rb_ne (by rfl) ?_
    | refine w_exit ?_
    | refine rt_exit ?_
    | refine w_region ?_
    | refine l_nil ?_
    | refine rt_n ?_
    | refine w_ret ?_
    | refine rt_ret ?_
    | refine w_skip ?_
    | refine w_cond_t rfl ?_
    | refine w_cond_f rfl ?_
    | refine w_cnd rfl (fun hc => ?_) (fun hc => ?_)
    | refine w_cd rfl (fun hc => ?_) (fun hc => ?_)
    | refine w_cn rfl (fun hc => ?_) (fun hc => ?_)
    | refine w_cond rfl (fun hc => ?_) (fun hc => ?_)
    | (refine l_o ?_; first | refine l_eqnil rfl (by kernel_rfl) (by intro b; simp only [nz]; rfl) (fun b hb => ?_) | refine l_op (hk := ?_))
    | refine d_nil ?_
    | (refine d_o ?_; first | refine d_fl (hk := ?_) | refine d_ef (hk := ?_))
    | (refine w_o ?_; first | refine w_draw (id := 5) (fun _ => true) (fun k => [8].contains k) [[]] 64 (by kernel_rfl) rfl (by kernel_rfl) (by simp [nm, nset, -List.map_take, -List.map_drop]) ?_)
  refine w_le _ (le_perm [1000000000000, 1000000000001, 1000000000002, 10] rfl rfl) ?_
  refine w_loopm (ι := Nat × List (List Int) × Bok) (fun q => [(6, RVn q.1), (5, .ref 10 0 q.2.1.length), (7, .any), (8, .any), (9, .any), (10, .any)]) (fun q => [(1000000000000, 3, [.agg [RIs c, .ref 1000000000001 0 8192, .ref 1000000000002 0 8192]]), (1000000000001, 1, q.2.2.1.map RVi), (1000000000002, 1, q.2.2.2.map RVi), (10, 1, q.2.1.map RIs)]) (fun q => q.1 ≤ h.length ∧ q.2.1.length ≤ 912 * q.1 ∧ q.2.1 = putHs (l0 c (visA c h q.1)) [] ∧ q.2.2 = bkL nx 0 0 (visA c h q.1) (K, V)) (fun q => h.length - q.1) (0, [], K, V) (h0 := ?_) (hs := ?_) (round := ?_)
  · exact ⟨Nat.zero_le _, Nat.zero_le _, by simp [visA, putHs], by simp [visA, bkL]⟩
  · refine le_eq (by (repeat' first | exact .nil | refine .keep ?_ | refine .any ?_); first | done | fail) rfl rfl
  · intro ⟨i, L, Ki, Vi⟩ ⟨hi, hLl, hL, hB⟩
    dsimp only at hi hLl hL hB ⊢
    by_cases hi2 : i < h.length
    · have hHk := hx _ (List.getElem_mem hi2)
      have hsu := visA_succ c h i
      rw [getD_at hi2] at hsu
      have hM := l17Moves_ok c h[i] hcg (by omega) (by omega)
      have hMl := hms_len (c := c) (n := h[i]) (by omega) hcl.2
      have hMm : ∀ m ∈ hms c h[i], (∀ x ∈ m, 0 < x) ∧ m.length ≤ 2 ∧ vld (aftH h i m) 0 0 := fun m hm => by
        obtain ⟨m1, m2, m3, m4⟩ := hms_mem hm
        exact ⟨m1, m4, vld_vis hv ((vis_iff hv.1.2).2 ⟨i, hi2, m, hm, rfl⟩)⟩
      have hvT : ∀ p ∈ visA c h i, vld p 0 0 := fun p hp => hsub hi hp
      generalize hms c h[i] = M at *
      generalize visA c h i = T at *
      repeat' first
        | refine w_seq ?_
        | refine w_block ?_
        | refine rb_n ?_
        | refine rb_ret ?_
        | refine rb_eq ?_
        | refine rb_ne (by rfl) ?_
        | refine w_exit ?_
        | refine rt_exit ?_
        | refine w_region ?_
        | refine l_nil ?_
        | refine rt_n ?_
        | refine w_ret ?_
        | refine rt_ret ?_
        | refine w_skip ?_
        | refine w_cond_t rfl ?_
        | refine w_cond_f rfl ?_
        | refine w_cnd rfl (fun hc => ?_) (fun hc => ?_)
        | refine w_cd rfl (fun hc => ?_) (fun hc => ?_)
        | refine w_cn rfl (fun hc => ?_) (fun hc => ?_)
        | refine w_cond rfl (fun hc => ?_) (fun hc => ?_)
        | (exfalso; omega)
        | (refine l_o ?_; first | refine l_eqnil rfl (by kernel_rfl) (by intro b; simp only [nz]; rfl) (fun b hb => ?_) | refine l_op rfl (by first | (apply k_callf; first | exact ops_callf (d := 25) (hfc := hM) | fail) | fail) (hk := ?_) | refine l_op (hk := ?_))
        | refine d_nil ?_
        | (refine d_o ?_; first | refine d_fl (hk := ?_) | refine d_ef rfl (by first | exact .callf (d := 25) (hfc := hM) | fail) (hk := ?_) | refine d_ef (hk := ?_))
        | (refine w_o ?_; first | refine w_draw (id := 5) (fun _ => true) (fun k => [8].contains k) [[]] 64 (by kernel_rfl) rfl (by kernel_rfl) (by simp [nm, nset, -List.map_take, -List.map_drop]) ?_)
      refine w_loopm (ι := Nat × List (List Int) × Bok) (fun q => [(8, RVn q.1), (5, .ref 10 0 q.2.1.length), (9, .any)]) (fun q => [(1000000000000, 3, [.agg [RIs c, .ref 1000000000001 0 8192, .ref 1000000000002 0 8192]]), (1000000000001, 1, q.2.2.1.map RVi), (1000000000002, 1, q.2.2.2.map RVi), (10, 1, q.2.1.map RIs)]) (fun q => q.1 ≤ M.length ∧ q.2.1.length ≤ 912 * i + q.1 ∧ q.2.1 = putHs (l0 c (T ++ (M.take q.1).map (aftH h i))) [] ∧ q.2.2 = bkL nx 0 0 (T ++ (M.take q.1).map (aftH h i)) (K, V)) (fun q => M.length - q.1) (0, L, Ki, Vi) (h0 := ?_) (hs := ?_) (round := ?_)
      · exact ⟨Nat.zero_le _, hLl, by simpa using hL, by simpa using hB⟩
      · refine le_eq (by (repeat' first | exact .nil | refine .keep ?_ | refine .any ?_); first | done | fail) rfl rfl
      · intro ⟨j, L2, K2, V2⟩ ⟨hj, hl2, hL2, hB2⟩
        dsimp only at hj hl2 hL2 hB2 ⊢
        by_cases hj2 : j < M.length
        · have hm := hMm _ (List.getElem_mem hj2)
          have hA := l17After_ok h i M[j] hi2 (by omega) (by have := hm.2.1; omega) (fun x hxx => (hx x hxx).1) hm.1
          have hbk := bkL_ok hnx (B := (K, V)) hb (T ++ (M.take j).map (aftH h i)) fun p hp => by
            rcases List.mem_append.1 hp with hp | hp
            · exact hvT p hp
            · obtain ⟨m, hm, rfl⟩ := List.mem_map.1 hp
              exact (hMm m (List.mem_of_mem_take hm)).2.2
          rw [← hB2] at hbk
          have hcall := (hnx _ 0 0 (K2, V2) hm.2.2 hbk).2
          have hsu2 : T ++ (M.take (j + 1)).map (aftH h i) = (T ++ (M.take j).map (aftH h i)) ++ [aftH h i M[j]] := by
            rw [List.take_succ_eq_append_getElem hj2, List.map_append, ← List.append_assoc]; rfl
          have hB4 : bkL nx 0 0 (T ++ (M.take (j + 1)).map (aftH h i)) (K, V) = nx (aftH h i M[j]) 0 0 (K2, V2) := by rw [hsu2, bkL_snoc, ← hB2]
          have hL4 : putHs (l0 c (T ++ (M.take (j + 1)).map (aftH h i))) [] = if mv c (aftH h i M[j]) 0 0 = 0 then putH (aftH h i M[j]) L2 else L2 := by
            rw [hsu2, l0, List.filter_append, putHs_app, ← hL2]
            by_cases h0 : mv c (aftH h i M[j]) 0 0 = 0
            · rw [if_pos h0, List.filter_cons, if_pos (by simpa using h0)]; rfl
            · rw [if_neg h0, List.filter_cons, if_neg (by simpa using h0)]; rfl
          unfold SVC at hcall
          dsimp only at hcall
          generalize nx (aftH h i M[j]) 0 0 (K2, V2) = B4 at *
          obtain ⟨K4, V4⟩ := B4
          dsimp only at hcall
          generalize mv c (aftH h i M[j]) 0 0 = r at *
          generalize aftH h i M[j] = p at *
          have hP := l17Put_ok L2 p (by omega)
          have hPl := putH_len p L2
          generalize putH p L2 = L5 at *
          repeat' first
            | refine w_seq ?_
            | refine w_block ?_
            | refine rb_n ?_
            | refine rb_ret ?_
            | refine rb_eq ?_
            | refine rb_ne (by rfl) ?_
            | refine w_exit ?_
            | refine rt_exit ?_
            | refine w_region ?_
            | refine l_nil ?_
            | refine rt_n ?_
            | refine w_ret ?_
            | refine rt_ret ?_
            | refine w_skip ?_
            | refine w_cond_t rfl ?_
            | refine w_cond_f rfl ?_
            | refine w_cnd rfl (fun hc => ?_) (fun hc => ?_)
            | refine w_cd rfl (fun hc => ?_) (fun hc => ?_)
            | refine w_cn rfl (fun hc => ?_) (fun hc => ?_)
            | refine w_cond rfl (fun hc => ?_) (fun hc => ?_)
            | (exfalso; omega)
            | (refine l_o ?_; first | refine l_eqnil rfl (by kernel_rfl) (by intro b; simp only [nz]; rfl) (fun b hb => ?_) | refine l_op rfl (by first | (apply k_callf; first | exact ops_callG (d := 41) [1000000000000, 1000000000001, 1000000000002] [] (BK c K4 V4) (hfc := hcall) | exact ops_callG (d := 45) [10] [10] ([]) (hfc := hP) | exact ops_callf (d := 38) (hfc := hA) | fail) | fail) (hk := ?_) | refine l_op (hk := ?_))
            | refine d_nil ?_
            | (refine d_o ?_; first | refine d_fl (hk := ?_) | refine d_ef rfl (by first | exact .callG (d := 41) [1000000000000, 1000000000001, 1000000000002] (BK c K4 V4) (hfc := hcall) | exact .callG (d := 45) [10] ([]) (hfc := hP) | exact .callf (d := 38) (hfc := hA) | fail) (hk := ?_) | refine d_ef (hk := ?_))
            | (refine w_o ?_; first | refine w_draw (id := 5) (fun _ => true) (fun k => [8].contains k) [[]] 64 (by kernel_rfl) rfl (by kernel_rfl) (by simp [nm, nset, -List.map_take, -List.map_drop]) ?_)
          · rw [if_pos (by assumption)] at hL4
            refine rn_mk (j + 1, L5, K4, V4) ?_ (by dsimp only; omega) (le_trans (le_ren 45 10 (by decide) (by decide) (by simp [nm, ng, renL_id, onames, nm, -List.map_append, -List.map_take, -List.map_drop]) (by simp [nm, ng, renL_id, onames, nm, -List.map_append, -List.map_take, -List.map_drop]) (by simp only [ng, nm, nu, renL_id, reduceIte, Nat.reduceEqDiff, nm] <;> rfl) (by simp only [ng, nm, nu, renL_id, reduceIte, Nat.reduceEqDiff, nm] <;> rfl)) (le_trans (le_perm [1000000000000, 1000000000001, 1000000000002, 10] rfl rfl) (le_eq (by (repeat' first | exact .nil | refine .keep ?_ | refine .any ?_); first | done | fail) rfl rfl)))
            exact ⟨hj2, by dsimp only; omega, hL4.symm, hB4.symm⟩
          · rw [if_neg (by assumption)] at hL4
            refine rn_mk (j + 1, L2, K4, V4) ?_ (by first | omega | (dsimp only; omega)) (le_eq (by (repeat' first | exact .nil | refine .keep ?_ | refine .any ?_); first | done | fail) rfl rfl)
            exact ⟨hj2, by dsimp only; omega, hL4.symm, hB4.symm⟩
        · obtain rfl : j = M.length := by omega
          rw [List.take_length, ← hsu] at hL2 hB2
          repeat' first
            | refine w_seq ?_
            | refine w_block ?_
            | refine rb_n ?_
            | refine rb_ret ?_
            | refine rb_eq ?_
            | refine rb_ne (by rfl) ?_
            | refine w_exit ?_
            | refine rt_exit ?_
            | refine w_region ?_
            | refine l_nil ?_
            | refine rt_n ?_
            | refine w_ret ?_
            | refine rt_ret ?_
            | refine w_skip ?_
            | refine w_cond_t rfl ?_
            | refine w_cond_f rfl ?_
            | refine w_cnd rfl (fun hc => ?_) (fun hc => ?_)
            | refine w_cd rfl (fun hc => ?_) (fun hc => ?_)
            | refine w_cn rfl (fun hc => ?_) (fun hc => ?_)
            | refine w_cond rfl (fun hc => ?_) (fun hc => ?_)
            | (exfalso; omega)
            | (refine l_o ?_; first | refine l_eqnil rfl (by kernel_rfl) (by intro b; simp only [nz]; rfl) (fun b hb => ?_) | refine l_op (hk := ?_))
            | refine d_nil ?_
            | (refine d_o ?_; first | refine d_fl (hk := ?_) | refine d_ef (hk := ?_))
            | (refine w_o ?_; first | refine w_draw (id := 5) (fun _ => true) (fun k => [8].contains k) [[]] 64 (by kernel_rfl) rfl (by kernel_rfl) (by simp [nm, nset, -List.map_take, -List.map_drop]) ?_)
          refine rn_mk (i + 1, L2, K2, V2) ?_ (by first | omega | (dsimp only; omega)) (le_eq (by (repeat' first | exact .nil | refine .keep ?_ | refine .any ?_); first | done | fail) rfl rfl)
          exact ⟨hi2, by dsimp only; omega, hL2, hB2⟩
    · obtain rfl : i = h.length := by omega
      repeat' first
        | refine w_seq ?_
        | refine w_block ?_
        | refine rb_n ?_
        | refine rb_ret ?_
        | refine rb_eq ?_
        | refine rb_ne (by rfl) ?_
        | refine w_exit ?_
        | refine rt_exit ?_
        | refine w_region ?_
        | refine l_nil ?_
        | refine rt_n ?_
        | refine w_ret ?_
        | refine rt_ret ?_
        | refine w_skip ?_
        | refine w_cond_t rfl ?_
        | refine w_cond_f rfl ?_
        | refine w_cnd rfl (fun hc => ?_) (fun hc => ?_)
        | refine w_cd rfl (fun hc => ?_) (fun hc => ?_)
        | refine w_cn rfl (fun hc => ?_) (fun hc => ?_)
        | refine w_cond rfl (fun hc => ?_) (fun hc => ?_)
        | (exfalso; omega)
        | (refine l_o ?_; first | refine l_eqnil rfl (by kernel_rfl) (by intro b; simp only [nz]; rfl) (fun b hb => ?_) | refine l_op (hk := ?_))
        | refine d_nil ?_
        | (refine d_o ?_; first | refine d_fl (hk := ?_) | refine d_ef (hk := ?_))
        | (refine w_o ?_; first | refine w_draw (id := 5) (fun _ => true) (fun k => [8].contains k) [[]] 64 (by kernel_rfl) rfl (by kernel_rfl) (by simp [nm, nset, -List.map_take, -List.map_drop]) ?_)
      rw [← hL, ← hB]
      refine en_endm ([]) (hf := Try.results43) (hO := ?_) (hr := ?_)
      · rfl
      · simp [nz, ne, sealG, lget, seal2, packR]
end Go.Proofs.Ytmfbcipjknjicaa
