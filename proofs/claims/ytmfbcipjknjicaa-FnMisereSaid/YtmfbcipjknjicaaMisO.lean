/- The program's winning moves of misere play. For all arguments. -/
import Derived.Test.YtmfbcipjknjicaaMisN
namespace Go.Proofs.Ytmfbcipjknjicaa
open Eng
attribute [local irreducible] OpS OpG FC FCr Rel Fl Ef DR Fs
attribute [local simp] RV.fzR_names
set_option linter.unusedSimpArgs false
set_option linter.unusedVariables false
set_option maxHeartbeats 0
set_option maxRecDepth 100000

def losL (c h : List Int) : List (List Int) := (rch c h).filter fun p => decide (mv c p 0 0 = 0)
/-- A choice of what is kept behind each value. -/
theorem nx_all {c : List Int} (hc : gcode c = true) : ∃ nx : List Int → Nat → Nat → Mem → Mem, ∀ p t o m, vld p t o → memOk c m → memOk c (nx p t o m) ∧ VC c p t o m (nx p t o m) := by
  classical
  refine ⟨fun p t' o' m => if H : ∃ m', memOk c m' ∧ VC c p t' o' m m' then H.choose else m, fun p t' o' m h1 h3 => ?_⟩
  have H := value_all c hc _ p t' o' m h1 (Nat.lt_succ_self _) h3
  dsimp only
  rw [dif_pos H]
  exact H.choose_spec
theorem losing_ok {c h : List Int} (hc : gcode c = true) (hh : ghp h = true) (hs : h.sum ≤ 20) {m : Mem} (hm : memOk c m) : ∃ m', memOk c m' ∧ ∀ b : Nat, FC Try.prog 40 [.agg [RIs c, .v (.map (some b))], RIs h] [(1000000000000, 0, MSI b m)] fun rv O => rv = .ow 1 ((losL c (fillH h)).map RIs) ∧ O = [(1000000000000, 0, MSI b m')] := by
  obtain ⟨nx, hnx⟩ := nx_all hc
  have hv := fillH_vld hh (n := 20) hs
  have hg : h.length ≤ 20 ∧ ∀ x ∈ h, 0 ≤ x ∧ x ≤ 300 := by
    simp only [ghp, Bool.and_eq_true, decide_eq_true_eq] at hh
    exact ⟨hh.1, (ghpF_pos hh.2).1⟩
  have hR := reached_ok c h hc (by omega) (fun x hx => (hg.2 x hx).2)
  unfold losL
  have hrl : (rch c (fillH h)).length ≤ 20000 := by
    obtain ⟨_, _, hl, hx⟩ := vld_le hv
    have h5 := vis_len (gcode_len hc).2 (fillH h) (fillH h).length (fun x hxx => by have := (hx x hxx).2; omega) (Nat.le_refl _)
    have h6 := ordH_len (vis c (fillH h))
    unfold rch; unfold vis at h6 ⊢; omega
  have hrv : ∀ p ∈ rch c (fillH h), vld p 0 0 := fun p hp => vld_vis hv (rch_iff.1 hp)
  generalize rch c (fillH h) = R at *
  have hmk : ∀ k, k ≤ R.length → memOk c (memL nx 0 0 (R.take k) m) := by
    intro k
    induction k with
    | zero => intro _; simpa [memL] using hm
    | succ k ih =>
      intro hk
      rw [memL_succ (by omega)]
      exact (hnx _ _ _ _ (hrv _ (List.getElem_mem (show k < R.length by omega))) (ih (by omega))).1
  refine ⟨memL nx 0 0 R m, by have := hmk _ (Nat.le_refl _); rwa [List.take_length] at this, fun b => ?_⟩
  refine (fc_in Try.func40 rfl (by simp only [Try.ntmps40, anys, List.length_cons, List.length_nil, Nat.reduceAdd, Nat.reduceSub, List.replicate_succ, List.replicate_zero, List.cons_append, List.nil_append] <;> rfl) ?_)
  repeat' first
    | refine w_seq ?_
    | refine w_block ?_
    | refine rb_n ?_
    | refine rb_ret ?_
    | refine rb_eq ?_
    | refine rb_ne (by rfl) ?_
    | refine w_exit ?_
    | refine rt_exit ?_
    | refine w_region ?_
    | refine l_nil ?_
    | refine rt_n ?_
    | refine w_ret ?_
    | refine rt_ret ?_
    | refine w_skip ?_
    | refine w_cond_t rfl ?_
    | refine w_cond_f rfl ?_
    | refine w_cnd rfl (fun hc => ?_) (fun hc => ?_)
    | refine w_cd rfl (fun hc => ?_) (fun hc => ?_)
    | refine w_cn rfl (fun hc => ?_) (fun hc => ?_)
    | refine w_cond rfl (fun hc => ?_) (fun hc => ?_)
    | (refine l_o ?_; first | refine l_eqnil rfl (by kernel_rfl) (by intro b; simp only [nz]; rfl) (fun b hb => ?_) | refine l_op rfl (by first | (apply k_callf; first | exact ops_callf (d := 12) (hfc := hR) | fail) | fail) (hk := ?_) | refine l_op (hk := ?_))
  refine w_loopm (ι := Nat × List (List Int) × Mem) (fun q => [(14, RVn q.1), (5, .ref 8 0 q.2.1.length), (8, .any)]) (fun q => [(8, 1, q.2.1.map RIs), (2, 2, [RV.agg [RIs c, RV.v (Value.map (some b))]]), (1000000000000, 0, MSI b q.2.2)]) (fun q => q.1 ≤ R.length ∧ q.2.1 = (R.take q.1).filter (fun p => decide (mv c p 0 0 = 0)) ∧ q.2.2 = memL nx 0 0 (R.take q.1) m) (fun q => R.length - q.1) (0, [], m) (h0 := ?_) (hs := ?_) (round := ?_)
  · exact ⟨Nat.zero_le _, rfl, rfl⟩
  · refine le_eq (by (repeat' first | exact .nil | refine .keep ?_ | refine .any ?_); first | done | fail) rfl rfl
  · intro ⟨k, L, M⟩ ⟨hk, hL, hM⟩
    dsimp only at hk hL hM ⊢
    have hLl : L.length ≤ 20000 := by
      rw [hL]; have := List.length_filter_le (fun p => decide (mv c p 0 0 = 0)) (R.take k); simp at this ⊢; omega
    by_cases hk2 : k < R.length
    · have hq := hnx _ 0 0 M (hrv _ (List.getElem_mem hk2)) (hM ▸ hmk k hk)
      have hcall := hq.2 b
      repeat' first
        | refine w_seq ?_
        | refine w_block ?_
        | refine rb_n ?_
        | refine rb_ret ?_
        | refine rb_eq ?_
        | refine rb_ne (by rfl) ?_
        | refine w_exit ?_
        | refine rt_exit ?_
        | refine w_region ?_
        | refine l_nil ?_
        | refine rt_n ?_
        | refine w_ret ?_
        | refine rt_ret ?_
        | refine w_skip ?_
        | refine w_cond_t rfl ?_
        | refine w_cond_f rfl ?_
        | refine w_cnd rfl (fun hc => ?_) (fun hc => ?_)
        | refine w_cd rfl (fun hc => ?_) (fun hc => ?_)
        | refine w_cn rfl (fun hc => ?_) (fun hc => ?_)
        | refine w_cond rfl (fun hc => ?_) (fun hc => ?_)
        | (exfalso; omega)
        | (refine l_o ?_; first | refine l_eqnil rfl (by kernel_rfl) (by intro b; simp only [nz]; rfl) (fun b hb => ?_) | refine l_op rfl (by first | (apply k_buildSlice; first | exact ops_buildSlice_fz (d := some 24) (k := 1) rfl rfl rfl (by decide) (by decide) (by kernel_rfl) (by decide +kernel) rfl | fail) | (apply k_callf; first | exact ops_callP (d := 20) 1000000000000 (MSI b (nx R[k] 0 0 M)) (hfc := hcall) | fail) | fail) (hk := ?_) | refine l_op (hk := ?_))
      · refine rn_mk (k + 1, L ++ [R[k]], nx R[k] 0 0 M) ?_ (by first | omega | (dsimp only; omega)) (le_eq (by (repeat' first | exact .nil | refine .keep ?_ | refine .any ?_); first | done | fail) rfl rfl)
        refine ⟨hk2, ?_, ?_⟩
        · dsimp only
          rw [hL, List.take_succ_eq_append_getElem hk2, List.filter_append]; simp [hc]
        · dsimp only
          rw [memL_succ hk2, hM]
      · refine rn_mk (k + 1, L, nx R[k] 0 0 M) ?_ (by first | omega | (dsimp only; omega)) (le_eq (by (repeat' first | exact .nil | refine .keep ?_ | refine .any ?_); first | done | fail) rfl rfl)
        refine ⟨hk2, ?_, ?_⟩
        · dsimp only
          rw [hL, List.take_succ_eq_append_getElem hk2, List.filter_append]; simp [hc]
        · dsimp only
          rw [memL_succ hk2, hM]
    · obtain rfl : k = R.length := by omega
      rw [List.take_length] at hL hM
      repeat' first
        | refine w_seq ?_
        | refine w_block ?_
        | refine rb_n ?_
        | refine rb_ret ?_
        | refine rb_eq ?_
        | refine rb_ne (by rfl) ?_
        | refine w_exit ?_
        | refine rt_exit ?_
        | refine w_region ?_
        | refine l_nil ?_
        | refine rt_n ?_
        | refine w_ret ?_
        | refine rt_ret ?_
        | refine w_skip ?_
        | refine w_cond_t rfl ?_
        | refine w_cond_f rfl ?_
        | refine w_cnd rfl (fun hc => ?_) (fun hc => ?_)
        | refine w_cd rfl (fun hc => ?_) (fun hc => ?_)
        | refine w_cn rfl (fun hc => ?_) (fun hc => ?_)
        | refine w_cond rfl (fun hc => ?_) (fun hc => ?_)
        | (exfalso; omega)
        | (refine l_o ?_; first | refine l_eqnil rfl (by kernel_rfl) (by intro b; simp only [nz]; rfl) (fun b hb => ?_) | refine l_op (hk := ?_))
      subst hL; subst hM
      refine en_endm ([(2, 2, [RV.agg [RIs c, RV.v (Value.map (some b))]])]) (hf := Try.results40) (hO := ?_) (hr := ?_)
      · rfl
      · simp [nz, ne, sealG, lget, seal2, packR]
theorem misereMoves_ok (c h : List Int) (hc : c.length ≤ 1048576) (hl : h.length ≤ 1048576) : FCr Try.prog 12 [RIs c, RIs h] (if gcode c && ghp h && decide (h.sum ≤ 20) then .tup [.ow 1 ((losL c (fillH h)).map RIs), RVb true] else .tup [.ow 1 [], RVb false]) := by
  have hS := small_ok c h 20 hc hl (by omega)
  have hN := newMisere_ok c
  have hv : (gcode c && ghp h && decide (h.sum ≤ ((20 : Nat) : Int))) = true → ∃ m', ∀ b : Nat, FC Try.prog 40 [.agg [RIs c, .v (.map (some b))], RIs h] [(1000000000000, 0, MSI b [])] fun rv O => rv = .ow 1 ((losL c (fillH h)).map RIs) ∧ O = [(1000000000000, 0, MSI b m')] := fun e => by
    simp only [Bool.and_eq_true, decide_eq_true_eq] at e
    obtain ⟨m', _, hm⟩ := losing_ok e.1.1 e.1.2 e.2 (memOk_nil c)
    exact ⟨m', hm⟩
  rw [show ((20 : Int)) = ((20 : Nat) : Int) from rfl]
  generalize (gcode c && ghp h && decide (h.sum ≤ ((20 : Nat) : Int))) = b at *
  generalize losL c (fillH h) = Z at *
  cases b with
  | false =>
    refine (fcr_in Try.func12 rfl (by simp only [Try.ntmps12, anys, List.length_cons, List.length_nil, Nat.reduceAdd, Nat.reduceSub, List.replicate_succ, List.replicate_zero, List.cons_append, List.nil_append] <;> rfl) ?_)
    repeat' first
      | refine w_seq ?_
      | refine w_region ?_
      | refine l_nil ?_
      | refine rt_n ?_
      | refine w_ret ?_
      | refine rt_ret ?_
      | refine w_skip ?_
      | refine w_cond_t rfl ?_
      | refine w_cond_f rfl ?_
      | refine w_cnd rfl (fun hc => ?_) (fun hc => ?_)
      | refine w_cd rfl (fun hc => ?_) (fun hc => ?_)
      | refine w_cn rfl (fun hc => ?_) (fun hc => ?_)
      | refine w_cond rfl (fun hc => ?_) (fun hc => ?_)
      | (refine l_o ?_; first | refine l_op rfl (by first | (apply k_callf; first | exact ops_callf (hfc := hS) | fail) | fail) (hk := ?_) | refine l_op (hk := ?_))
    refine en_endn ([.ow 1 [], RVb false]) (hf := Try.results12) (hr := ?_); simp only [ne]; first | rfl | skip
  | true =>
    obtain ⟨m', hm'⟩ := hv rfl
    refine (fcr_in Try.func12 rfl (by simp only [Try.ntmps12, anys, List.length_cons, List.length_nil, Nat.reduceAdd, Nat.reduceSub, List.replicate_succ, List.replicate_zero, List.cons_append, List.nil_append] <;> rfl) ?_)
    repeat' first
      | refine w_seq ?_
      | refine w_region ?_
      | refine l_nil ?_
      | refine rt_n ?_
      | refine w_ret ?_
      | refine rt_ret ?_
      | refine w_skip ?_
      | refine w_cond_t rfl ?_
      | refine w_cond_f rfl ?_
      | refine w_cnd rfl (fun hc => ?_) (fun hc => ?_)
      | refine w_cd rfl (fun hc => ?_) (fun hc => ?_)
      | refine w_cn rfl (fun hc => ?_) (fun hc => ?_)
      | refine w_cond rfl (fun hc => ?_) (fun hc => ?_)
      | (refine l_o ?_; first | refine l_op rfl (by first | (apply k_callf; first | exact ops_callf (hfc := hS) | fail) | fail) (hk := ?_) | refine l_op (hk := ?_))
    refine l_callM (hfc := hN) (hk := fun b _ => ?_)
    have hb := hm' b
    repeat' first
      | refine w_seq ?_
      | refine w_region ?_
      | refine l_nil ?_
      | refine rt_n ?_
      | refine w_ret ?_
      | refine rt_ret ?_
      | refine w_skip ?_
      | refine w_cond_t rfl ?_
      | refine w_cond_f rfl ?_
      | refine w_cnd rfl (fun hc => ?_) (fun hc => ?_)
      | refine w_cd rfl (fun hc => ?_) (fun hc => ?_)
      | refine w_cn rfl (fun hc => ?_) (fun hc => ?_)
      | refine w_cond rfl (fun hc => ?_) (fun hc => ?_)
      | (refine l_o ?_; first | refine l_op rfl (by first | (apply k_callf; first | exact ops_callP (d := 13) 11 (MSI b m') (hfc := hb) | fail) | fail) (hk := ?_) | refine l_op (hk := ?_))
    refine en_end (hf := Try.results12) (hr := ?_); simp only [ne, nf, nl, nr, lget, reduceIte, Nat.reduceEqDiff]; first | rfl | refine congrArg RVb ?_ | refine congrArg RVi ?_ | skip
end Go.Proofs.Ytmfbcipjknjicaa
