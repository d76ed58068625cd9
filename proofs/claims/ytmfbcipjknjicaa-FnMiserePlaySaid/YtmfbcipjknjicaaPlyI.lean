/- The program's and the reference's plays of misere play. For all arguments. -/
import Derived.Test.YtmfbcipjknjicaaJ34
import Derived.Test.YtmfbcipjknjicaaJ35
import Derived.Test.YtmfbcipjknjicaaJ44
import Derived.Test.YtmfbcipjknjicaaSpW
namespace Go.Proofs.Ytmfbcipjknjicaa
open Eng
attribute [local irreducible] OpS OpG FC FCr Rel Fl Ef DR Fs
attribute [local simp] RV.fzR_names
set_option linter.unusedSimpArgs false
set_option linter.unusedVariables false
set_option maxHeartbeats 0
set_option maxRecDepth 100000

theorem firstMove_ok (c h : List Int) (hcg : gcode c = true) (hx : ∀ x ∈ h, 0 < x ∧ x ≤ 20) (hl : h.length ≤ 20) : FCr Try.prog 97 [RIs c, RIs h] (.tup [OIs ((fsM c h 0).getD []), RVb (fsM c h 0).isSome]) := by
  refine (fcr_in Try.func97 rfl (by simp only [Try.ntmps97, anys, List.length_cons, List.length_nil, Nat.reduceAdd, Nat.reduceSub, List.replicate_succ, List.replicate_zero, List.cons_append, List.nil_append] <;> rfl) ?_)
  repeat' first
    | refine w_seq ?_
    | refine w_block ?_
    | refine rb_n ?_
    | refine rb_ret ?_
    | refine rb_eq ?_
    | refine rb_ne (by rfl) ?_
    | refine w_exit ?_
    | refine rt_exit ?_
    | refine w_region ?_
    | refine l_nil ?_
    | refine rt_n ?_
    | refine w_ret ?_
    | refine rt_ret ?_
    | refine w_skip ?_
    | refine w_cond_t rfl ?_
    | refine w_cond_f rfl ?_
    | refine w_cnd rfl (fun hc => ?_) (fun hc => ?_)
    | refine w_cd rfl (fun hc => ?_) (fun hc => ?_)
    | refine w_cn rfl (fun hc => ?_) (fun hc => ?_)
    | refine w_cond rfl (fun hc => ?_) (fun hc => ?_)
    | (refine l_o ?_; first | refine l_op (hk := ?_))
  refine w_loopm (ι := Nat) (fun k => [(11, RVn k), (6, .any), (7, .any), (8, .any)]) (fun _ => []) (fun k => k ≤ h.length ∧ fsM c h k = fsM c h 0) (fun k => h.length - k) 0 (h0 := ?_) (hs := ?_) (round := ?_)
  · exact ⟨Nat.zero_le _, rfl⟩
  · refine le_eq (by (repeat' first | exact .nil | refine .keep ?_ | refine .any ?_); first | done | fail) rfl rfl
  · intro k ⟨hk, hF⟩
    by_cases hk2 : k < h.length
    · have hHk := hx _ (List.getElem_mem hk2)
      have hM := heapMoves_ok c h[k] hcg (by omega) (by omega)
      cases e : hms c h[k] with
      | nil =>
        rw [fsM_nil hk2 e] at hF
        rw [e] at hM
        repeat' first
          | refine w_seq ?_
          | refine w_block ?_
          | refine rb_n ?_
          | refine rb_ret ?_
          | refine rb_eq ?_
          | refine rb_ne (by rfl) ?_
          | refine w_exit ?_
          | refine rt_exit ?_
          | refine w_region ?_
          | refine l_nil ?_
          | refine rt_n ?_
          | refine w_ret ?_
          | refine rt_ret ?_
          | refine w_skip ?_
          | refine w_cond_t rfl ?_
          | refine w_cond_f rfl ?_
          | refine w_cnd rfl (fun hc => ?_) (fun hc => ?_)
          | refine w_cd rfl (fun hc => ?_) (fun hc => ?_)
          | refine w_cn rfl (fun hc => ?_) (fun hc => ?_)
          | refine w_cond rfl (fun hc => ?_) (fun hc => ?_)
          | (exfalso; omega)
          | (refine l_o ?_; first | refine l_op rfl (by first | (apply k_callf; first | exact ops_callf (d := 18) (hfc := hM) | fail) | fail) (hk := ?_) | refine l_op (hk := ?_))
        refine rn_mk (k + 1) ?_ (by first | omega | (dsimp only; omega)) (le_eq (by (repeat' first | exact .nil | refine .keep ?_ | refine .any ?_); first | done | fail) rfl rfl)
        exact ⟨hk2, hF⟩
      | cons m r =>
        rw [fsM_cons hk2 e] at hF
        rw [e] at hM
        have hmm := hms_mem (c := c) (n := h[k]) (m := m) (by rw [e]; simp)
        have hR := replaced_ok h k m hk2 (by omega) (by omega)
        rw [← hF]
        generalize aftH h k m = p at *
        repeat' first
          | refine w_seq ?_
          | refine w_block ?_
          | refine rb_n ?_
          | refine rb_ret ?_
          | refine rb_eq ?_
          | refine rb_ne (by rfl) ?_
          | refine w_exit ?_
          | refine rt_exit ?_
          | refine w_region ?_
          | refine l_nil ?_
          | refine rt_n ?_
          | refine w_ret ?_
          | refine rt_ret ?_
          | refine w_skip ?_
          | refine w_cond_t rfl ?_
          | refine w_cond_f rfl ?_
          | refine w_cnd rfl (fun hc => ?_) (fun hc => ?_)
          | refine w_cd rfl (fun hc => ?_) (fun hc => ?_)
          | refine w_cn rfl (fun hc => ?_) (fun hc => ?_)
          | refine w_cond rfl (fun hc => ?_) (fun hc => ?_)
          | (exfalso; omega)
          | (refine l_o ?_; first | refine l_op rfl (by first | (apply k_indexAddr; first | exact ops_idx_map (l := m :: r) (f := RIs) rfl rfl (by simp) (by kernel_rfl) (by kernel_rfl) | fail) | (apply k_callf; first | exact ops_callf (d := 18) (hfc := hM) | exact ops_callv (d := 27) (hfc := hR) | fail) | fail) (hk := ?_) | refine l_op (hk := ?_))
        refine en_end (hf := Try.results97) (hr := ?_); simp only [ne, nf, nl, nr, lget, reduceIte, Nat.reduceEqDiff]; first | rfl | refine congrArg RVb ?_ | refine congrArg RVi ?_ | skip
    · rw [fsM_end (by omega)] at hF
      rw [← hF]
      repeat' first
        | refine w_seq ?_
        | refine w_block ?_
        | refine rb_n ?_
        | refine rb_ret ?_
        | refine rb_eq ?_
        | refine rb_ne (by rfl) ?_
        | refine w_exit ?_
        | refine rt_exit ?_
        | refine w_region ?_
        | refine l_nil ?_
        | refine rt_n ?_
        | refine w_ret ?_
        | refine rt_ret ?_
        | refine w_skip ?_
        | refine w_cond_t rfl ?_
        | refine w_cond_f rfl ?_
        | refine w_cnd rfl (fun hc => ?_) (fun hc => ?_)
        | refine w_cd rfl (fun hc => ?_) (fun hc => ?_)
        | refine w_cn rfl (fun hc => ?_) (fun hc => ?_)
        | refine w_cond rfl (fun hc => ?_) (fun hc => ?_)
        | (exfalso; omega)
        | (refine l_o ?_; first | refine l_op (hk := ?_))
      refine en_endn ([.ow 1 [], RVb false]) (hf := Try.results97) (hr := ?_); simp only [ne]; first | rfl | skip
theorem ghp_posH {h : List Int} (hh : posH h) (hs : h.sum ≤ 20) : ghp h = true := by
  have hn := sum_nn hh.1
  have hg : ∀ (l : List Int) (a : Int), (∀ x ∈ l, 0 < x ∧ x ≤ 300) → l.Pairwise (· ≤ ·) → (∀ x ∈ l, a ≤ x) → ghpF a l = true := by
    intro l
    induction l with
    | nil => intro a _ _ _; rfl
    | cons x xs ih =>
      intro a k1 k2 k3
      rw [List.pairwise_cons] at k2
      have q1 := k1 x (by simp)
      have q2 := k3 x (by simp)
      simp only [ghpF, Bool.and_eq_true, Bool.not_eq_true', decide_eq_false_iff_not]
      exact ⟨⟨by omega, by omega⟩, ih x (fun y hy => k1 y (by simp [hy])) k2.2 k2.1⟩
  unfold ghp
  rw [decide_eq_true (by have := hn.1; omega), hg h 0 (fun x hx => ⟨hh.1 x hx, by have := hn.2 x hx; omega⟩) hh.2 fun x hx => by have := hh.1 x hx; omega]; rfl
def LC (c p : List Int) (M M' : Mem) : Prop := ∀ b : Nat, FC Try.prog 40 [.agg [RIs c, .v (.map (some b))], RIs p] [(1000000000000, 0, MSI b M)] fun rv O => rv = .ow 1 ((losL c p).map RIs) ∧ O = [(1000000000000, 0, MSI b M')]
theorem lx_all {c : List Int} (hc : gcode c = true) : ∃ lx : List Int → Mem → Mem, ∀ p M, posH p → p.sum ≤ 20 → memOk c M → memOk c (lx p M) ∧ LC c p M (lx p M) := by
  classical
  refine ⟨fun p M => if H : ∃ M', memOk c M' ∧ LC c p M M' then H.choose else M, fun p M h1 h2 h3 => ?_⟩
  have H : ∃ M', memOk c M' ∧ LC c p M M' := by
    obtain ⟨M', hM', h4⟩ := losing_ok hc (ghp_posH h1 h2) h2 h3
    rw [fillH_id h1.1] at h4
    exact ⟨M', hM', h4⟩
  dsimp only
  rw [dif_pos H]
  exact H.choose_spec
/-- What is kept behind a play. -/
def plM (c : List Int) (lx : List Int → Mem → Mem) : Nat → List Int → Mem → Mem
  | 0, _, M => M
  | f + 1, h, M => match nxM c h with
    | none => M
    | some p => plM c lx f p (lx h M)
theorem plM_eq (c : List Int) (lx : List Int → Mem → Mem) : ∀ (f f' : Nat) (h : List Int) (M : Mem), posH h → h.sum.toNat < f → h.sum.toNat < f' → plM c lx f h M = plM c lx f' h M
  | 0, _, _, _, _, h1, _ => by omega
  | _, 0, _, _, _, _, h1 => by omega
  | f + 1, f' + 1, h, M, hh, h1, h2 => by
    rw [plM, plM]
    cases e : nxM c h with
    | none => rfl
    | some p =>
      have hp := vis_mem hh (nxM_vis hh.2 e)
      have hs := (sum_nn hp.1.1).1
      dsimp only
      rw [plM_eq c lx f f' p _ hp.1 (by omega) (by omega)]
def plyM (c : List Int) (lx : List Int → Mem → Mem) (h : List Int) (M : Mem) : Mem := plM c lx (h.sum.toNat + 1) h M
theorem plyM_none {c : List Int} {lx h M} (e : nxM c h = none) : plyM c lx h M = M := by
  unfold plyM
  rw [plM, e]
theorem plyM_some {c : List Int} {lx : List Int → Mem → Mem} {h p : List Int} {M : Mem} (hh : posH h) (e : nxM c h = some p) : plyM c lx h M = plyM c lx p (lx h M) := by
  have hp := vis_mem hh (nxM_vis hh.2 e)
  have hs := (sum_nn hp.1.1).1
  unfold plyM
  rw [plM, e]
  dsimp only
  rw [plM_eq c lx _ (p.sum.toNat + 1) p _ hp.1 (by omega) (by omega)]
theorem played_ok {c h : List Int} (hcg : gcode c = true) (hg : ghp h = true) (hs : h.sum ≤ 20) {M : Mem} (hM : memOk c M) : ∃ M', ∀ b : Nat, FC Try.prog 69 [RIs c, RIs h, .fn (.b (.func 40)) [RIs c, .v (.map (some b))]] [(1000000000000, 0, MSI b M)] fun rv O => rv = .ow 1 ((ply c (fillH h)).map RIs) ∧ O = [(1000000000000, 0, MSI b M')] := by
  obtain ⟨lx, hlx⟩ := lx_all hcg
  have hv := fillH_vld hg (n := 20) hs
  have hF := filled_ok h (by simp only [ghp, Bool.and_eq_true, decide_eq_true_eq] at hg; omega)
  refine ⟨plyM c lx (fillH h) M, fun b => ?_⟩
  have hpl := ply_len c _ (fillH h) hv.1 (Nat.lt_succ_self _)
  have hv0 := hv.2.1
  have hpH := hv.1
  generalize fillH h = H at *
  clear hv
  refine (fc_in Try.func69 rfl (by simp only [Try.ntmps69, anys, List.length_cons, List.length_nil, Nat.reduceAdd, Nat.reduceSub, List.replicate_succ, List.replicate_zero, List.cons_append, List.nil_append] <;> rfl) ?_)
  repeat' first
    | refine w_seq ?_
    | refine w_block ?_
    | refine rb_n ?_
    | refine rb_ret ?_
    | refine rb_eq ?_
    | refine rb_ne (by rfl) ?_
    | refine w_region ?_
    | refine l_nil ?_
    | refine rt_n ?_
    | refine w_ret ?_
    | refine rt_ret ?_
    | refine w_skip ?_
    | refine w_cond_t rfl ?_
    | refine w_cond_f rfl ?_
    | refine w_cnd rfl (fun hc => ?_) (fun hc => ?_)
    | refine w_cd rfl (fun hc => ?_) (fun hc => ?_)
    | refine w_cn rfl (fun hc => ?_) (fun hc => ?_)
    | refine w_cond rfl (fun hc => ?_) (fun hc => ?_)
    | (refine l_o ?_; first | refine l_op rfl (by first | (apply k_callf; first | exact ops_callf (d := 13) (hfc := hF) | fail) | fail) (hk := ?_) | refine l_op (hk := ?_))
  refine w_le _ (le_perm [11, 1000000000000] rfl rfl) ?_
  refine w_loopm (ι := List Int × List (List Int) × Mem) (fun q => [(1, RIs q.1), (7, .ref 11 0 q.2.1.length), (11, .any), (8, .any), (9, .any), (10, .any)]) (fun q => [(11, 1, q.2.1.map RIs), (1000000000000, 0, MSI b q.2.2)]) (fun q => posH q.1 ∧ q.1.sum ≤ 20 ∧ memOk c q.2.2 ∧ q.2.1 ++ ply c q.1 = ply c H ∧ plyM c lx q.1 q.2.2 = plyM c lx H M) (fun q => q.1.sum.toNat) (H, [], M) (h0 := ?_) (hs := ?_) (round := ?_)
  · exact ⟨hpH, hv0, hM, rfl, rfl⟩
  · refine le_eq (by (repeat' first | exact .nil | refine .keep ?_ | refine .any ?_); first | done | fail) rfl rfl
  · intro ⟨p, L, M1⟩ ⟨h1, h2, h3, h4, h5⟩
    dsimp only at h1 h2 h3 h4 h5 ⊢
    have hn := sum_nn h1.1
    have hFM := firstMove_ok c p hcg (fun x hx => ⟨h1.1 x hx, by have := hn.2 x hx; omega⟩) (by have := hn.1; omega)
    have hll : L.length ≤ H.sum.toNat := by
      have := congrArg List.length h4
      rw [List.length_append] at this; omega
    cases e : nxM c p with
    | none =>
      have e1 := (nxM_none h1.2).1 e
      rw [e1] at hFM
      rw [ply_none e, List.append_nil] at h4
      rw [plyM_none e] at h5
      rw [← h4, ← h5]
      simp only [Option.getD_none, Option.isSome_none] at hFM
      repeat' first
        | refine w_seq ?_
        | refine w_block ?_
        | refine rb_n ?_
        | refine rb_ret ?_
        | refine rb_eq ?_
        | refine rb_ne (by rfl) ?_
        | refine w_region ?_
        | refine l_nil ?_
        | refine rt_n ?_
        | refine w_ret ?_
        | refine rt_ret ?_
        | refine w_skip ?_
        | refine w_cond_t rfl ?_
        | refine w_cond_f rfl ?_
        | refine w_cnd rfl (fun hc => ?_) (fun hc => ?_)
        | refine w_cd rfl (fun hc => ?_) (fun hc => ?_)
        | refine w_cn rfl (fun hc => ?_) (fun hc => ?_)
        | refine w_cond rfl (fun hc => ?_) (fun hc => ?_)
        | (refine l_o ?_; first | refine l_op rfl (by first | (apply k_callf; first | exact ops_callf (d := 17) (hfc := hFM) | fail) | fail) (hk := ?_) | refine l_op (hk := ?_))
      refine en_endm ([]) (hf := Try.results69) (hO := ?_) (hr := ?_)
      · rfl
      · rfl
    | some q =>
      have hq := vis_mem h1 (nxM_vis h1.2 e)
      have hqs := (sum_nn hq.1.1)
      rw [ply_some h1 e] at h4
      rw [plyM_some h1 e] at h5
      obtain ⟨q0, e0⟩ : ∃ q0, fsM c p 0 = some q0 := by
        cases e0 : fsM c p 0 with
        | none => rw [(nxM_none h1.2).2 e0] at e; cases e
        | some q0 => exact ⟨q0, rfl⟩
      have hL := hlx p M1 h1 h2 h3
      have hlos := hL.2 b
      have hM2 := hL.1
      have hCl := clone_ok q (by have := hqs.1; omega)
      have hCl0 := clone_ok q0 (by have := (vis_mem h1 (fsM_some h1.2 p.length 0 (by omega) e0)); have := (sum_nn this.1.1).1; omega)
      rw [e0] at hFM
      simp only [Option.getD_some, Option.isSome_some] at hFM
      generalize lx p M1 = M2 at *
      by_cases el : losL c p = []
      · unfold nxM at e
        rw [el] at hlos e
        obtain rfl : q0 = q := by rw [e0] at e; cases e; rfl
        repeat' first
          | refine w_seq ?_
          | refine w_block ?_
          | refine rb_n ?_
          | refine rb_ret ?_
          | refine rb_eq ?_
          | refine rb_ne (by rfl) ?_
          | refine w_region ?_
          | refine l_nil ?_
          | refine rt_n ?_
          | refine w_ret ?_
          | refine rt_ret ?_
          | refine w_skip ?_
          | refine w_cond_t rfl ?_
          | refine w_cond_f rfl ?_
          | refine w_cnd rfl (fun hc => ?_) (fun hc => ?_)
          | refine w_cd rfl (fun hc => ?_) (fun hc => ?_)
          | refine w_cn rfl (fun hc => ?_) (fun hc => ?_)
          | refine w_cond rfl (fun hc => ?_) (fun hc => ?_)
          | (refine l_le _ (le_freeze 25 rfl (by simp only [nz, nf, nl, nb, nr, ng, nq, nu, reduceIte, Nat.reduceEqDiff, Nat.reduceAdd]; rfl) (by simp only [nz, nf, nl, nb, nr, ng, nq, nu, reduceIte, Nat.reduceEqDiff, Nat.reduceAdd]; rfl)) ?_)
          | (refine l_o ?_; first | refine l_op rfl (by first | (apply k_callt; first | exact ops_callB [1000000000000] [] [(1000000000000, 0, MSI b M2)] [(1000000000000, 0, MSI b M2)] (hfc := hlos) | fail) | (apply k_buildSlice; first | exact ops_buildSlice_fz (d := some 35) (k := 1) rfl rfl rfl (by decide) (by decide) (by kernel_rfl) (by decide +kernel) rfl | fail) | (apply k_callf; first | exact ops_callf (d := 17) (hfc := hFM) | exact ops_callf (d := 34) (hfc := hCl) | fail) | fail) (hk := ?_) | refine l_op (hk := ?_))
        refine rn_mk (q0, L ++ [q0], M2) ?_ (by dsimp only; omega) (le_trans (le_perm [11, 1000000000000] rfl rfl) (le_eq (by (repeat' first | exact .nil | refine .keep ?_ | refine .any ?_); first | done | fail) rfl rfl))
        refine ⟨hq.1, by dsimp only; omega, hM2, ?_, h5⟩
        rw [← h4]; simp
      · have hz : 0 < (losL c p).length := List.length_pos_iff.2 el
        have e2 : nxM c p = some (losL c p)[0] := by
          unfold nxM
          split
          · rename_i e3; exact absurd e3 el
          · rename_i e3; simp [e3]
        rw [e] at e2
        obtain rfl := Option.some.inj e2
        clear e2 e
        generalize losL c p = Z at *
        repeat' first
          | refine w_seq ?_
          | refine w_block ?_
          | refine rb_n ?_
          | refine rb_ret ?_
          | refine rb_eq ?_
          | refine rb_ne (by rfl) ?_
          | refine w_region ?_
          | refine l_nil ?_
          | refine rt_n ?_
          | refine w_ret ?_
          | refine rt_ret ?_
          | refine w_skip ?_
          | refine w_cond_t rfl ?_
          | refine w_cond_f rfl ?_
          | refine w_cnd rfl (fun hc => ?_) (fun hc => ?_)
          | refine w_cd rfl (fun hc => ?_) (fun hc => ?_)
          | refine w_cn rfl (fun hc => ?_) (fun hc => ?_)
          | refine w_cond rfl (fun hc => ?_) (fun hc => ?_)
          | (refine l_le _ (le_freeze 25 rfl (by simp only [nz, nf, nl, nb, nr, ng, nq, nu, reduceIte, Nat.reduceEqDiff, Nat.reduceAdd]; rfl) (by simp only [nz, nf, nl, nb, nr, ng, nq, nu, reduceIte, Nat.reduceEqDiff, Nat.reduceAdd]; rfl)) ?_)
          | (exfalso; omega)
          | (refine l_o ?_; first | refine l_op rfl (by first | (apply k_callt; first | exact ops_callB [1000000000000] [] [(1000000000000, 0, MSI b M2)] [(1000000000000, 0, MSI b M2)] (hfc := hlos) | fail) | (apply k_buildSlice; first | exact ops_buildSlice_fz (d := some 35) (k := 1) rfl rfl rfl (by decide) (by decide) (by kernel_rfl) (by decide +kernel) rfl | fail) | (apply k_callf; first | exact ops_callf (d := 17) (hfc := hFM) | exact ops_callf (d := 34) (hfc := hCl) | fail) | fail) (hk := ?_) | refine l_op (hk := ?_))
        refine rn_mk (Z[0], L ++ [Z[0]], M2) ?_ (by dsimp only; omega) (le_trans (le_perm [11, 1000000000000] rfl rfl) (le_eq (by (repeat' first | exact .nil | refine .keep ?_ | refine .any ?_); first | done | fail) rfl rfl))
        refine ⟨hq.1, by dsimp only; omega, hM2, ?_, h5⟩
        rw [← h4]; simp
/-- What MiserePlay tells. -/
def plyR (c h : List Int) : RV := if gcode c && ghp h && decide (h.sum ≤ 20) then .tup [.ow 1 ((ply c (fillH h)).map RIs), RVb true] else .tup [.ow 1 [], RVb false]
theorem miserePlay_ok (c h : List Int) (hc : c.length ≤ 1048576) (hl : h.length ≤ 1048576) : FCr Try.prog 34 [RIs c, RIs h] (plyR c h) := by
  have hS := small_ok c h 20 hc hl (by omega)
  have hN := newMisere_ok c
  unfold plyR
  have hv : (gcode c && ghp h && decide (h.sum ≤ ((20 : Nat) : Int))) = true → ∃ m', ∀ b : Nat, FC Try.prog 69 [RIs c, RIs h, .fn (.b (.func 40)) [RIs c, .v (.map (some b))]] [(1000000000000, 0, MSI b [])] fun rv O => rv = .ow 1 ((ply c (fillH h)).map RIs) ∧ O = [(1000000000000, 0, MSI b m')] := fun e => by
    simp only [Bool.and_eq_true, decide_eq_true_eq] at e
    exact played_ok e.1.1 e.1.2 e.2 (memOk_nil c)
  rw [show ((20 : Int)) = ((20 : Nat) : Int) from rfl]
  generalize (gcode c && ghp h && decide (h.sum ≤ ((20 : Nat) : Int))) = b at *
  generalize ply c (fillH h) = Z at *
  cases b with
  | false =>
    refine (fcr_in Try.func34 rfl (by simp only [Try.ntmps34, anys, List.length_cons, List.length_nil, Nat.reduceAdd, Nat.reduceSub, List.replicate_succ, List.replicate_zero, List.cons_append, List.nil_append] <;> rfl) ?_)
    repeat' first
      | refine w_seq ?_
      | refine w_region ?_
      | refine l_nil ?_
      | refine rt_n ?_
      | refine w_ret ?_
      | refine rt_ret ?_
      | refine w_skip ?_
      | refine w_cond_t rfl ?_
      | refine w_cond_f rfl ?_
      | refine w_cnd rfl (fun hc => ?_) (fun hc => ?_)
      | refine w_cd rfl (fun hc => ?_) (fun hc => ?_)
      | refine w_cn rfl (fun hc => ?_) (fun hc => ?_)
      | refine w_cond rfl (fun hc => ?_) (fun hc => ?_)
      | (refine l_o ?_; first | refine l_op rfl (by first | (apply k_callf; first | exact ops_callf (hfc := hS) | fail) | fail) (hk := ?_) | refine l_op (hk := ?_))
    refine en_endn ([.ow 1 [], RVb false]) (hf := Try.results34) (hr := ?_); simp only [ne]; first | rfl | skip
  | true =>
    obtain ⟨m', hm'⟩ := hv rfl
    refine (fcr_in Try.func34 rfl (by simp only [Try.ntmps34, anys, List.length_cons, List.length_nil, Nat.reduceAdd, Nat.reduceSub, List.replicate_succ, List.replicate_zero, List.cons_append, List.nil_append] <;> rfl) ?_)
    repeat' first
      | refine w_seq ?_
      | refine w_region ?_
      | refine l_nil ?_
      | refine rt_n ?_
      | refine w_ret ?_
      | refine rt_ret ?_
      | refine w_skip ?_
      | refine w_cond_t rfl ?_
      | refine w_cond_f rfl ?_
      | refine w_cnd rfl (fun hc => ?_) (fun hc => ?_)
      | refine w_cd rfl (fun hc => ?_) (fun hc => ?_)
      | refine w_cn rfl (fun hc => ?_) (fun hc => ?_)
      | refine w_cond rfl (fun hc => ?_) (fun hc => ?_)
      | (refine l_o ?_; first | refine l_op rfl (by first | (apply k_callf; first | exact ops_callf (hfc := hS) | fail) | fail) (hk := ?_) | refine l_op (hk := ?_))
    refine l_callM (hfc := hN) (hk := fun b _ => ?_)
    have hb := hm' b
    repeat' first
      | refine w_seq ?_
      | refine w_region ?_
      | refine l_nil ?_
      | refine rt_n ?_
      | refine w_ret ?_
      | refine rt_ret ?_
      | refine w_skip ?_
      | refine w_cond_t rfl ?_
      | refine w_cond_f rfl ?_
      | refine w_cnd rfl (fun hc => ?_) (fun hc => ?_)
      | refine w_cd rfl (fun hc => ?_) (fun hc => ?_)
      | refine w_cn rfl (fun hc => ?_) (fun hc => ?_)
      | refine w_cond rfl (fun hc => ?_) (fun hc => ?_)
      | (refine l_o ?_; first | refine l_op rfl (by first | (apply k_makeFunc; first | exact ops_bind | fail) | (apply k_callf; first | exact ops_callP (d := 15) 13 (MSI b m') (hfc := hb) | fail) | fail) (hk := ?_) | refine l_op (hk := ?_))
    refine en_end (hf := Try.results34) (hr := ?_); simp only [ne, nf, nl, nr, lget, reduceIte, Nat.reduceEqDiff]; first | rfl | refine congrArg RVb ?_ | refine congrArg RVi ?_ | skip
end Go.Proofs.Ytmfbcipjknjicaa
