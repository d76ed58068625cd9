/- The program's winning moves of misere play. For all arguments. -/
import Derived.Test.YtmfbcipjknjicaaMisN
namespace Go.Proofs.Ytmfbcipjknjicaa
open Eng
attribute [local irreducible] OpS OpG FC FCr Rel Fl Ef DR Fs
attribute [local simp] RV.fzR_names
set_option linter.unusedSimpArgs false
set_option linter.unusedVariables false
set_option maxHeartbeats 0
set_option maxRecDepth 100000

def losL (c h : List Int) : List (List Int) := (rch c h).filter fun p => decide (mv c p 0 0 = 0)
/-- A choice of what is kept behind each value. -/
theorem nx_all {c : List Int} (hc : gcode c = true) : ∃ nx : List Int → Nat → Nat → Mem → Mem, ∀ p t o m, vld p t o → memOk c m → memOk c (nx p t o m) ∧ VC c p t o m (nx p t o m) := by
  classical
  refine ⟨fun p t' o' m => if H : ∃ m', memOk c m' ∧ VC c p t' o' m m' then H.choose else m, fun p t' o' m h1 h3 => ?_⟩
  have H := value_all c hc _ p t' o' m h1 (Nat.lt_succ_self _) h3
  dsimp only
  rw [dif_pos H]
  exact H.choose_spec
theorem losing_ok {c h : List Int} (hc : gcode c = true) (hh : ghp h = true) (hs : h.sum ≤ 20) {m : Mem} (hm : memOk c m) : ∃ m', memOk c m' ∧ ∀ b : Nat, FC Try.prog 40 [.agg [RIs c, .v (.map (some b))], RIs h] [(1000000000000, 0, MSI b m)] fun rv O => rv = .ow 1 ((losL c (fillH h)).map RIs) ∧ O = [(1000000000000, 0, MSI b m')] := by
  obtain ⟨nx, hnx⟩ := nx_all hc
  have hv := fillH_vld hh (n := 20) hs
  have hg : h.length ≤ 20 ∧ ∀ x ∈ h, 0 ≤ x ∧ x ≤ 300 := by
    simp only [ghp, Bool.and_eq_true, decide_eq_true_eq] at hh
    exact ⟨hh.1, (ghpF_pos hh.2).1⟩
  have hR := reached_ok c h hc (by omega) (fun x hx => (hg.2 x hx).2)
  unfold losL
  have hrl : (rch c (fillH h)).length ≤ 20000 := by
    obtain ⟨_, _, hl, hx⟩ := vld_le hv
    have h5 := vis_len (gcode_len hc).2 (fillH h) (fillH h).length (fun x hxx => by have := (hx x hxx).2; omega) (Nat.le_refl _)
    have h6 := ordH_len (vis c (fillH h))
    unfold rch; unfold vis at h6 ⊢; omega
  have hrv : ∀ p ∈ rch c (fillH h), vld p 0 0 := fun p hp => vld_vis hv (rch_iff.1 hp)
  generalize rch c (fillH h) = R at *
  have hmk : ∀ k, k ≤ R.length → memOk c (memL nx 0 0 (R.take k) m) := by
    intro k
    induction k with
    | zero => intro _; simpa [memL] using hm
    | succ k ih =>
      intro hk
      rw [memL_succ (by omega)]
      exact (hnx _ _ _ _ (hrv _ (List.getElem_mem (show k < R.length by omega))) (ih (by omega))).1
  refine ⟨memL nx 0 0 R m, by have := hmk _ (Nat.le_refl _); rwa [List.take_length] at this, fun b => ?_⟩
  refine (fc_in Try.func40 rfl (by simp only [Try.ntmps40, anys, List.length_cons, List.length_nil, Nat.reduceAdd, Nat.reduceSub, List.replicate_succ, List.replicate_zero, List.cons_append, List.nil_append] <;> rfl) ?_)
  repeat' first
    | refine w_seq ?_
    | refine w_block ?_
    | refine rb_n ?_
    | refine rb_ret ?_
    | refine rb_eq ?_
    | refine rb_ne (by rfl) ?_
    | refine w_exit ?_
    | refine rt_exit ?_
    | refine w_region ?_
    | refine l_nil ?_
    | refine rt_n ?_
    | refine w_ret ?_
    | refine rt_ret ?_
    | refine w_skip ?_
    | refine w_cond_t rfl ?_
    | refine w_cond_f rfl ?_
    | refine w_cnd rfl (fun hc => ?_) (fun hc => ?_)
    | refine w_cd rfl (fun hc => ?_) (fun hc => ?_)
    | refine w_cn rfl (fun hc => ?_) (fun hc => ?_)
    | refine w_cond rfl (fun hc => ?_) (fun hc => ?_)
    | (refine l_o ?_; first | refine l_eqnil rfl (by kernel_rfl) (by intro b; simp only [nz]; rfl) (fun b hb => ?_) | refine l_op rfl (by first | (apply k_callf; first | exact ops_callf (d := 12) (hfc := hR) | fail) | fail) (hk := ?_) | refine l_op (hk := ?_))
  refine w_loopm (ι := Nat × List (List Int) × Mem) (fun q => [(14, RVn q.1), (5, .ref 8 0 q.2.1.length), (8, .any)]) (fun q => [(8, 1, q.2.1.map RIs), (2, 2, [RV.agg [RIs c, RV.v (Value.map (some b))]]), (1000000000000, 0, MSI b q.2.2)]) (fun q => q.1 ≤ R.length ∧ q.2.1 = (R.take q.1).filter (fun p => decide (mv c p 0 0 = 0)) ∧ q.2.2 = memL nx 0 0 (R.take q.1) m) (fun q => R.length - q.1) (0, [], m) (h0 := ?_) (hs := ?_) (round := ?_)
  · exact ⟨Nat.zero_le _, rfl, rfl⟩
  · refine le_eq (by (repeat' first | exact .nil | refine .keep ?_ | refine .any ?_); first | done | fail) rfl rfl
  · intro ⟨k, L, M⟩ ⟨hk, hL, hM⟩
    dsimp only at hk hL hM ⊢
    have hLl : L.length ≤ 20000 := by
      rw [hL]; have := List.length_filter_le (fun p => decide (mv c p 0 0 = 0)) (R.take k); simp at this ⊢; omega
    by_cases hk2 : k < R.length
    · have hq := hnx _ 0 0 M (hrv _ (List.getElem_mem hk2)) (hM ▸ hmk k hk)
      have hcall := hq.2 b
      repeat' first
        | refine w_seq ?_
        | refine w_block ?_
        | refine rb_n ?_
        | refine rb_ret ?_
        | refine rb_eq ?_
        | refine rb_ne (by rfl) ?_
        | refine w_exit ?_
        | refine rt_exit ?_
        | refine w_region ?_
        | refine l_nil ?_
        | refine rt_n ?_
        | refine w_ret ?_
        | refine rt_ret ?_
        | refine w_skip ?_
        | refine w_cond_t rfl ?_
        | refine w_cond_f rfl ?_
        | refine w_cnd rfl (fun hc => ?_) (fun hc => ?_)
        | refine w_cd rfl (fun hc => ?_) (fun hc => ?_)
        | refine w_cn rfl (fun hc => ?_) (fun hc => ?_)
        | refine w_cond rfl (fun hc => ?_) (fun hc => ?_)
        | (exfalso; omega)
        | (refine l_o ?_; first | refine l_eqnil rfl (by kernel_rfl) (by intro b; simp only [nz]; rfl) (fun b hb => ?_) | refine l_op rfl (by first | (apply k_buildSlice; first | exact ops_buildSlice_fz (d := some 24) (k := 1) rfl rfl rfl (by decide) (by decide) (by kernel_rfl) (by decide +kernel) rfl | fail) | (apply k_callf; first | exact ops_callP (d := 20) 1000000000000 (MSI b (nx R[k] 0 0 M)) (hfc := hcall) | fail) | fail) (hk := ?_) | refine l_op (hk := ?_))
      · refine rn_mk (k + 1, L ++ [R[k]], nx R[k] 0 0 M) ?_ (by first | omega | (dsimp only; omega)) (le_eq (by (repeat' first | exact .nil | refine .keep ?_ | refine .any ?_); first | done | fail) rfl rfl)
        refine ⟨hk2, ?_, ?_⟩
        · dsimp only
          rw [hL, List.take_succ_eq_append_getElem hk2, List.filter_append]; simp [hc]
        · dsimp only
          rw [memL_succ hk2, hM]
      · refine rn_mk (k + 1, L, nx R[k] 0 0 M) ?_ (by first | omega | (dsimp only; omega)) (le_eq (by (repeat' first | exact .nil | refine .keep ?_ | refine .any ?_); first | done | fail) rfl rfl)
        refine ⟨hk2, ?_, ?_⟩
        · dsimp only
          rw [hL, List.take_succ_eq_append_getElem hk2, List.filter_append]; simp [hc]
        · dsimp only
          rw [memL_succ hk2, hM]
    · obtain rfl : k = R.length := by omega
      rw [List.take_length] at hL hM
      repeat' first
        | refine w_seq ?_
        | refine w_block ?_
        | refine rb_n ?_
        | refine rb_ret ?_
        | refine rb_eq ?_
        | refine rb_ne (by rfl) ?_
        | refine w_exit ?_
        | refine rt_exit ?_
        | refine w_region ?_
        | refine l_nil ?_
        | refine rt_n ?_
        | refine w_ret ?_
        | refine rt_ret ?_
        | refine w_skip ?_
        | refine w_cond_t rfl ?_
        | refine w_cond_f rfl ?_
        | refine w_cnd rfl (fun hc => ?_) (fun hc => ?_)
        | refine w_cd rfl (fun hc => ?_) (fun hc => ?_)
        | refine w_cn rfl (fun hc => ?_) (fun hc => ?_)
        | refine w_cond rfl (fun hc => ?_) (fun hc => ?_)
        | (exfalso; omega)
        | (refine l_o ?_; first | refine l_eqnil rfl (by kernel_rfl) (by intro b; simp only [nz]; rfl) (fun b hb => ?_) | refine l_op (hk := ?_))
      subst hL; subst hM
      refine en_endm ([(2, 2, [RV.agg [RIs c, RV.v (Value.map (some b))]])]) (hf := Try.results40) (hO := ?_) (hr := ?_)
      · rfl
      · simp [nz, ne, sealG, lget, seal2, packR]
end Go.Proofs.Ytmfbcipjknjicaa
/- A play of misere play to its end, in plain lists, and who wins it. -/
namespace Go.Proofs.Ytmfbcipjknjicaa
set_option linter.unusedSimpArgs false
set_option linter.unusedVariables false

/-- The first move of the first heap, from a place on, that has one. -/
def fsF (c h : List Int) : Nat → Nat → Option (List Int)
  | 0, _ => none
  | f + 1, j => match hms c (h.getD j 0) with
    | [] => fsF c h f (j + 1)
    | m :: _ => some (aftH h j m)
def fsM (c h : List Int) (j : Nat) : Option (List Int) := fsF c h (h.length - j) j
theorem fsM_end {c h : List Int} {j : Nat} (hj : h.length ≤ j) : fsM c h j = none := by
  unfold fsM
  rw [Nat.sub_eq_zero_of_le hj]; rfl
theorem fsM_nil {c h : List Int} {j : Nat} (hj : j < h.length) (e : hms c h[j] = []) : fsM c h j = fsM c h (j + 1) := by
  unfold fsM
  rw [show h.length - j = (h.length - (j + 1)) + 1 by omega, fsF, List.getD_eq_getElem?_getD, List.getElem?_eq_getElem hj, Option.getD_some, e]
theorem fsM_cons {c h : List Int} {j : Nat} (hj : j < h.length) {m : List Int} {r : List (List Int)} (e : hms c h[j] = m :: r) : fsM c h j = some (aftH h j m) := by
  unfold fsM
  rw [show h.length - j = (h.length - (j + 1)) + 1 by omega, fsF, List.getD_eq_getElem?_getD, List.getElem?_eq_getElem hj, Option.getD_some, e]
theorem fsM_some {c h p : List Int} (hh : h.Pairwise (· ≤ ·)) : ∀ (k j : Nat), k + j = h.length → fsM c h j = some p → p ∈ vis c h
  | 0, j, hk, h1 => by rw [fsM_end (by omega)] at h1; cases h1
  | k + 1, j, hk, h1 => by
    have hj : j < h.length := by omega
    cases e : hms c h[j] with
    | nil => rw [fsM_nil hj e] at h1; exact fsM_some hh k (j + 1) (by omega) h1
    | cons m r =>
      rw [fsM_cons hj e] at h1
      cases h1
      exact (vis_iff hh).2 ⟨j, hj, m, by rw [e]; simp, rfl⟩
theorem fsM_none {c h : List Int} : ∀ (k j : Nat), k + j = h.length → fsM c h j = none → ∀ i, j ≤ i → (hi : i < h.length) → hms c h[i] = []
  | 0, j, hk, h1, i, h2, hi => by omega
  | k + 1, j, hk, h1, i, h2, hi => by
    have hj : j < h.length := by omega
    cases e : hms c h[j] with
    | cons m r => rw [fsM_cons hj e] at h1; cases h1
    | nil =>
      rw [fsM_nil hj e] at h1
      by_cases hij : i = j
      · subst hij; exact e
      · exact fsM_none k (j + 1) (by omega) h1 i (by omega) hi
theorem vis_none {c h : List Int} (hh : h.Pairwise (· ≤ ·)) (h1 : fsM c h 0 = none) : vis c h = [] := by
  refine List.eq_nil_iff_forall_not_mem.2 fun p hp => ?_
  obtain ⟨i, hi, m, hm, _⟩ := (vis_iff hh).1 hp
  rw [fsM_none h.length 0 (by omega) h1 i (by omega) hi] at hm
  cases hm
/-- What is played next. -/
def nxM (c h : List Int) : Option (List Int) := match losL c h with
  | [] => fsM c h 0
  | p :: _ => some p
theorem losL_vis {c h p : List Int} (hp : p ∈ losL c h) : p ∈ vis c h ∧ mv c p 0 0 = 0 := by
  unfold losL at hp
  rw [List.mem_filter] at hp
  exact ⟨rch_iff.1 hp.1, by simpa using hp.2⟩
theorem nxM_vis {c h p : List Int} (hh : h.Pairwise (· ≤ ·)) (h1 : nxM c h = some p) : p ∈ vis c h := by
  unfold nxM at h1
  cases e : losL c h with
  | nil => rw [e] at h1; exact fsM_some hh h.length 0 (by omega) h1
  | cons q r =>
    rw [e] at h1; cases h1
    exact (losL_vis (by rw [e]; simp)).1
theorem nxM_none {c h : List Int} (hh : h.Pairwise (· ≤ ·)) : nxM c h = none ↔ fsM c h 0 = none := by
  unfold nxM
  cases e : losL c h with
  | nil => exact Iff.rfl
  | cons q r =>
    have := (losL_vis (c := c) (h := h) (p := q) (by rw [e]; simp)).1
    constructor
    · intro h; cases h
    · intro h1; rw [vis_none hh h1] at this; cases this
def plyF (c : List Int) : Nat → List Int → List (List Int)
  | 0, _ => []
  | f + 1, h => match nxM c h with
    | none => []
    | some p => p :: plyF c f p
theorem plyF_eq (c : List Int) : ∀ (f f' : Nat) (h : List Int), posH h → h.sum.toNat < f → h.sum.toNat < f' → plyF c f h = plyF c f' h
  | 0, _, _, _, h1, _ => by omega
  | _, 0, _, _, _, h1 => by omega
  | f + 1, f' + 1, h, hh, h1, h2 => by
    rw [plyF, plyF]
    cases e : nxM c h with
    | none => rfl
    | some p =>
      have hp := vis_mem hh (nxM_vis hh.2 e)
      have hs := (sum_nn hp.1.1).1
      dsimp only
      rw [plyF_eq c f f' p hp.1 (by omega) (by omega)]
def ply (c h : List Int) : List (List Int) := plyF c (h.sum.toNat + 1) h
theorem ply_none {c h : List Int} (e : nxM c h = none) : ply c h = [] := by
  unfold ply
  rw [plyF, e]
theorem ply_some {c h p : List Int} (hh : posH h) (e : nxM c h = some p) : ply c h = p :: ply c p := by
  have hp := vis_mem hh (nxM_vis hh.2 e)
  have hs := (sum_nn hp.1.1).1
  unfold ply
  rw [plyF, e]
  dsimp only
  rw [plyF_eq c _ (p.sum.toNat + 1) p hp.1 (by omega) (by omega)]
theorem mv_zero {c h : List Int} (hh : posH h) : mv c h 0 0 = 0 ↔ (vis c h ≠ [] ∧ ∀ p ∈ vis c h, mv c p 0 0 ≠ 0) := by
  rw [mv_eq hh]
  have e : optM c h 0 0 = (vis c h).map fun p => mv c p 0 0 := by simp [optM]
  rw [e]
  generalize hl : ((vis c h).map fun p => mv c p 0 0) = l
  unfold mexO
  constructor
  · intro h1
    by_cases hn : l = []
    · rw [if_pos hn] at h1; omega
    · rw [if_neg hn] at h1
      have hx := mexL_not l
      rw [h1] at hx
      refine ⟨fun h2 => hn (by rw [← hl, h2]; rfl), fun p hp h2 => hx ?_⟩
      rw [← hl]
      exact List.mem_map.2 ⟨p, hp, h2⟩
  · rintro ⟨h1, h2⟩
    have hn : l ≠ [] := fun h3 => h1 (by rw [← hl] at h3; exact List.map_eq_nil_iff.1 h3)
    rw [if_neg hn]
    have : mexL l = 0 := mexL_eq (by
      rw [← hl]
      intro h3
      obtain ⟨p, hp, h4⟩ := List.mem_map.1 h3
      exact h2 p hp h4) fun j hj => by omega
    rw [this]; rfl
/-- The one who begins wins just where the play is even. -/
theorem ply_par (c : List Int) : ∀ (n : Nat) (h : List Int), posH h → h.sum.toNat < n → (mv c h 0 0 ≠ 0 ↔ (ply c h).length % 2 = 0)
  | 0, _, _, h1 => by omega
  | n + 1, h, hh, h1 => by
    cases e : nxM c h with
    | none =>
      have hv := vis_none hh.2 ((nxM_none hh.2).1 e)
      rw [ply_none e]
      have := mv_zero (c := c) hh
      rw [hv] at this
      simp at this ⊢
      exact this
    | some p =>
      have hpv := nxM_vis hh.2 e
      have hp := vis_mem hh hpv
      have hs := (sum_nn hp.1.1).1
      have ih := ply_par c n p hp.1 (by omega)
      rw [ply_some hh e, List.length_cons]
      have hz := mv_zero (c := c) hh
      have hne : vis c h ≠ [] := fun h => by rw [h] at hpv; cases hpv
      cases el : losL c h with
      | nil =>
        have hall : ∀ q ∈ vis c h, mv c q 0 0 ≠ 0 := fun q hq h2 => by
          have : q ∈ losL c h := by
            unfold losL
            rw [List.mem_filter]
            exact ⟨rch_iff.2 hq, by simpa using h2⟩
          rw [el] at this; cases this
        have h0 := hz.2 ⟨hne, hall⟩
        have hp0 := ih.1 (hall p hpv)
        rw [h0]
        constructor
        · intro h; exact absurd rfl h
        · intro h; omega
      | cons q r =>
        have hq := losL_vis (c := c) (h := h) (p := q) (by rw [el]; simp)
        have hpq : p = q := by
          unfold nxM at e
          rw [el] at e
          cases e; rfl
        subst hpq
        have h2 : mv c h 0 0 ≠ 0 := fun h3 => (hz.1 h3).2 p hq.1 hq.2
        have h3 : ¬ (ply c p).length % 2 = 0 := fun h3 => ih.2 h3 hq.2
        constructor
        · intro _; omega
        · intro _; exact h2
theorem ply_len (c : List Int) : ∀ (n : Nat) (h : List Int), posH h → h.sum.toNat < n → (ply c h).length ≤ h.sum.toNat
  | 0, _, _, h1 => by omega
  | n + 1, h, hh, h1 => by
    cases e : nxM c h with
    | none => rw [ply_none e]; simp
    | some p =>
      have hp := vis_mem hh (nxM_vis hh.2 e)
      have hs := (sum_nn hp.1.1).1
      have := ply_len c n p hp.1 (by omega)
      rw [ply_some hh e, List.length_cons]; omega
end Go.Proofs.Ytmfbcipjknjicaa
