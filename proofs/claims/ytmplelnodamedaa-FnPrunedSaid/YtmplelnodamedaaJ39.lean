/- The drawn law of ReachedFrom answers true. For all loops and places. -/
import Derived.Test.YtmplelnodamedaaJ26
import Derived.Test.YtmplelnodamedaaMarks
import Derived.Test.YtmplelnodamedaaPlay
import Derived.Test.YtmplelnodamedaaPruneS
import Derived.Test.YtmplelnodamedaaReachS
namespace Go.Proofs.Ytmplelnodamedaa
open Eng
attribute [local irreducible] OpS OpG FC FCr Rel Fl Ef DR Fs
set_option linter.unusedSimpArgs false
set_option maxHeartbeats 0
set_option maxRecDepth 100000

theorem rch_len (L R : List (List Int)) (a : Int) : (rch L R a).length ≤ 36 := by
  unfold rch
  split
  · rename_i ho
    have hb := okAt_good ho
    have g := goodI hb.1
    have h := rchL_is g (a := a) ⟨hb.2.1, hb.2.2⟩
    have h1 := nodup_len (si_nodup h.1) fun x hx => reach_in g ⟨hb.2.1, hb.2.2⟩ ((h.2 x).1 hx)
    have := g.len
    omega
  · simp
end Go.Proofs.Ytmplelnodamedaa
/- The drawn law of PruneLoop answers true. For all loops and places. -/
namespace Go.Proofs.Ytmplelnodamedaa
open Eng
attribute [local irreducible] OpS OpG FC FCr Rel Fl Ef DR Fs
set_option linter.unusedSimpArgs false
set_option maxHeartbeats 0
set_option maxRecDepth 100000

theorem plcs_len (W ps : List Int) : (plcs W ps).length = ps.length := by simp [plcs]
theorem pr_small (L R : List (List Int)) (a : Int) : (prA L R a).length ≤ 36 ∧ (prB L R a).length ≤ 36 ∧ lens (prA L R a) (prA L R a).length ≤ 864 ∧ lens (prB L R a) (prB L R a).length ≤ 864 := by
  have h1 := rch_len L R a
  have lA : (prA L R a).length = (rch L R a).length := by simp [prA]
  have lB : (prB L R a).length = (rch L R a).length := by simp [prB]
  cases ho : okAt L R a with
  | false =>
    have e : rch L R a = [] := by simp [rch, ho]
    simp [prA, prB, e, lens]
  | true =>
    have g := goodI (okAt_good ho).1
    have row : ∀ (M : List (List Int)), (∀ l ∈ M, l.length ≤ 24) → ∀ i, (M.getD i []).length ≤ 24 := fun M hM i => by
      rcases Nat.lt_or_ge i M.length with h | h
      · rw [gd h]; exact hM _ (List.getElem_mem h)
      · rw [gd_out (by omega)]; simp
    have a1 := lens_le_mul (prA L R a) 24 fun r hr => by
      simp only [prA, List.mem_map] at hr
      obtain ⟨i, _, rfl⟩ := hr
      rw [plcs_len]; exact row L g.lL _
    have b1 := lens_le_mul (prB L R a) 24 fun r hr => by
      simp only [prB, List.mem_map] at hr
      obtain ⟨i, _, rfl⟩ := hr
      rw [plcs_len]; exact row R g.lR _
    omega
end Go.Proofs.Ytmplelnodamedaa
/- A part of a graph that is closed solves as the graph does. In plain lists. -/
namespace Go.Proofs.Ytmplelnodamedaa
set_option linter.unusedSimpArgs false

theorem rounds_late (nxt : List (List Nat)) (n : Nat) {m : Nat} (h : n + 1 ≤ m) : rounds nxt n m = fin nxt n := rounds_stop (fin_nil nxt n) m h
section
variable {nxt nxt' : List (List Nat)} {n n' : Nat} {f : Nat → Nat}
theorem iso_rounds (hf : ∀ i, i < n' → f i < n) (hp : ∀ i, i < n' → f i % 2 = i % 2) (hin : ∀ i, i < n' → ∀ k ∈ nxt'.getD i [], k < n') (hx : ∀ i, i < n' → nxt.getD (f i) [] = (nxt'.getD i []).map f) :
    ∀ (t i : Nat), i < n' → (rounds nxt n t).getD (f i) (0, 0) = (rounds nxt' n' t).getD i (0, 0) := by
  intro t
  induction t with
  | zero =>
    intro i hi
    have := hf i hi
    simp [rounds, List.getD_eq_getElem?_getD, hi, this]
  | succ t ih =>
    intro i hi
    have hm : mv (f i) = mv i := by have := hp i hi; unfold mv; omega
    have hw : won (rounds nxt n t) (mv i) ((nxt'.getD i []).map f) = won (rounds nxt' n' t) (mv i) (nxt'.getD i []) := by
      unfold won
      rw [List.any_map, Bool.eq_iff_iff, List.any_eq_true, List.any_eq_true]
      constructor
      · rintro ⟨k, hk, h⟩
        refine ⟨k, hk, ?_⟩
        rw [Function.comp_apply, ih k (hin i hi k hk)] at h
        exact h
      · rintro ⟨k, hk, h⟩
        refine ⟨k, hk, ?_⟩
        rw [Function.comp_apply, ih k (hin i hi k hk)]
        exact h
    have hl : lostAll (rounds nxt n t) (mv i) ((nxt'.getD i []).map f) = lostAll (rounds nxt' n' t) (mv i) (nxt'.getD i []) := by
      unfold lostAll
      rw [List.all_map, Bool.eq_iff_iff, List.all_eq_true, List.all_eq_true]
      constructor
      · intro h k hk
        have h2 := h k hk
        rw [Function.comp_apply, ih k (hin i hi k hk)] at h2
        exact h2
      · intro h k hk
        rw [Function.comp_apply, ih k (hin i hi k hk)]
        exact h k hk
    rw [rounds_succ_at (hf i hi), rounds_succ_at hi, pick1_eq nxt (f i) (wf_rounds nxt n t), pick1_eq nxt' i (wf_rounds nxt' n' t), ih i hi, hx i hi, hm, hw, hl]
    split
    · rfl
    · split
      · rfl
      · split <;> rfl
theorem iso_fin (hn : n' ≤ n) (hf : ∀ i, i < n' → f i < n) (hp : ∀ i, i < n' → f i % 2 = i % 2) (hin : ∀ i, i < n' → ∀ k ∈ nxt'.getD i [], k < n') (hx : ∀ i, i < n' → nxt.getD (f i) [] = (nxt'.getD i []).map f) {i : Nat} (hi : i < n') : (fin nxt n).getD (f i) (0, 0) = (fin nxt' n').getD i (0, 0) := by
  have h := iso_rounds hf hp hin hx (n + 1) i hi
  rw [rounds_late nxt' n' (by omega)] at h
  exact h
end
end Go.Proofs.Ytmplelnodamedaa
/- The pruned loop is good, all of it is reached, and it solves as the loop does. For all good loops, in plain lists. -/
namespace Go.Proofs.Ytmplelnodamedaa
set_option linter.unusedSimpArgs false

theorem idx_mono {W : List Int} (hs : SI W) {x y : Int} (hx : x ∈ W) (hy : y ∈ W) (h : x < y) : W.idxOf x < W.idxOf y := by
  have h1 := List.idxOf_lt_length_iff.2 hx
  have h2 := List.idxOf_lt_length_iff.2 hy
  rcases Nat.lt_or_ge (W.idxOf x) (W.idxOf y) with h3 | h3
  · exact h3
  · exfalso
    have e1 := List.getElem_idxOf h1
    have e2 := List.getElem_idxOf h2
    rcases Nat.eq_or_lt_of_le h3 with h4 | h4
    · have : W[W.idxOf y]'h2 = W[W.idxOf x]'h1 := by congr 1
      omega
    · have := (List.pairwise_iff_getElem.1 hs) _ _ h2 h1 h4
      omega
theorem goodT_plcs {W : List Int} (hs : SI W) {n : Int} : ∀ (ps : List Int) (p q : Int), (∀ y ∈ ps, y ∈ W) → goodT n p ps = true → (∀ y ∈ ps, p < y → q < ((W.idxOf y : Nat) : Int)) → goodT (W.length : Int) q (plcs W ps) = true
  | [], _, _, _, _, _ => rfl
  | y :: ys, p, q, hm, hg, hq => by
    have hy := hm y (by simp)
    have h1 := List.idxOf_lt_length_iff.2 hy
    rw [goodT] at hg
    show goodT (W.length : Int) q (((W.idxOf y : Nat) : Int) :: plcs W ys) = true
    rw [goodT]
    split at hg
    · cases hg
    · rename_i hc
      have hpy : p < y := by omega
      have hqy := hq y (by simp) hpy
      rw [if_neg (by omega)]
      exact goodT_plcs hs ys y _ (fun z hz => hm z (by simp [hz])) hg fun z hz hyz => by
        have := idx_mono hs hy (hm z (by simp [hz])) hyz
        omega
theorem tgt_plcs {W : List Int} (hs : SI W) {n : Int} {ps : List Int} (hm : ∀ y ∈ ps, y ∈ W) (h : tgtOk n ps = true) : tgtOk (W.length : Int) (plcs W ps) = true := by
  have hl := tgtOk_len h
  unfold tgtOk at h ⊢
  rw [if_neg (by omega)] at h
  rw [if_neg (by rw [plcs_len]; omega)]
  exact goodT_plcs hs ps (-1) (-1) hm h fun y hy _ => by omega
theorem pairsOk_all (n : Int) : ∀ (L R : List (List Int)), (∀ r ∈ L, tgtOk n r = true) → (∀ r ∈ R, tgtOk n r = true) → pairsOk n L R = true
  | [], _, _, _ => by unfold pairsOk; rfl
  | _ :: _, [], _, _ => by unfold pairsOk; rfl
  | l :: ls, r :: rs, h1, h2 => by
    rw [pairsOk, if_neg (by rw [h1 l (by simp), h2 r (by simp)]; simp)]
    exact pairsOk_all n ls rs (fun x hx => h1 x (by simp [hx])) (fun x hx => h2 x (by simp [hx]))
theorem goodLp_of {L R : List (List Int)} (h1 : 1 ≤ L.length) (h2 : L.length ≤ 36) (h3 : R.length = L.length) (h4 : ∀ r ∈ L, tgtOk L.length r = true) (h5 : ∀ r ∈ R, tgtOk L.length r = true) : goodLp L R = true := by
  unfold goodLp
  rw [if_neg (by omega)]
  exact pairsOk_all _ L R h4 h5
section
variable {L R : List (List Int)} {a : Int}
/-- What a pruned loop is made of. -/
theorem pr_facts (ho : okAt L R a = true) : IsRch L R a (rch L R a) ∧ (∀ x ∈ rch L R a, 0 ≤ x ∧ x < L.length) ∧ a ∈ rch L R a ∧ (rch L R a).length ≤ L.length ∧ ∀ x ∈ rch L R a, ∀ y ∈ sucI L R x, y ∈ rch L R a := by
  have hb := okAt_good ho
  have g := goodI hb.1
  have har : 0 ≤ a ∧ a < L.length := ⟨hb.2.1, hb.2.2⟩
  have hr : IsRch L R a (rch L R a) := by unfold rch; rw [ho]; exact rchL_is g har
  have hin : ∀ x ∈ rch L R a, 0 ≤ x ∧ x < L.length := fun x hx => reach_in g har ((hr.2 x).1 hx)
  exact ⟨hr, hin, (hr.2 a).2 .base, nodup_len (si_nodup hr.1) hin, fun x hx y hy => (hr.2 y).2 (.step ((hr.2 x).1 hx) hy)⟩
theorem row_mem {M : List (List Int)} {i : Nat} (h : i < M.length) : M.getD i [] ∈ M := by rw [gd h]; exact List.getElem_mem h
theorem pr_good (ho : okAt L R a = true) : goodLp (prA L R a) (prB L R a) = true := by
  obtain ⟨hr, hin, ha, hl, hc⟩ := pr_facts ho
  have hg := goodLp_small (okAt_good ho).1
  have lA : (prA L R a).length = (rch L R a).length := by simp [prA]
  have lB : (prB L R a).length = (rch L R a).length := by simp [prB]
  have h1 : 1 ≤ (rch L R a).length := List.length_pos_of_mem ha
  refine goodLp_of (by omega) (by omega) (by omega) (fun r h => ?_) (fun r h => ?_)
  · rw [lA]
    simp only [prA, List.mem_map] at h
    obtain ⟨i, hi, rfl⟩ := h
    have hb := hin i hi
    exact tgt_plcs hr.1 (fun y hy => hc i hi y (List.mem_append_left _ hy)) (hg.2.2.2.1 _ (row_mem (by omega)))
  · rw [lA]
    simp only [prB, List.mem_map] at h
    obtain ⟨i, hi, rfl⟩ := h
    have hb := hin i hi
    exact tgt_plcs hr.1 (fun y hy => hc i hi y (List.mem_append_right _ hy)) (hg.2.2.2.2 _ (row_mem (by omega)))
theorem pr_at {M : List (List Int)} {W : List Int} {x : Int} (hx : x ∈ W) : (W.map fun i => plcs W (M.getD i.toNat [])).getD (W.idxOf x) [] = plcs W (M.getD x.toNat []) := by
  have h := List.idxOf_lt_length_iff.2 hx
  rw [gd (by simpa using h), List.getElem_map, List.getElem_idxOf h]
theorem pr_reach (ho : okAt L R a = true) : ∀ x, Reach L R a x → Reach (prA L R a) (prB L R a) ((prAt L R a : Nat) : Int) (((rch L R a).idxOf x : Nat) : Int) := by
  obtain ⟨hr, hin, ha, hl, hc⟩ := pr_facts ho
  intro x hx
  induction hx with
  | base => exact .base
  | step h hy ih =>
    rename_i x y
    have hxm := (hr.2 x).2 h
    refine .step ih ?_
    unfold sucI at hy ⊢
    rw [Int.toNat_natCast]
    have e1 : (prA L R a).getD ((rch L R a).idxOf x) [] = plcs (rch L R a) (L.getD x.toNat []) := pr_at hxm
    have e2 : (prB L R a).getD ((rch L R a).idxOf x) [] = plcs (rch L R a) (R.getD x.toNat []) := pr_at hxm
    rw [e1, e2]
    rcases List.mem_append.1 hy with hy | hy
    · exact List.mem_append_left _ (List.mem_map.2 ⟨y, hy, rfl⟩)
    · exact List.mem_append_right _ (List.mem_map.2 ⟨y, hy, rfl⟩)
theorem pr_ok (ho : okAt L R a = true) : okAt (prA L R a) (prB L R a) ((prAt L R a : Nat) : Int) = true := by
  obtain ⟨hr, hin, ha, hl, hc⟩ := pr_facts ho
  have lA : (prA L R a).length = (rch L R a).length := by simp [prA]
  have h := List.idxOf_lt_length_iff.2 ha
  have e : prAt L R a = (rch L R a).idxOf a := rfl
  unfold okAt
  rw [pr_good ho, Bool.true_and, Bool.and_eq_true, decide_eq_true_eq, decide_eq_true_eq]
  omega
/-- All of a pruned loop is reached. -/
theorem pr_all (ho : okAt L R a = true) : (rch (prA L R a) (prB L R a) ((prAt L R a : Nat) : Int)).length = (prA L R a).length := by
  obtain ⟨hr, hin, ha, hl, hc⟩ := pr_facts ho
  have lA : (prA L R a).length = (rch L R a).length := by simp [prA]
  obtain ⟨qr, qin, qa, ql, qc⟩ := pr_facts (pr_ok ho)
  have hm : ∀ k, k < (rch L R a).length → ((k : Nat) : Int) ∈ rch (prA L R a) (prB L R a) ((prAt L R a : Nat) : Int) := fun k hk => by
    have h1 := pr_reach ho _ ((hr.2 _).1 (List.getElem_mem hk))
    rw [(si_nodup hr.1).idxOf_getElem k hk] at h1
    exact (qr.2 _).2 h1
  have h2 : ((List.range (rch L R a).length).map fun k : Nat => (k : Int)).length ≤ (rch (prA L R a) (prB L R a) ((prAt L R a : Nat) : Int)).length := by
    refine List.Nodup.length_le_of_subset ?_ fun x hx => ?_
    · rw [List.Nodup, List.pairwise_map]
      exact List.nodup_range.imp fun h => by omega
    · obtain ⟨k, hk, rfl⟩ := List.mem_map.1 hx
      exact hm k (List.mem_range.1 hk)
  simp only [List.length_map, List.length_range] at h2
  omega
/-- A pruned loop's places solve as the loop's. -/
theorem pr_fin (ho : okAt L R a = true) {i : Nat} (hi : i < 2 * (rch L R a).length) : (finG L R).getD (2 * ((rch L R a).getD (i / 2) 0).toNat + i % 2) (0, 0) = (finG (prA L R a) (prB L R a)).getD i (0, 0) := by
  obtain ⟨hr, hin, ha, hl, hc⟩ := pr_facts ho
  have lA : (prA L R a).length = (rch L R a).length := by simp [prA]
  have hgP := goodN (pr_good ho)
  have halP := nxtOf_alt hgP.inside
  rw [toN_len] at halP
  have hW : ∀ k, k < (rch L R a).length → (rch L R a).getD k 0 = (rch L R a).getD k 0 ∧ (rch L R a).getD k 0 ∈ rch L R a := fun k hk => by
    refine ⟨rfl, ?_⟩
    rw [List.getD_eq_getElem?_getD, List.getElem?_eq_getElem hk]
    exact List.getElem_mem hk
  have hWi : ∀ k (hk : k < (rch L R a).length), (rch L R a).idxOf ((rch L R a).getD k 0) = k := fun k hk => by
    rw [List.getD_eq_getElem?_getD, List.getElem?_eq_getElem hk]
    exact (si_nodup hr.1).idxOf_getElem k hk
  unfold finG
  rw [lA]
  refine iso_fin (nxt := nxtG L R) (nxt' := nxtG (prA L R a) (prB L R a)) (n := 2 * L.length) (n' := 2 * (rch L R a).length) (f := fun i => 2 * ((rch L R a).getD (i / 2) 0).toNat + i % 2) (by omega) (fun j hj => ?_) (fun j hj => ?_) (fun j hj k hk => ?_) (fun j hj => ?_) hi
  · have := hin _ (hW (j / 2) (by omega)).2
    omega
  · omega
  · have := (halP j k hk).1
    rw [lA] at this; exact this
  · have hj2 : j / 2 < (rch L R a).length := by omega
    obtain ⟨_, hm⟩ := hW (j / 2) hj2
    have hb := hin _ hm
    have hcx := hc _ hm
    have hidx := hWi (j / 2) hj2
    generalize (rch L R a).getD (j / 2) 0 = x at *
    have e1 : (prA L R a).getD (j / 2) [] = plcs (rch L R a) (L.getD x.toNat []) := by rw [← hidx]; exact pr_at hm
    have e2 : (prB L R a).getD (j / 2) [] = plcs (rch L R a) (R.getD x.toNat []) := by rw [← hidx]; exact pr_at hm
    have n1 : (nxtG L R).getD (2 * x.toNat + j % 2) [] = if j % 2 = 0 then ((toN L).getD x.toNat []).map (fun y => 2 * y + 1) else ((toN R).getD x.toNat []).map (fun y => 2 * y) := by
      show (nxtTo (toN L) (toN R) (toN L).length).getD _ [] = _
      rw [nxtTo_at _ _ _ _ (by rw [toN_len]; omega), show (2 * x.toNat + j % 2) % 2 = j % 2 by omega, show (2 * x.toNat + j % 2) / 2 = x.toNat by omega]
    have n2 : (nxtG (prA L R a) (prB L R a)).getD j [] = if j % 2 = 0 then ((toN (prA L R a)).getD (j / 2) []).map (fun y => 2 * y + 1) else ((toN (prB L R a)).getD (j / 2) []).map (fun y => 2 * y) := by
      show (nxtTo (toN (prA L R a)) (toN (prB L R a)) (toN (prA L R a)).length).getD _ [] = _
      exact nxtTo_at _ _ _ _ (by rw [toN_len]; omega)
    have key : ∀ y ∈ rch L R a, ((rch L R a).getD ((rch L R a).idxOf y) 0).toNat = y.toNat := fun y hy => by
      have h := List.idxOf_lt_length_iff.2 hy
      rw [List.getD_eq_getElem?_getD, List.getElem?_eq_getElem h]
      simp [List.getElem_idxOf h]
    rw [n1, n2, toN_gd, toN_gd, toN_gd, toN_gd, e1, e2]
    split
    · simp only [plcs, List.map_map]
      refine List.map_congr_left fun y hy => ?_
      have := key y (hcx y (List.mem_append_left _ hy))
      simp only [Function.comp_apply, Int.toNat_natCast]
      rw [show (2 * (rch L R a).idxOf y + 1) / 2 = (rch L R a).idxOf y by omega, this]
      omega
    · simp only [plcs, List.map_map]
      refine List.map_congr_left fun y hy => ?_
      have := key y (hcx y (List.mem_append_right _ hy))
      simp only [Function.comp_apply, Int.toNat_natCast]
      rw [show (2 * (rch L R a).idxOf y) / 2 = (rch L R a).idxOf y by omega, this]
      omega
end
end Go.Proofs.Ytmplelnodamedaa
