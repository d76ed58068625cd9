/- Plain facts of rows: keys that rise, what a key is worth, rows put to their places. No program in sight. -/
import Derived.Test.YtdignmbeiohhiaaPutRw
namespace Go.Proofs.Ytdignmbeiohhiaa
open Eng
set_option linter.unusedSimpArgs false
set_option maxHeartbeats 0
set_option maxRecDepth 100000

def keysOf (l : List Rw) : List (List UInt8) := l.map (·.1)
/-- Strictly rising texts. -/
abbrev SK (l : List (List UInt8)) : Prop := l.Pairwise fun x y => bl x y = true
theorem sk_eq : ∀ (l m : List (List UInt8)), SK l → SK m → (∀ k, k ∈ l ↔ k ∈ m) → l = m
  | [], [], _, _, _ => rfl
  | [], y :: m, _, _, h => absurd ((h y).2 (by simp)) (by simp)
  | x :: l, [], _, _, h => absurd ((h x).1 (by simp)) (by simp)
  | x :: l, y :: m, h1, h2, h => by
    rw [SK, List.pairwise_cons] at h1 h2
    have e : x = y := by
      rcases List.mem_cons.1 ((h x).1 (by simp)) with e | hx
      · exact e
      · rcases List.mem_cons.1 ((h y).2 (by simp)) with e | hy
        · exact e.symm
        · have a1 := h1.1 y hy
          have a2 := h2.1 x hx
          rw [bl_asymm a1] at a2; cases a2
    subst e
    rw [sk_eq l m h1.2 h2.2 fun k => ?_]
    constructor
    · intro hk
      rcases List.mem_cons.1 ((h k).1 (by simp [hk])) with rfl | hm
      · have := h1.1 k hk; rw [bl_irr] at this; cases this
      · exact hm
    · intro hk
      rcases List.mem_cons.1 ((h k).2 (by simp [hk])) with rfl | hm
      · have := h2.1 k hk; rw [bl_irr] at this; cases this
      · exact hm
theorem putRw_sk {r : Rw} {acc : List Rw} (h : SK (keysOf acc)) : SK (keysOf (putRw r acc)) := by
  induction acc with
  | nil => simp [putRw, keysOf, SK]
  | cons q qs ih =>
    simp only [keysOf, List.map_cons, SK, List.pairwise_cons] at h
    have hmem : ∀ x, x ∈ keysOf (putRw r qs) → x = r.1 ∨ x ∈ keysOf qs := by
      intro x hx
      obtain ⟨y, hy, rfl⟩ := List.mem_map.1 hx
      rcases putRw_mem hy with e | hm
      · exact .inl (by rw [e])
      · exact .inr (List.mem_map_of_mem hm)
    simp only [putRw]
    split
    · rename_i h1
      simp only [keysOf, List.map_cons, SK, List.pairwise_cons]
      refine ⟨fun x hx => ?_, ih h.2⟩
      rcases hmem x hx with e | hm
      · rw [e]; exact h1
      · exact h.1 x hm
    · rename_i h1
      split
      · rename_i h2
        simp only [keysOf, List.map_cons, SK, List.pairwise_cons]
        exact ⟨fun x hx => by rw [← h2]; exact h.1 x hx, h.2⟩
      · rename_i h2
        have h3 : bl r.1 q.1 = true := by
          rcases bl_tri q.1 r.1 (by simpa using h1) with e | e
          · exact absurd e h2
          · exact e
        simp only [keysOf, List.map_cons, SK, List.pairwise_cons]
        refine ⟨fun x hx => ?_, h⟩
        rcases List.mem_cons.1 hx with rfl | hx
        · exact h3
        · exact bl_trans h3 (h.1 x hx)
theorem srt_sk {l : List Rw} (h : Srt l) : SK (keysOf l) := by
  rw [SK, keysOf, List.pairwise_map, List.pairwise_iff_getElem]
  intro i j hi hj hij
  exact h i j hj hij
theorem sk_nodup {l : List (List UInt8)} (h : SK l) : l.Nodup := by
  refine List.Pairwise.imp ?_ h
  intro a b h e
  subst e
  rw [bl_irr] at h; cases h
theorem wrth_none {l : List Rw} {key : List UInt8} : wrth l key = none → ∀ r ∈ l, r.1 ≠ key := by
  have h : ∀ (m : List Rw) (k : Nat), fndFrom key k m < 0 → ∀ r ∈ m, r.1 ≠ key := by
    intro m
    induction m with
    | nil => simp
    | cons r m ih =>
      intro k hk q hq
      rw [fndFrom] at hk
      split at hk
      · omega
      · rename_i hne
        rcases List.mem_cons.1 hq with rfl | hq
        · exact hne
        · exact ih _ hk q hq
  intro hw
  have hb := fnd_bounds l key
  unfold wrth at hw
  split at hw
  · rename_i hlt
    exact h l 0 hlt
  · rename_i hn
    rw [List.getElem?_eq_getElem (by omega)] at hw
    cases hw
theorem fndFrom_some {key : List UInt8} : ∀ (m : List Rw) (k n : Nat), fndFrom key k m = (n : Int) → ∃ j, ∃ h : j < m.length, n = k + j ∧ m[j].1 = key
  | [], k, n, h => by rw [fndFrom] at h; omega
  | r :: m, k, n, h => by
    rw [fndFrom] at h
    split at h
    · rename_i he; exact ⟨0, by simp, by omega, he⟩
    · obtain ⟨j, hj, h1, h2⟩ := fndFrom_some m (k + 1) n h
      exact ⟨j + 1, by simpa using hj, by omega, by simpa using h2⟩
theorem wrth_some {l : List Rw} {key w : List UInt8} (h : wrth l key = some w) : ∃ r ∈ l, r.1 = key ∧ r.2 = w := by
  have hb := fnd_bounds l key
  unfold wrth at h
  split at h
  · cases h
  · rename_i hn
    obtain ⟨n, hv⟩ := Int.eq_ofNat_of_zero_le (show 0 ≤ fnd l key by omega)
    obtain ⟨j, hj, h1, h2⟩ := fndFrom_some l 0 n hv
    have hnj : n = j := by omega
    subst hnj
    rw [hv, Int.toNat_natCast, List.getElem?_eq_getElem hj] at h
    exact ⟨l[n], List.getElem_mem _, h2, by simpa using h⟩
theorem srt_inj {l : List Rw} (h : Srt l) {r q : Rw} (hr : r ∈ l) (hq : q ∈ l) (e : r.1 = q.1) : r = q := by
  obtain ⟨i, hi, rfl⟩ := List.getElem_of_mem hr
  obtain ⟨j, hj, rfl⟩ := List.getElem_of_mem hq
  rcases Nat.lt_trichotomy i j with h1 | h1 | h1
  · have := h i j hj h1; rw [e, bl_irr] at this; cases this
  · subst h1; rfl
  · have := h j i hi h1; rw [e, bl_irr] at this; cases this
theorem wrth_of_mem {l : List Rw} (h : Srt l) {r : Rw} (hr : r ∈ l) : wrth l r.1 = some r.2 := by
  cases hw : wrth l r.1 with
  | none => exact absurd rfl (wrth_none hw r hr)
  | some w =>
    obtain ⟨q, hq, h1, h2⟩ := wrth_some hw
    rw [srt_inj h hq hr h1] at h2
    rw [h2]
theorem unl_mem (b : List Rw) (alone : Bool) (l : List Rw) (k : List UInt8) : k ∈ unl b alone l ↔ ∃ r ∈ l, r.1 = k ∧ unlC b alone r = true := by
  induction l with
  | nil => simp [unl]
  | cons r rs ih =>
    rw [unl]
    split
    · rename_i h
      rw [List.mem_cons, ih]
      constructor
      · rintro (e | ⟨q, hq, h2⟩)
        · exact ⟨r, by simp, e.symm, h⟩
        · exact ⟨q, by simp [hq], h2⟩
      · rintro ⟨q, hq, h2, h3⟩
        rcases List.mem_cons.1 hq with rfl | hq
        · exact .inl h2.symm
        · exact .inr ⟨q, hq, h2, h3⟩
    · rename_i h
      rw [ih]
      constructor
      · rintro ⟨q, hq, h2⟩
        exact ⟨q, by simp [hq], h2⟩
      · rintro ⟨q, hq, h2, h3⟩
        rcases List.mem_cons.1 hq with rfl | hq
        · exact absurd h3 h
        · exact ⟨q, hq, h2, h3⟩
theorem fnd_neg {l : List Rw} {key : List UInt8} : fnd l key < 0 ↔ wrth l key = none := by
  have hb := fnd_bounds l key
  unfold wrth
  by_cases h : fnd l key < 0
  · rw [if_pos h]; simp [h]
  · rw [if_neg h, List.getElem?_eq_getElem (by omega)]; simp [h]
theorem unl_sub (b : List Rw) (alone : Bool) (l : List Rw) : (unl b alone l).Sublist (keysOf l) := by
  induction l with
  | nil => simp [unl, keysOf]
  | cons r rs ih =>
    rw [unl, keysOf, List.map_cons]
    split
    · exact ih.cons_cons _
    · exact ih.cons _
end Go.Proofs.Ytdignmbeiohhiaa
