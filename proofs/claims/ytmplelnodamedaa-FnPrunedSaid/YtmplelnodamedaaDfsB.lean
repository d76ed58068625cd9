/- Going through a graph in depth: what stays so in all cases, whether it comes through or not; numbers stay small. In plain lists. -/
import Derived.Test.YtmplelnodamedaaDfs
namespace Go.Proofs.Ytmplelnodamedaa
set_option linter.unusedSimpArgs false

def stepD (v : DS → Nat → Bool × DS) (s : Nat) (q : DS) (k : Nat) : Bool × DS := if q.1.getD k 0 = 1 then (false, q) else if q.1.getD k 0 = 0 then (if (v q k).1 then (true, ((v q k).2.1, (v q k).2.2.set s (max ((v q k).2.2.getD s 0) ((v q k).2.2.getD k 0 + 1)))) else (false, (v q k).2)) else (true, (q.1, q.2.set s (max (q.2.getD s 0) (q.2.getD k 0 + 1))))
theorem goD_cons {v s k ks q} : goD v s (k :: ks) q = if (stepD v s q k).1 then goD v s ks (stepD v s q k).2 else stepD v s q k := by
  rw [goD]
  unfold stepD
  by_cases h1 : q.1.getD k 0 = 1
  · simp only [if_pos h1, Bool.false_eq_true, if_false]
  · by_cases h2 : q.1.getD k 0 = 0
    · by_cases h3 : (v q k).1 = true
      · simp only [if_neg h1, if_pos h2, if_pos h3, if_true]
      · simp only [if_neg h1, if_pos h2, if_neg h3, Bool.false_eq_true, if_false]
    · simp only [if_neg h1, if_neg h2, if_true]
/-- How many states are done. -/
def cbk (q : DS) : Nat := q.1.countP fun x => decide (x = 2)
theorem cb_set {l : List Nat} {s x : Nat} (h : s < l.length) : (l.set s x).countP (fun y => decide (y = 2)) + (if l.getD s 0 = 2 then 1 else 0) = l.countP (fun y => decide (y = 2)) + (if x = 2 then 1 else 0) := by
  rw [List.countP_set h, gd h]
  by_cases h0 : l[s] = 2
  · have hp : 0 < l.countP fun y => decide (y = 2) := List.countP_pos_iff.2 ⟨_, List.getElem_mem h, by simp [h0]⟩
    simp only [h0, decide_true, if_true]
    by_cases hx : x = 2 <;> simp [hx] <;> omega
  · by_cases hx : x = 2 <;> simp [h0, hx]
def DBd (q : DS) : Prop := ∀ b, q.2.getD b 0 ≤ cbk q ∧ (q.1.getD b 0 = 2 → q.2.getD b 0 < cbk q)
structure Wk (n : Nat) (q q' : DS) : Prop where
  l1 : q'.1.length = n
  l2 : q'.2.length = n
  keep : ∀ x, q.1.getD x 0 ≠ 0 → q'.1.getD x 0 = q.1.getD x 0
  less : wz q' ≤ wz q
  bd : DBd q'
  two : ∀ x, q.1.getD x 0 ≤ 2 → q'.1.getD x 0 ≤ 2
theorem Wk.trans {n q q' q''} (h : Wk n q q') (h2 : Wk n q' q'') : Wk n q q'' :=
  ⟨h2.l1, h2.l2, fun x hx => by rw [h2.keep x (by rw [h.keep x hx]; exact hx)]; exact h.keep x hx, Nat.le_trans h2.less h.less, h2.bd, fun x hx => h2.two x (h.two x hx)⟩
theorem Wk.refl {n} {q : DS} (h1 : q.1.length = n) (h2 : q.2.length = n) (h3 : DBd q) : Wk n q q := ⟨h1, h2, fun _ _ => rfl, Nat.le_refl _, h3, fun _ h => h⟩
def VWk (n : Nat) (v : DS → Nat → Bool × DS) (f : Nat) : Prop := ∀ q s, s < n → q.1.getD s 0 = 0 → wz q ≤ f → q.1.length = n → q.2.length = n → DBd q → (∀ k, q.1.getD k 0 ≤ 2) → Wk n q (v q s).2 ∧ ((v q s).1 = true → (v q s).2.1.getD s 0 = 2)
theorem cbk_le {q : DS} : cbk q ≤ q.1.length := List.countP_le_length
theorem grow {n} {q : DS} {s k : Nat} (hs : s < n) (h1 : q.1.length = n) (h2 : q.2.length = n) (h3 : DBd q) (hs1 : q.1.getD s 0 = 1) (hk : q.2.getD k 0 < cbk q) : Wk n q (q.1, q.2.set s (max (q.2.getD s 0) (q.2.getD k 0 + 1))) := by
  refine ⟨h1, by simpa using h2, fun _ _ => rfl, Nat.le_refl _, fun b => ?_, fun _ h => h⟩
  show (q.2.set s _).getD b 0 ≤ cbk q ∧ (q.1.getD b 0 = 2 → (q.2.set s _).getD b 0 < cbk q)
  rw [gd_set]
  split
  · rename_i hb
    rw [← hb.1, hs1]
    have := (h3 s).1
    exact ⟨by omega, by omega⟩
  · exact h3 b
theorem stepD_wk {n v f s} {q : DS} {k} (hv : VWk n v f) (hs : s < n) (hk : k < n) (hf : wz q ≤ f) (h1 : q.1.length = n) (h2 : q.2.length = n) (h3 : DBd q) (hs1 : q.1.getD s 0 = 1) (hle : ∀ k, q.1.getD k 0 ≤ 2) : Wk n q (stepD v s q k).2 := by
  unfold stepD
  by_cases c1 : q.1.getD k 0 = 1
  · rw [if_pos c1]; exact .refl h1 h2 h3
  · rw [if_neg c1]
    by_cases c2 : q.1.getD k 0 = 0
    · rw [if_pos c2]
      obtain ⟨a1, a2⟩ := hv q k hk c2 hf h1 h2 h3 hle
      by_cases c3 : (v q k).1 = true
      · rw [if_pos c3]
        exact a1.trans (grow hs a1.l1 a1.l2 a1.bd (by rw [a1.keep s (by omega)]; exact hs1) ((a1.bd k).2 (a2 c3)))
      · rw [if_neg c3]; exact a1
    · rw [if_neg c2]
      exact grow hs h1 h2 h3 hs1 ((h3 k).2 (by have := hle k; omega))
theorem goD_wk {n v f s} (hv : VWk n v f) (hs : s < n) : ∀ (ks : List Nat) (q : DS), (∀ k ∈ ks, k < n) → wz q ≤ f → q.1.length = n → q.2.length = n → DBd q → q.1.getD s 0 = 1 → (∀ k, q.1.getD k 0 ≤ 2) → Wk n q (goD v s ks q).2 := by
  intro ks
  induction ks with
  | nil => intro q _ _ h1 h2 h3 _ _; exact .refl h1 h2 h3
  | cons k ks ih =>
    intro q hk hf h1 h2 h3 hs1 hle
    have w := stepD_wk hv hs (hk k (by simp)) hf h1 h2 h3 hs1 hle
    rw [goD_cons]
    split
    · exact w.trans (ih _ (fun x hx => hk x (by simp [hx])) (Nat.le_trans w.less hf) w.l1 w.l2 w.bd (by rw [w.keep s (by omega)]; exact hs1) (fun x => w.two x (hle x)))
    · exact w
/-- A state is marked as seen. -/
theorem mark1 {n} {q : DS} {s : Nat} (hs : s < n) (h1 : q.1.length = n) (h0 : q.1.getD s 0 = 0) (h3 : DBd q) : DBd (q.1.set s 1, q.2) ∧ wz (q.1.set s 1, q.2) + 1 = wz q ∧ (q.1.set s 1).getD s 0 = 1 := by
  have hsl : s < q.1.length := by omega
  have hw := wz_set hsl (show 1 ≠ 0 by omega)
  have hc := cb_set (x := 1) hsl
  rw [if_pos h0] at hw
  rw [if_neg (by omega), if_neg (by omega)] at hc
  refine ⟨fun b => ?_, hw, by rw [gd_set, if_pos ⟨rfl, hsl⟩]⟩
  show q.2.getD b 0 ≤ (q.1.set s 1).countP _ ∧ ((q.1.set s 1).getD b 0 = 2 → q.2.getD b 0 < (q.1.set s 1).countP _)
  have := h3 b
  unfold cbk at this
  rw [gd_set]
  split
  · omega
  · rw [show (q.1.set s 1).countP (fun x => decide (x = 2)) = q.1.countP fun x => decide (x = 2) by omega]; exact this
theorem mark2 {n} {q : DS} {s : Nat} (hs : s < n) (h1 : q.1.length = n) (h2 : q.2.length = n) (h0 : q.1.getD s 0 = 1) (h3 : DBd q) : DBd (q.1.set s 2, q.2) ∧ wz (q.1.set s 2, q.2) = wz q := by
  have hsl : s < q.1.length := by omega
  have hw := wz_set hsl (show 2 ≠ 0 by omega)
  have hc := cb_set (x := 2) hsl
  rw [if_neg (by omega)] at hw
  rw [if_neg (by omega), if_pos rfl] at hc
  refine ⟨fun b => ?_, hw⟩
  show q.2.getD b 0 ≤ (q.1.set s 2).countP _ ∧ ((q.1.set s 2).getD b 0 = 2 → q.2.getD b 0 < (q.1.set s 2).countP _)
  have := (h3 b).1
  unfold cbk at this
  exact ⟨by omega, fun _ => by omega⟩
theorem visD_wk {nxt n} (hin : In nxt n) : ∀ f, VWk n (visD nxt f) f := by
  intro f
  induction f with
  | zero =>
    intro q s hs h0 hz h1 _ _ _
    exfalso
    have : 0 < wz q := List.countP_pos_iff.2 ⟨q.1[s]'(by omega), List.getElem_mem _, by rw [← gd (d := 0), h0]; rfl⟩
    omega
  | succ f ih =>
    intro q s hs h0 hz h1 h2 h3 hle
    obtain ⟨b1, b2, b3⟩ := mark1 hs h1 h0 h3
    have hp1 : ∀ x, x ≠ s → (q.1.set s 1).getD x 0 = q.1.getD x 0 := fun x e => by rw [gd_set, if_neg (fun h => e h.1.symm)]
    have hle1 : ∀ x, (q.1.set s 1).getD x 0 ≤ 2 := fun x => by
      by_cases e : x = s
      · rw [e, b3]; omega
      · rw [hp1 x e]; exact hle x
    have w := goD_wk ih hs (nxt.getD s []) (q.1.set s 1, q.2) (hin s) (by omega) (by simpa using h1) h2 b1 b3 hle1
    rw [visD]
    generalize goD (visD nxt f) s (nxt.getD s []) (q.1.set s 1, q.2) = r at *
    have ws : r.2.1.getD s 0 = 1 := by rw [w.keep s (by show (q.1.set s 1).getD s 0 ≠ 0; omega)]; exact b3
    have k1 : ∀ x, q.1.getD x 0 ≠ 0 → r.2.1.getD x 0 = q.1.getD x 0 := fun x hx => by
      have e : x ≠ s := fun e => hx (by rw [e]; exact h0)
      have e2 := hp1 x e
      rw [w.keep x (by show (q.1.set s 1).getD x 0 ≠ 0; omega)]; exact e2
    have k2 : wz r.2 ≤ wz q := by have := w.less; omega
    have k3 : ∀ x, r.2.1.getD x 0 ≤ 2 := fun x => w.two x (hle1 x)
    by_cases c : r.1 = true
    · rw [if_pos c]
      obtain ⟨c1, c2⟩ := mark2 (q := r.2) hs w.l1 w.l2 ws w.bd
      have hp2 : ∀ x, x ≠ s → (r.2.1.set s 2).getD x 0 = r.2.1.getD x 0 := fun x e => by rw [gd_set, if_neg (fun h => e h.1.symm)]
      have hp3 : (r.2.1.set s 2).getD s 0 = 2 := by rw [gd_set, if_pos ⟨rfl, by rw [w.l1]; exact hs⟩]
      refine ⟨⟨by simpa using w.l1, w.l2, fun x hx => ?_, by show wz (r.2.1.set s 2, r.2.2) ≤ wz q; rw [show ((r.2.1.set s 2, r.2.2) : DS) = (r.2.1.set s 2, r.2.2) from rfl, c2]; exact k2, c1, fun x _ => ?_⟩, fun _ => hp3⟩
      · have e : x ≠ s := fun e => hx (by rw [e]; exact h0)
        show (r.2.1.set s 2).getD x 0 = _
        rw [hp2 x e, k1 x hx]
      · show (r.2.1.set s 2).getD x 0 ≤ 2
        by_cases e : x = s
        · rw [e, hp3]; omega
        · rw [hp2 x e]; exact k3 x
    · rw [if_neg c]
      exact ⟨⟨w.l1, w.l2, k1, k2, w.bd, fun x _ => k3 x⟩, fun h => by simp at h⟩
end Go.Proofs.Ytmplelnodamedaa
