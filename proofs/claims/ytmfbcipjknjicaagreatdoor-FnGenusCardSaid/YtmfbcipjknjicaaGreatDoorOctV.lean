/- Values of heaps of an octal game, in plain lists; how they are bounded. -/
import Derived.Test.YtmfbcipjknjicaaGreatDoorMisP
namespace Go.Proofs.YtmfbcipjknjicaaGreatDoor
set_option linter.unusedSectionVars false
variable [One Bool]
set_option linter.unusedSimpArgs false
set_option linter.unusedVariables false

theorem xor_le_add : ∀ (n a b : Nat), a ≤ n → a ^^^ b ≤ a + b
  | 0, a, b, h => by
    have : a = 0 := by omega
    subst this; simp
  | n + 1, a, b, h => by
    by_cases h0 : a = 0
    · subst h0; simp
    · have ih := xor_le_add n (a / 2) (b / 2) (by omega)
      have h1 : (a ^^^ b) / 2 = a / 2 ^^^ b / 2 := Nat.xor_div_two
      have h2 : (a ^^^ b) % 2 = (a + b) % 2 := by
        have h3 := @Nat.xor_mod_two_eq_one a b
        have h4 := Nat.mod_two_eq_zero_or_one (a ^^^ b)
        omega
      omega
def xorV (v : List Nat) (m : List Int) : Nat := m.foldl (fun x h => x ^^^ v.getD h.toNat 0) 0
def gvL (c : List Int) : Nat → List Nat
  | 0 => []
  | n + 1 => gvL c n ++ [mexL ((rawT c n c.length).map fun m => ((xorV (gvL c n) m : Nat) : Int))]
theorem gvL_len (c : List Int) : ∀ n, (gvL c n).length = n
  | 0 => rfl
  | n + 1 => by rw [gvL, List.length_append, gvL_len c n]; rfl
def gv (c : List Int) (n : Nat) : Nat := (gvL c (n + 1)).getD n 0
theorem gvL_at (c : List Int) {i : Nat} : ∀ {n : Nat}, i < n → (gvL c n).getD i 0 = gv c i
  | n + 1, h => by
    by_cases e : i = n
    · subst e; rfl
    · have := gvL_at c (i := i) (n := n) (by omega)
      rw [gvL, List.getD_eq_getElem?_getD, List.getElem?_append_left (by rw [gvL_len]; omega), ← List.getD_eq_getElem?_getD, this]
def xorG (c : List Int) (m : List Int) : Nat := m.foldl (fun x h => x ^^^ gv c h.toNat) 0
theorem rawT_mem {c : List Int} {n : Int} {k : Nat} {m : List Int} (h : m ∈ rawT c n k) : (∀ x ∈ m, 0 < x) ∧ 0 ≤ m.sum ∧ m.sum < n ∧ m.length ≤ 2 := by
  rw [rawT] at h
  obtain ⟨j, _, hj⟩ := List.mem_flatMap.1 h
  exact mvAt_mem hj
theorem xorV_G {c : List Int} {n : Nat} {m : List Int} (h : ∀ x ∈ m, 0 < x ∧ x < n) : xorV (gvL c n) m = xorG c m := by
  unfold xorV xorG
  have key : ∀ z, m.foldl (fun x h => x ^^^ (gvL c n).getD h.toNat 0) z = m.foldl (fun x h => x ^^^ gv c h.toNat) z := ?_
  · exact key 0
  intro z
  induction m generalizing z with
  | nil => rfl
  | cons x xs ih =>
    have hx := h x (by simp)
    rw [List.foldl_cons, List.foldl_cons, gvL_at c (by omega), ih fun y hy => h y (by simp [hy])]
theorem raw_lt {c : List Int} {n : Int} {k : Nat} {m : List Int} (h : m ∈ rawT c n k) : ∀ x ∈ m, 0 < x ∧ x < n := fun x hx => by
  obtain ⟨h1, h2, h3, h4⟩ := rawT_mem h
  have := (sum_nn h1).2 x hx
  exact ⟨h1 x hx, by omega⟩
theorem gv_eq (c : List Int) (n : Nat) : gv c n = mexL ((rawT c n c.length).map fun m => ((xorG c m : Nat) : Int)) := by
  rw [gv, gvL, List.getD_eq_getElem?_getD, List.getElem?_append_right (by rw [gvL_len]; omega), gvL_len, Nat.sub_self]
  simp only [List.getElem?_cons_zero, Option.getD_some]
  congr 1
  apply List.map_congr_left
  intro m hm
  rw [xorV_G (raw_lt hm)]
theorem gv_below {c : List Int} {n j : Nat} (h : j < gv c n) : ∃ m ∈ rawT c n c.length, xorG c m = j := by
  rw [gv_eq] at h
  obtain ⟨m, hm, e⟩ := List.mem_map.1 (mexL_below _ j h)
  exact ⟨m, hm, by omega⟩
theorem raw_cases {c : List Int} {n k : Nat} {m : List Int} (h : m ∈ rawT c n k) : m = [] ∨ (∃ r : Nat, m = [(r : Int)] ∧ r < n) ∨ ∃ a b : Nat, m = [(a : Int), (b : Int)] ∧ a + b < n := by
  obtain ⟨h1, h2, h3, h4⟩ := rawT_mem h
  match m, h1, h2, h3, h4 with
  | [], _, _, _, _ => exact .inl rfl
  | [x], h1, _, h3, _ =>
    have := h1 x (by simp)
    refine .inr (.inl ⟨x.toNat, by rw [Int.toNat_of_nonneg (by omega)], ?_⟩)
    simp at h3; omega
  | [x, y], h1, _, h3, _ =>
    have hx := h1 x (by simp)
    have hy := h1 y (by simp)
    refine .inr (.inr ⟨x.toNat, y.toNat, by rw [Int.toNat_of_nonneg (by omega), Int.toNat_of_nonneg (by omega)], ?_⟩)
    simp at h3; omega
  | _ :: _ :: _ :: _, _, _, _, h4 => simp only [List.length_cons] at h4; omega
theorem xorG_one (c : List Int) (r : Nat) : xorG c [(r : Int)] = gv c r := by simp [xorG]
theorem xorG_two (c : List Int) (a b : Nat) : xorG c [(a : Int), (b : Int)] = gv c a ^^^ gv c b := by simp [xorG]
theorem gv_le (c : List Int) : ∀ n, gv c n ≤ n := by
  intro n
  induction n using Nat.strongRecOn with
  | _ n ih =>
    apply Classical.byContradiction
    intro hn
    obtain ⟨m, hm, e⟩ := gv_below (c := c) (n := n) (j := n) (by omega)
    rcases raw_cases hm with rfl | ⟨r, rfl, hr⟩ | ⟨a, b, rfl, hab⟩
    · simp [xorG] at e
      subst e
      have := rawT_mem hm
      simp at this
    · rw [xorG_one] at e
      have := ih r hr; omega
    · rw [xorG_two] at e
      have h1 := ih a (by omega)
      have h2 := ih b (by omega)
      have := xor_le_add _ (gv c a) (gv c b) (Nat.le_refl _)
      omega
theorem gv_double {c : List Int} {N t : Nat} (h : ∀ a, a < N → gv c a < 2 ^ t) (hN : 2 ^ t ≤ N) : ∀ n, n < N + 2 ^ t → gv c n < 2 ^ (t + 1) := by
  have key : ∀ n, N ≤ n → n < N + 2 ^ t → gv c n ≤ 2 ^ t + (n - N) := by
    intro n
    induction n using Nat.strongRecOn with
    | _ n ih =>
      intro h1 h2
      apply Classical.byContradiction
      intro hn
      obtain ⟨m, hm, e⟩ := gv_below (c := c) (n := n) (j := 2 ^ t + (n - N)) (by omega)
      have hp : 0 < 2 ^ t := Nat.two_pow_pos t
      rcases raw_cases hm with rfl | ⟨r, rfl, hr⟩ | ⟨a, b, rfl, hab⟩
      · simp [xorG] at e; omega
      · rw [xorG_one] at e
        by_cases hrN : r < N
        · have := h r hrN; omega
        · have := ih r hr (by omega) (by omega); omega
      · rw [xorG_two] at e
        have hx := xor_le_add _ (gv c a) (gv c b) (Nat.le_refl _)
        by_cases haN : a < N
        · by_cases hbN : b < N
          · have := Nat.xor_lt_two_pow (h a haN) (h b hbN); omega
          · have h3 := ih b (by omega) (by omega) (by omega)
            have h4 := gv_le c a
            omega
        · by_cases hbN : b < N
          · have h3 := ih a (by omega) (by omega) (by omega)
            have h4 := gv_le c b
            omega
          · omega
  intro n hn
  rw [Nat.pow_succ]
  by_cases hnN : n < N
  · have := h n hnN; omega
  · have := key n (by omega) hn; omega
end Go.Proofs.YtmfbcipjknjicaaGreatDoor
