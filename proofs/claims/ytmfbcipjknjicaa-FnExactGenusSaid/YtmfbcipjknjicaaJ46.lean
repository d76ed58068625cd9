/- Pieces of the check of all codes. In plain numbers. -/
import Derived.Test.YtmfbcipjknjicaaOctE
namespace Go.Proofs.Ytmfbcipjknjicaa
set_option maxRecDepth 100000
theorem octk_13_0 : chkC 13 0 6 108 = true := by decide +kernel
theorem octk_13_4 : chkC 13 4 6 108 = true := by decide +kernel
theorem octk_13_8 : chkC 13 8 6 108 = true := by decide +kernel
theorem octk_13_12 : chkC 13 12 6 108 = true := by decide +kernel
theorem octk_13_16 : chkC 13 16 6 108 = true := by decide +kernel
theorem octk_13_20 : chkC 13 20 6 108 = true := by decide +kernel
theorem octk_13_25 : chkC 13 25 6 108 = true := by decide +kernel
theorem octk_13_31 : chkC 13 31 6 108 = true := by decide +kernel
end Go.Proofs.Ytmfbcipjknjicaa
/- Pieces of the check of all codes. In plain numbers. -/
namespace Go.Proofs.Ytmfbcipjknjicaa
set_option maxRecDepth 100000
theorem octk_13_1 : chkC 13 1 6 108 = true := by decide +kernel
theorem octk_13_5 : chkC 13 5 6 108 = true := by decide +kernel
theorem octk_13_9 : chkC 13 9 6 108 = true := by decide +kernel
theorem octk_13_13 : chkC 13 13 6 108 = true := by decide +kernel
theorem octk_13_17 : chkC 13 17 6 108 = true := by decide +kernel
theorem octk_13_21 : chkC 13 21 6 108 = true := by decide +kernel
theorem octk_13_26 : chkC 13 26 6 108 = true := by decide +kernel
theorem octk_12_46 : chkC 12 46 6 108 = true := by decide +kernel
end Go.Proofs.Ytmfbcipjknjicaa
/- Pieces of the check of all codes. In plain numbers. -/
namespace Go.Proofs.Ytmfbcipjknjicaa
set_option maxRecDepth 100000
theorem octk_13_2 : chkC 13 2 6 108 = true := by decide +kernel
theorem octk_13_6 : chkC 13 6 6 108 = true := by decide +kernel
theorem octk_13_10 : chkC 13 10 6 108 = true := by decide +kernel
theorem octk_13_14 : chkC 13 14 6 108 = true := by decide +kernel
theorem octk_13_18 : chkC 13 18 6 108 = true := by decide +kernel
theorem octk_13_22 : chkC 13 22 6 108 = true := by decide +kernel
theorem octk_13_28 : chkC 13 28 6 108 = true := by decide +kernel
theorem octk_12_54 : chkC 12 54 6 108 = true := by decide +kernel
end Go.Proofs.Ytmfbcipjknjicaa
/- Pieces of the check of all codes. In plain numbers. -/
namespace Go.Proofs.Ytmfbcipjknjicaa
set_option maxRecDepth 100000
theorem octk_13_3 : chkC 13 3 6 108 = true := by decide +kernel
theorem octk_13_7 : chkC 13 7 6 108 = true := by decide +kernel
theorem octk_13_11 : chkC 13 11 6 108 = true := by decide +kernel
theorem octk_13_15 : chkC 13 15 6 108 = true := by decide +kernel
theorem octk_13_19 : chkC 13 19 6 108 = true := by decide +kernel
theorem octk_13_24 : chkC 13 24 6 108 = true := by decide +kernel
theorem octk_13_29 : chkC 13 29 6 108 = true := by decide +kernel
theorem octk_12_60 : chkC 12 60 6 108 = true := by decide +kernel
end Go.Proofs.Ytmfbcipjknjicaa
/- Pieces of the check of all codes. In plain numbers. -/
namespace Go.Proofs.Ytmfbcipjknjicaa
set_option maxRecDepth 100000
theorem octk_11_94 : chkC 11 94 7 172 = true := by decide +kernel
theorem octk_11_110 : chkC 11 110 7 172 = true := by decide +kernel
theorem octk_11_122 : chkC 11 122 7 172 = true := by decide +kernel
end Go.Proofs.Ytmfbcipjknjicaa
/- Pieces of the check of all codes. In plain numbers. -/
namespace Go.Proofs.Ytmfbcipjknjicaa
set_option maxRecDepth 100000
theorem octk_11_95 : chkC 11 95 7 172 = true := by decide +kernel
theorem octk_11_111 : chkC 11 111 7 172 = true := by decide +kernel
theorem octk_11_123 : chkC 11 123 7 172 = true := by decide +kernel
end Go.Proofs.Ytmfbcipjknjicaa
/- The check of all codes, joined. In plain numbers. -/
namespace Go.Proofs.Ytmfbcipjknjicaa
theorem chk6 (h : Nat) (hh : h < 64) (hn : h ≠ 47 ∧ h ≠ 55 ∧ h ≠ 61) (k : Nat) (hk : k / 2 ^ 12 = h) : ∀ a, a < 109 → gv (codN k) a < 2 ^ 6 := by
  have hs : h = 46 ∨ h = 54 ∨ h = 60 ∨ h / 2 = 0 ∨ h / 2 = 1 ∨ h / 2 = 2 ∨ h / 2 = 3 ∨ h / 2 = 4 ∨ h / 2 = 5 ∨ h / 2 = 6 ∨ h / 2 = 7 ∨ h / 2 = 8 ∨ h / 2 = 9 ∨ h / 2 = 10 ∨ h / 2 = 11 ∨ h / 2 = 12 ∨ h / 2 = 13 ∨ h / 2 = 14 ∨ h / 2 = 15 ∨ h / 2 = 16 ∨ h / 2 = 17 ∨ h / 2 = 18 ∨ h / 2 = 19 ∨ h / 2 = 20 ∨ h / 2 = 21 ∨ h / 2 = 22 ∨ h / 2 = 24 ∨ h / 2 = 25 ∨ h / 2 = 26 ∨ h / 2 = 28 ∨ h / 2 = 29 ∨ h / 2 = 31 := by omega
  rcases hs with hs | hs | hs | hs | hs | hs | hs | hs | hs | hs | hs | hs | hs | hs | hs | hs | hs | hs | hs | hs | hs | hs | hs | hs | hs | hs | hs | hs | hs | hs | hs | hs
  · exact chkC_ok octk_12_46 k (by omega)
  · exact chkC_ok octk_12_54 k (by omega)
  · exact chkC_ok octk_12_60 k (by omega)
  · exact chkC_ok octk_13_0 k (by omega)
  · exact chkC_ok octk_13_1 k (by omega)
  · exact chkC_ok octk_13_2 k (by omega)
  · exact chkC_ok octk_13_3 k (by omega)
  · exact chkC_ok octk_13_4 k (by omega)
  · exact chkC_ok octk_13_5 k (by omega)
  · exact chkC_ok octk_13_6 k (by omega)
  · exact chkC_ok octk_13_7 k (by omega)
  · exact chkC_ok octk_13_8 k (by omega)
  · exact chkC_ok octk_13_9 k (by omega)
  · exact chkC_ok octk_13_10 k (by omega)
  · exact chkC_ok octk_13_11 k (by omega)
  · exact chkC_ok octk_13_12 k (by omega)
  · exact chkC_ok octk_13_13 k (by omega)
  · exact chkC_ok octk_13_14 k (by omega)
  · exact chkC_ok octk_13_15 k (by omega)
  · exact chkC_ok octk_13_16 k (by omega)
  · exact chkC_ok octk_13_17 k (by omega)
  · exact chkC_ok octk_13_18 k (by omega)
  · exact chkC_ok octk_13_19 k (by omega)
  · exact chkC_ok octk_13_20 k (by omega)
  · exact chkC_ok octk_13_21 k (by omega)
  · exact chkC_ok octk_13_22 k (by omega)
  · exact chkC_ok octk_13_24 k (by omega)
  · exact chkC_ok octk_13_25 k (by omega)
  · exact chkC_ok octk_13_26 k (by omega)
  · exact chkC_ok octk_13_28 k (by omega)
  · exact chkC_ok octk_13_29 k (by omega)
  · exact chkC_ok octk_13_31 k (by omega)
theorem chk7 (h : Nat) (hh : h = 94 ∨ h = 95 ∨ h = 110 ∨ h = 111 ∨ h = 122 ∨ h = 123) (k : Nat) (hk : k / 2 ^ 11 = h) : ∀ a, a < 173 → gv (codN k) a < 2 ^ 7 := by
  rcases hh with rfl | rfl | rfl | rfl | rfl | rfl
  · exact chkC_ok octk_11_94 k hk
  · exact chkC_ok octk_11_95 k hk
  · exact chkC_ok octk_11_110 k hk
  · exact chkC_ok octk_11_111 k hk
  · exact chkC_ok octk_11_122 k hk
  · exact chkC_ok octk_11_123 k hk
end Go.Proofs.Ytmfbcipjknjicaa
/- No code has a heap of up to 300 with a value above 255. In plain numbers. -/
namespace Go.Proofs.Ytmfbcipjknjicaa
set_option linter.unusedSimpArgs false
set_option linter.unusedVariables false

/-- A number with given bits. -/
def bitsN (f : Nat → Bool) : Nat → Nat
  | 0 => 0
  | n + 1 => 2 ^ n * (if f n then 1 else 0) + bitsN f n
theorem bitsN_ok (f : Nat → Bool) : ∀ n, bitsN f n < 2 ^ n ∧ ∀ q, q < n → (bitsN f n).testBit q = f q
  | 0 => ⟨by simp [bitsN], fun q hq => by omega⟩
  | n + 1 => by
    obtain ⟨h1, h2⟩ := bitsN_ok f n
    rw [bitsN, Nat.pow_succ]
    refine ⟨by split <;> omega, fun q hq => ?_⟩
    rw [Nat.testBit_two_pow_mul_add _ h1]
    split
    · rename_i hlt; exact h2 q hlt
    · have : q = n := by omega
      subst this
      rw [Nat.sub_self]
      cases f q <;> rfl
/-- A code's digits as a number. -/
def numC (c : List Int) : Nat := bitsN (fun q => if q < 12 then decide ((c.getD (q / 2) 0 / (if q % 2 = 0 then 1 else 2)) % 2 = 1) else decide (c.getD (q - 12) 0 / 4 % 2 = 1)) 18
theorem numC_digit {c : List Int} (hc : gcode c = true) {j : Nat} (hj : j < 6) : (codN (numC c)).getD j 0 = c.getD j 0 := by
  have hb := bitsN_ok (fun q => if q < 12 then decide ((c.getD (q / 2) 0 / (if q % 2 = 0 then 1 else 2)) % 2 = 1) else decide (c.getD (q - 12) 0 / 4 % 2 = 1)) 18
  have b1 := hb.2 (2 * j) (by omega)
  have b2 := hb.2 (2 * j + 1) (by omega)
  have b3 := hb.2 (12 + j) (by omega)
  rw [if_pos (show 2 * j < 12 by omega), if_pos (show 2 * j % 2 = 0 by omega), show 2 * j / 2 = j by omega, Int.ediv_one] at b1
  rw [if_pos (show 2 * j + 1 < 12 by omega), if_neg (show ¬ (2 * j + 1) % 2 = 0 by omega), show (2 * j + 1) / 2 = j by omega] at b2
  rw [if_neg (show ¬ 12 + j < 12 by omega), show 12 + j - 12 = j by omega] at b3
  rw [codN_at _ hj]
  unfold numC
  rw [b1, b2, b3]
  clear b1 b2 b3 hb
  have hd : 0 ≤ c.getD j 0 ∧ c.getD j 0 ≤ 7 := by
    rw [List.getD_eq_getElem?_getD]
    cases h : c[j]? with
    | none => simp
    | some d => exact gcode_at hc (List.mem_of_getElem? h)
  generalize c.getD j 0 = d at *
  unfold bI
  simp only [decide_eq_true_eq]
  split <;> split <;> split <;> omega
theorem numC_lt (c : List Int) : numC c < 2 ^ 18 := (bitsN_ok _ 18).1
theorem rawT_num {c : List Int} (hc : gcode c = true) (n : Int) : rawT (codN (numC c)) n (codN (numC c)).length = rawT c n c.length := by
  have hl := gcode_len hc
  have e6 : (codN (numC c)).length = 6 := by simp [codN]
  have key : ∀ k, k ≤ 6 → rawT (codN (numC c)) n k = rawT c n k := by
    intro k
    induction k with
    | zero => intro _; rfl
    | succ k ih => intro hk; rw [rawT_succ, rawT_succ, ih (by omega), mvAt, mvAt, numC_digit hc (by omega)]
  have key2 : ∀ k, c.length ≤ k → rawT c n k = rawT c n c.length := by
    intro k
    induction k with
    | zero => intro h; rw [show c.length = 0 by omega]
    | succ k ih =>
      intro h
      by_cases e : c.length = k + 1
      · rw [e]
      · rw [rawT_succ, ih (by omega), mvAt]
        have : c.getD k 0 = 0 := by rw [List.getD_eq_getElem?_getD, List.getElem?_eq_none (by omega)]; rfl
        rw [this]
        simp [mvB]
  rw [e6, key 6 (Nat.le_refl _), key2 6 hl.2]
theorem gvL_num {c : List Int} (hc : gcode c = true) : ∀ n, gvL (codN (numC c)) n = gvL c n
  | 0 => rfl
  | n + 1 => by rw [gvL, gvL, gvL_num hc n, rawT_num hc]
theorem gv_num {c : List Int} (hc : gcode c = true) (n : Nat) : gv (codN (numC c)) n = gv c n := by rw [gv, gv, gvL_num hc]
theorem gv_255 {c : List Int} (hc : gcode c = true) {n : Nat} (hn : n ≤ 300) : gv c n ≤ 255 := by
  have h128 : ∀ a, a < 173 → gv c a < 2 ^ 7 := by
    intro a ha
    rw [← gv_num hc]
    have hk := numC_lt c
    generalize numC c = k at hk
    by_cases hx : k / 2 ^ 12 = 47 ∨ k / 2 ^ 12 = 55 ∨ k / 2 ^ 12 = 61
    · exact chk7 (k / 2 ^ 11) (by omega) k rfl a ha
    · have h64 := chk6 (k / 2 ^ 12) (by omega) (by omega) k rfl
      exact gv_double (N := 109) (t := 6) h64 (by omega) a (by omega)
  have := gv_double (c := c) (N := 173) (t := 7) h128 (by omega) n (by omega)
  omega
end Go.Proofs.Ytmfbcipjknjicaa
