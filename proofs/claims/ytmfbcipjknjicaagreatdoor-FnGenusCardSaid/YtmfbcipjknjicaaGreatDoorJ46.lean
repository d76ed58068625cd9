/- All codes, in pieces. In plain numbers. -/
import Derived.Test.YtmfbcipjknjicaaGreatDoorOctR
namespace Go.Proofs.YtmfbcipjknjicaaGreatDoor
set_option linter.unusedSectionVars false
variable [One Bool]
set_option linter.unusedSimpArgs false
set_option linter.unusedVariables false

noncomputable def patq (q : Nat) : Nat → Nat
  | 0 => 0
  | w + 1 => if w = q then (2 ^ (2 ^ w) - 1) <<< (2 ^ w) else frc (patq q w) fun p => p ||| (p <<< (2 ^ w))
theorem patq_ok (q : Nat) : ∀ w, patq q w < 2 ^ (2 ^ w) ∧ ∀ y, y < 2 ^ w → (patq q w).testBit y = y.testBit q
  | 0 => by
    rw [patq]
    refine ⟨by simp, fun y hy => ?_⟩
    have : y = 0 := by simpa using hy
    subst this; simp
  | w + 1 => by
    obtain ⟨h1, h2⟩ := patq_ok q w
    have e : 2 ^ (w + 1) = 2 ^ w + 2 ^ w := by rw [Nat.pow_succ]; omega
    have hp : 0 < 2 ^ w := Nat.two_pow_pos w
    rw [patq]
    split
    · rename_i hw
      subst hw
      rw [e]
      refine ⟨?_, fun y hy => ?_⟩
      · rw [Nat.shiftLeft_eq, Nat.pow_add]
        have h3 : 0 < 2 ^ 2 ^ w := Nat.two_pow_pos _
        exact Nat.mul_lt_mul_of_pos_right (by omega) h3
      · rw [Nat.testBit_shiftLeft, Nat.testBit_two_pow_sub_one]
        by_cases hy2 : y < 2 ^ w
        · rw [Nat.testBit_lt_two_pow hy2]
          have : decide (y ≥ 2 ^ w) = false := by simp; exact hy2
          rw [this, Bool.false_and]
        · have e3 : y = 2 ^ w + (y - 2 ^ w) := by omega
          have h4 : y.testBit w = true := by
            rw [e3, Nat.testBit_two_pow_add_eq, Nat.testBit_lt_two_pow (by omega)]; rfl
          rw [h4]
          simp; omega
    · rename_i hw
      rw [frc_eq, e]
      refine ⟨?_, fun y hy => ?_⟩
      · refine Nat.or_lt_two_pow (Nat.lt_of_lt_of_le h1 (Nat.pow_le_pow_right (by omega) (by omega))) ?_
        rw [Nat.shiftLeft_eq, Nat.pow_add]
        exact Nat.mul_lt_mul_of_pos_right h1 (Nat.two_pow_pos _)
      · rw [Nat.testBit_or, Nat.testBit_shiftLeft]
        by_cases hy2 : y < 2 ^ w
        · have : decide (y ≥ 2 ^ w) = false := by simp; exact hy2
          rw [this, Bool.false_and, Bool.or_false, h2 y hy2]
        · have : decide (y ≥ 2 ^ w) = true := by simp; omega
          rw [this, Bool.true_and, Nat.testBit_lt_two_pow (Nat.lt_of_lt_of_le h1 (Nat.pow_le_pow_right (by omega) (by omega))), Bool.false_or, h2 _ (by omega)]
          have e3 : y = 2 ^ w + (y - 2 ^ w) := by omega
          generalize y - 2 ^ w = z at *
          subst e3
          rcases Nat.lt_or_gt_of_ne hw with h3 | h3
          · rw [Nat.testBit_lt_two_pow (Nat.lt_of_lt_of_le (by omega : z < 2 ^ w) (Nat.pow_le_pow_right (by omega) (by omega))), Nat.testBit_lt_two_pow (Nat.lt_of_lt_of_le hy (by rw [← e]; exact Nat.pow_le_pow_right (by omega) (by omega)))]
          · rw [Nat.testBit_two_pow_add_gt h3]
noncomputable def plq (w h q : Nat) : Nat := if q < w then patq q w else if h.testBit (q - w) then 2 ^ (2 ^ w) - 1 else 0
theorem plq_ok (w h q : Nat) : plq w h q < 2 ^ (2 ^ w) ∧ ∀ y, y < 2 ^ w → (plq w h q).testBit y = (2 ^ w * h + y).testBit q := by
  unfold plq
  split
  · rename_i hq
    obtain ⟨h1, h2⟩ := patq_ok q w
    refine ⟨h1, fun y hy => ?_⟩
    rw [Nat.testBit_two_pow_mul_add _ hy, if_pos hq, h2 y hy]
  · rename_i hq
    split
    · rename_i hh
      refine ⟨by have := Nat.two_pow_pos (2 ^ w); omega, fun y hy => ?_⟩
      rw [Nat.testBit_two_pow_mul_add _ hy, if_neg hq, hh, Nat.testBit_two_pow_sub_one]
      simpa using hy
    · rename_i hh
      refine ⟨Nat.two_pow_pos _, fun y hy => ?_⟩
      rw [Nat.testBit_two_pow_mul_add _ hy, if_neg hq, Nat.zero_testBit]
      simpa using hh
def bI (b : Bool) : Int := if b then 1 else 0
def codN (k : Nat) : List Int := (List.range 6).map fun j => bI (k.testBit (2 * j)) + 2 * bI (k.testBit (2 * j + 1)) + 4 * bI (k.testBit (12 + j))
theorem codN_at (k : Nat) {j : Nat} (hj : j < 6) : (codN k).getD j 0 = bI (k.testBit (2 * j)) + 2 * bI (k.testBit (2 * j + 1)) + 4 * bI (k.testBit (12 + j)) := by
  rw [codN, List.getD_eq_getElem?_getD, List.getElem?_map, List.getElem?_range hj]; rfl
theorem bI_dig (a b c : Bool) : ((bI a + 2 * bI b + 4 * bI c) % 2 = 1 ↔ a = true) ∧ ((bI a + 2 * bI b + 4 * bI c) / 2 % 2 = 1 ↔ b = true) ∧ ((bI a + 2 * bI b + 4 * bI c) / 4 % 2 = 1 ↔ c = true) := by
  cases a <;> cases b <;> cases c <;> decide
def saltL : List Nat := [15863565727932905476, 5178798840537112954, 10441750072572788775, 7002529518221863548, 9775238986073737858, 14176206831984481384, 11063548806293419167, 11022368555559371271, 13608271706038504787, 4265497457947046943, 14246976762617202424, 11061008782142128922, 5232559564701056193, 8281744360272122377, 3804292700974272434, 11229995883262298739, 3269901316018758020, 14350232007122821102]
noncomputable def pls (w h q : Nat) : Nat := Nat.lor (Nat.shiftLeft (plq w h q) 64) (saltL.getD q 0)
noncomputable def dgs (w h T W : Nat) : List (Nat × Nat × Nat) := (List.range 6).map fun k => (pls w h (2 * k), rpl W T (pls w h (2 * k + 1)), rpl W T (pls w h (12 + k)))
theorem salt_lt (q : Nat) : saltL.getD q 0 < 2 ^ 64 := by
  have h : ∀ x ∈ saltL, x < 2 ^ 64 := by decide +kernel
  rw [List.getD_eq_getElem?_getD]
  cases e : saltL[q]? with
  | none => decide
  | some x => exact h x (List.mem_of_getElem? e)
theorem pls_ok (w h q : Nat) : pls w h q < 2 ^ (2 ^ w + 64) ∧ ∀ i, i < 2 ^ w → (pls w h q).testBit (64 + i) = (2 ^ w * h + i).testBit q := by
  obtain ⟨h1, h2⟩ := plq_ok w h q
  have hs := salt_lt q
  have e : pls w h q = (plq w h q <<< 64) ||| saltL.getD q 0 := rfl
  rw [e]
  refine ⟨Nat.or_lt_two_pow ?_ (Nat.lt_of_lt_of_le hs (Nat.pow_le_pow_right (by omega) (Nat.le_add_left _ _))), fun i hi => ?_⟩
  · rw [Nat.shiftLeft_eq, Nat.pow_add]
    exact Nat.mul_lt_mul_of_pos_right h1 (Nat.two_pow_pos _)
  · rw [Nat.testBit_or, Nat.testBit_shiftLeft, Nat.testBit_lt_two_pow (Nat.lt_of_lt_of_le hs (Nat.pow_le_pow_right (by omega) (Nat.le_add_right _ _))), Bool.or_false]
    have : decide (64 + i ≥ 64) = true := by simp
    rw [this, Bool.true_and, Nat.add_sub_cancel_left]
    exact h2 i hi
noncomputable def codL (w h i : Nat) : List Int := (List.range 6).map fun j => bI ((pls w h (2 * j)).testBit i) + 2 * bI ((pls w h (2 * j + 1)).testBit i) + 4 * bI ((pls w h (12 + j)).testBit i)
theorem codL_at (w h i : Nat) {j : Nat} (hj : j < 6) : (codL w h i).getD j 0 = bI ((pls w h (2 * j)).testBit i) + 2 * bI ((pls w h (2 * j + 1)).testBit i) + 4 * bI ((pls w h (12 + j)).testBit i) := by
  rw [codL, List.getD_eq_getElem?_getD, List.getElem?_map, List.getElem?_range hj]; rfl
theorem codL_N {w h i : Nat} (hi : i < 2 ^ w) : codL w h (64 + i) = codN (2 ^ w * h + i) := by
  unfold codL codN
  apply List.map_congr_left
  intro j _
  rw [(pls_ok w h _).2 i hi, (pls_ok w h _).2 i hi, (pls_ok w h _).2 i hi]
noncomputable def frcD {α : Type} : List (Nat × Nat × Nat) → (List (Nat × Nat × Nat) → α) → α
  | [], k => k []
  | (a, b, c) :: xs, k => frc a fun a => frc b fun b => frc c fun c => frcD xs fun ys => k ((a, b, c) :: ys)
theorem frcD_eq {α : Type} : ∀ (l : List (Nat × Nat × Nat)) (k : List (Nat × Nat × Nat) → α), frcD l k = k l
  | [], k => rfl
  | (a, b, c) :: xs, k => by rw [frcD, frc_eq, frc_eq, frc_eq, frcD_eq xs]
noncomputable def chkC (w h T f : Nat) : Bool := frc (Nat.add (Nat.pow 2 w) 64) fun W => frcD (dgs w h T W) fun D => runC W T D f 1 [] [] []
theorem chkC_ok {w h T f : Nat} (hc : chkC w h T f = true) : ∀ k, k / 2 ^ w = h → ∀ a, a < 1 + f → gv (codN k) a < 2 ^ T := by
  intro k hk a ha
  rw [chkC, frc_eq, frcD_eq] at hc
  have hc : runC (2 ^ w + 64) T (dgs w h T (2 ^ w + 64)) f 1 [] [] [] = true := hc
  have hp : 0 < 2 ^ w := Nat.two_pow_pos w
  have hlen : (dgs w h T (2 ^ w + 64)).length = 6 := by simp [dgs]
  have hD : DgOk (2 ^ w + 64) T (codL w h) (dgs w h T (2 ^ w + 64)) := by
    intro i hi
    refine ⟨by rw [hlen]; simp [codL], fun j hj x => ?_⟩
    rw [hlen] at hj
    simp only [dgs, List.getElem_map, List.getElem_range]
    obtain ⟨d1, d2, d3⟩ := bI_dig ((pls w h (2 * j)).testBit i) ((pls w h (2 * j + 1)).testBit i) ((pls w h (12 + j)).testBit i)
    rw [codL_at _ _ _ hj, d1, d2, d3]
    have hrp : ∀ q, x < 2 ^ T → (rpl (2 ^ w + 64) T (pls w h q)).testBit (x * (2 ^ w + 64) + i) = (pls w h q).testBit i := by
      intro q hx
      have hlt : x * (2 ^ w + 64) + i < 2 ^ T * (2 ^ w + 64) := by
        have : (x + 1) * (2 ^ w + 64) ≤ 2 ^ T * (2 ^ w + 64) := Nat.mul_le_mul_right _ hx
        rw [Nat.add_mul, Nat.one_mul] at this; omega
      rw [(rpl_ok (by omega) (pls_ok w h q).1 T).2 _ hlt, Nat.add_comm (x * (2 ^ w + 64)) i, Nat.add_mul_mod_self_right, Nat.mod_eq_of_lt hi]
    refine ⟨?_, fun hx => by rw [hrp _ hx], fun hx => by rw [hrp _ hx]⟩
    cases x with
    | zero => rw [Nat.zero_mul, Nat.zero_add]; simp
    | succ x =>
      have hlt : (pls w h (2 * j)).testBit ((x + 1) * (2 ^ w + 64) + i) = false := by
        refine Nat.testBit_lt_two_pow (Nat.lt_of_lt_of_le (pls_ok w h _).1 (Nat.pow_le_pow_right (by omega) ?_))
        rw [Nat.add_mul]; omega
      rw [hlt]; simp
  have := runC_start hD hc (64 + k % 2 ^ w) (by have := Nat.mod_lt k hp; omega) a ha
  rw [codL_N (Nat.mod_lt _ hp)] at this
  rwa [← hk, Nat.div_add_mod] at this
end Go.Proofs.YtmfbcipjknjicaaGreatDoor
/- Pieces of the check of all codes. In plain numbers. -/
namespace Go.Proofs.YtmfbcipjknjicaaGreatDoor
set_option linter.unusedSectionVars false
variable [One Bool]
set_option maxRecDepth 100000
theorem octk_13_0 : chkC 13 0 6 108 = true := by decide +kernel
theorem octk_13_4 : chkC 13 4 6 108 = true := by decide +kernel
theorem octk_13_8 : chkC 13 8 6 108 = true := by decide +kernel
theorem octk_13_12 : chkC 13 12 6 108 = true := by decide +kernel
theorem octk_13_16 : chkC 13 16 6 108 = true := by decide +kernel
theorem octk_13_20 : chkC 13 20 6 108 = true := by decide +kernel
theorem octk_13_25 : chkC 13 25 6 108 = true := by decide +kernel
theorem octk_13_31 : chkC 13 31 6 108 = true := by decide +kernel
end Go.Proofs.YtmfbcipjknjicaaGreatDoor
/- Pieces of the check of all codes. In plain numbers. -/
namespace Go.Proofs.YtmfbcipjknjicaaGreatDoor
set_option linter.unusedSectionVars false
variable [One Bool]
set_option maxRecDepth 100000
theorem octk_13_1 : chkC 13 1 6 108 = true := by decide +kernel
theorem octk_13_5 : chkC 13 5 6 108 = true := by decide +kernel
theorem octk_13_9 : chkC 13 9 6 108 = true := by decide +kernel
theorem octk_13_13 : chkC 13 13 6 108 = true := by decide +kernel
theorem octk_13_17 : chkC 13 17 6 108 = true := by decide +kernel
theorem octk_13_21 : chkC 13 21 6 108 = true := by decide +kernel
theorem octk_13_26 : chkC 13 26 6 108 = true := by decide +kernel
theorem octk_12_46 : chkC 12 46 6 108 = true := by decide +kernel
end Go.Proofs.YtmfbcipjknjicaaGreatDoor
/- Pieces of the check of all codes. In plain numbers. -/
namespace Go.Proofs.YtmfbcipjknjicaaGreatDoor
set_option linter.unusedSectionVars false
variable [One Bool]
set_option maxRecDepth 100000
theorem octk_13_2 : chkC 13 2 6 108 = true := by decide +kernel
theorem octk_13_6 : chkC 13 6 6 108 = true := by decide +kernel
theorem octk_13_10 : chkC 13 10 6 108 = true := by decide +kernel
theorem octk_13_14 : chkC 13 14 6 108 = true := by decide +kernel
theorem octk_13_18 : chkC 13 18 6 108 = true := by decide +kernel
theorem octk_13_22 : chkC 13 22 6 108 = true := by decide +kernel
theorem octk_13_28 : chkC 13 28 6 108 = true := by decide +kernel
theorem octk_12_54 : chkC 12 54 6 108 = true := by decide +kernel
end Go.Proofs.YtmfbcipjknjicaaGreatDoor
/- Pieces of the check of all codes. In plain numbers. -/
namespace Go.Proofs.YtmfbcipjknjicaaGreatDoor
set_option linter.unusedSectionVars false
variable [One Bool]
set_option maxRecDepth 100000
theorem octk_13_3 : chkC 13 3 6 108 = true := by decide +kernel
theorem octk_13_7 : chkC 13 7 6 108 = true := by decide +kernel
theorem octk_13_11 : chkC 13 11 6 108 = true := by decide +kernel
theorem octk_13_15 : chkC 13 15 6 108 = true := by decide +kernel
theorem octk_13_19 : chkC 13 19 6 108 = true := by decide +kernel
theorem octk_13_24 : chkC 13 24 6 108 = true := by decide +kernel
theorem octk_13_29 : chkC 13 29 6 108 = true := by decide +kernel
theorem octk_12_60 : chkC 12 60 6 108 = true := by decide +kernel
end Go.Proofs.YtmfbcipjknjicaaGreatDoor
/- Pieces of the check of all codes. In plain numbers. -/
namespace Go.Proofs.YtmfbcipjknjicaaGreatDoor
set_option linter.unusedSectionVars false
variable [One Bool]
set_option maxRecDepth 100000
theorem octk_11_94 : chkC 11 94 7 172 = true := by decide +kernel
theorem octk_11_110 : chkC 11 110 7 172 = true := by decide +kernel
theorem octk_11_122 : chkC 11 122 7 172 = true := by decide +kernel
end Go.Proofs.YtmfbcipjknjicaaGreatDoor
/- Pieces of the check of all codes. In plain numbers. -/
namespace Go.Proofs.YtmfbcipjknjicaaGreatDoor
set_option linter.unusedSectionVars false
variable [One Bool]
set_option maxRecDepth 100000
theorem octk_11_95 : chkC 11 95 7 172 = true := by decide +kernel
theorem octk_11_111 : chkC 11 111 7 172 = true := by decide +kernel
theorem octk_11_123 : chkC 11 123 7 172 = true := by decide +kernel
end Go.Proofs.YtmfbcipjknjicaaGreatDoor
/- The check of all codes, joined. In plain numbers. -/
namespace Go.Proofs.YtmfbcipjknjicaaGreatDoor
set_option linter.unusedSectionVars false
variable [One Bool]
theorem chk6 (h : Nat) (hh : h < 64) (hn : h ≠ 47 ∧ h ≠ 55 ∧ h ≠ 61) (k : Nat) (hk : k / 2 ^ 12 = h) : ∀ a, a < 109 → gv (codN k) a < 2 ^ 6 := by
  have hs : h = 46 ∨ h = 54 ∨ h = 60 ∨ h / 2 = 0 ∨ h / 2 = 1 ∨ h / 2 = 2 ∨ h / 2 = 3 ∨ h / 2 = 4 ∨ h / 2 = 5 ∨ h / 2 = 6 ∨ h / 2 = 7 ∨ h / 2 = 8 ∨ h / 2 = 9 ∨ h / 2 = 10 ∨ h / 2 = 11 ∨ h / 2 = 12 ∨ h / 2 = 13 ∨ h / 2 = 14 ∨ h / 2 = 15 ∨ h / 2 = 16 ∨ h / 2 = 17 ∨ h / 2 = 18 ∨ h / 2 = 19 ∨ h / 2 = 20 ∨ h / 2 = 21 ∨ h / 2 = 22 ∨ h / 2 = 24 ∨ h / 2 = 25 ∨ h / 2 = 26 ∨ h / 2 = 28 ∨ h / 2 = 29 ∨ h / 2 = 31 := by omega
  rcases hs with hs | hs | hs | hs | hs | hs | hs | hs | hs | hs | hs | hs | hs | hs | hs | hs | hs | hs | hs | hs | hs | hs | hs | hs | hs | hs | hs | hs | hs | hs | hs | hs
  · exact chkC_ok octk_12_46 k (by omega)
  · exact chkC_ok octk_12_54 k (by omega)
  · exact chkC_ok octk_12_60 k (by omega)
  · exact chkC_ok octk_13_0 k (by omega)
  · exact chkC_ok octk_13_1 k (by omega)
  · exact chkC_ok octk_13_2 k (by omega)
  · exact chkC_ok octk_13_3 k (by omega)
  · exact chkC_ok octk_13_4 k (by omega)
  · exact chkC_ok octk_13_5 k (by omega)
  · exact chkC_ok octk_13_6 k (by omega)
  · exact chkC_ok octk_13_7 k (by omega)
  · exact chkC_ok octk_13_8 k (by omega)
  · exact chkC_ok octk_13_9 k (by omega)
  · exact chkC_ok octk_13_10 k (by omega)
  · exact chkC_ok octk_13_11 k (by omega)
  · exact chkC_ok octk_13_12 k (by omega)
  · exact chkC_ok octk_13_13 k (by omega)
  · exact chkC_ok octk_13_14 k (by omega)
  · exact chkC_ok octk_13_15 k (by omega)
  · exact chkC_ok octk_13_16 k (by omega)
  · exact chkC_ok octk_13_17 k (by omega)
  · exact chkC_ok octk_13_18 k (by omega)
  · exact chkC_ok octk_13_19 k (by omega)
  · exact chkC_ok octk_13_20 k (by omega)
  · exact chkC_ok octk_13_21 k (by omega)
  · exact chkC_ok octk_13_22 k (by omega)
  · exact chkC_ok octk_13_24 k (by omega)
  · exact chkC_ok octk_13_25 k (by omega)
  · exact chkC_ok octk_13_26 k (by omega)
  · exact chkC_ok octk_13_28 k (by omega)
  · exact chkC_ok octk_13_29 k (by omega)
  · exact chkC_ok octk_13_31 k (by omega)
theorem chk7 (h : Nat) (hh : h = 94 ∨ h = 95 ∨ h = 110 ∨ h = 111 ∨ h = 122 ∨ h = 123) (k : Nat) (hk : k / 2 ^ 11 = h) : ∀ a, a < 173 → gv (codN k) a < 2 ^ 7 := by
  rcases hh with rfl | rfl | rfl | rfl | rfl | rfl
  · exact chkC_ok octk_11_94 k hk
  · exact chkC_ok octk_11_95 k hk
  · exact chkC_ok octk_11_110 k hk
  · exact chkC_ok octk_11_111 k hk
  · exact chkC_ok octk_11_122 k hk
  · exact chkC_ok octk_11_123 k hk
end Go.Proofs.YtmfbcipjknjicaaGreatDoor
/- No code has a heap of up to 300 with a value above 255. In plain numbers. -/
namespace Go.Proofs.YtmfbcipjknjicaaGreatDoor
set_option linter.unusedSectionVars false
variable [One Bool]
set_option linter.unusedSimpArgs false
set_option linter.unusedVariables false

def bitsN (f : Nat → Bool) : Nat → Nat
  | 0 => 0
  | n + 1 => 2 ^ n * (if f n then 1 else 0) + bitsN f n
theorem bitsN_ok (f : Nat → Bool) : ∀ n, bitsN f n < 2 ^ n ∧ ∀ q, q < n → (bitsN f n).testBit q = f q
  | 0 => ⟨by simp [bitsN], fun q hq => by omega⟩
  | n + 1 => by
    obtain ⟨h1, h2⟩ := bitsN_ok f n
    rw [bitsN, Nat.pow_succ]
    refine ⟨by split <;> omega, fun q hq => ?_⟩
    rw [Nat.testBit_two_pow_mul_add _ h1]
    split
    · rename_i hlt; exact h2 q hlt
    · have : q = n := by omega
      subst this
      rw [Nat.sub_self]
      cases f q <;> rfl
def numC (c : List Int) : Nat := bitsN (fun q => if q < 12 then decide ((c.getD (q / 2) 0 / (if q % 2 = 0 then 1 else 2)) % 2 = 1) else decide (c.getD (q - 12) 0 / 4 % 2 = 1)) 18
theorem numC_digit {c : List Int} (hc : gcode c = true) {j : Nat} (hj : j < 6) : (codN (numC c)).getD j 0 = c.getD j 0 := by
  have hb := bitsN_ok (fun q => if q < 12 then decide ((c.getD (q / 2) 0 / (if q % 2 = 0 then 1 else 2)) % 2 = 1) else decide (c.getD (q - 12) 0 / 4 % 2 = 1)) 18
  have b1 := hb.2 (2 * j) (by omega)
  have b2 := hb.2 (2 * j + 1) (by omega)
  have b3 := hb.2 (12 + j) (by omega)
  rw [if_pos (show 2 * j < 12 by omega), if_pos (show 2 * j % 2 = 0 by omega), show 2 * j / 2 = j by omega, Int.ediv_one] at b1
  rw [if_pos (show 2 * j + 1 < 12 by omega), if_neg (show ¬ (2 * j + 1) % 2 = 0 by omega), show (2 * j + 1) / 2 = j by omega] at b2
  rw [if_neg (show ¬ 12 + j < 12 by omega), show 12 + j - 12 = j by omega] at b3
  rw [codN_at _ hj]
  unfold numC
  rw [b1, b2, b3]
  clear b1 b2 b3 hb
  have hd : 0 ≤ c.getD j 0 ∧ c.getD j 0 ≤ 7 := by
    rw [List.getD_eq_getElem?_getD]
    cases h : c[j]? with
    | none => simp
    | some d => exact gcode_at hc (List.mem_of_getElem? h)
  generalize c.getD j 0 = d at *
  unfold bI
  simp only [decide_eq_true_eq]
  split <;> split <;> split <;> omega
theorem numC_lt (c : List Int) : numC c < 2 ^ 18 := (bitsN_ok _ 18).1
theorem rawT_num {c : List Int} (hc : gcode c = true) (n : Int) : rawT (codN (numC c)) n (codN (numC c)).length = rawT c n c.length := by
  have hl := gcode_len hc
  have e6 : (codN (numC c)).length = 6 := by simp [codN]
  have key : ∀ k, k ≤ 6 → rawT (codN (numC c)) n k = rawT c n k := by
    intro k
    induction k with
    | zero => intro _; rfl
    | succ k ih => intro hk; rw [rawT_succ, rawT_succ, ih (by omega), mvAt, mvAt, numC_digit hc (by omega)]
  have key2 : ∀ k, c.length ≤ k → rawT c n k = rawT c n c.length := by
    intro k
    induction k with
    | zero => intro h; rw [show c.length = 0 by omega]
    | succ k ih =>
      intro h
      by_cases e : c.length = k + 1
      · rw [e]
      · rw [rawT_succ, ih (by omega), mvAt]
        have : c.getD k 0 = 0 := by rw [List.getD_eq_getElem?_getD, List.getElem?_eq_none (by omega)]; rfl
        rw [this]
        simp [mvB]
  rw [e6, key 6 (Nat.le_refl _), key2 6 hl.2]
theorem gvL_num {c : List Int} (hc : gcode c = true) : ∀ n, gvL (codN (numC c)) n = gvL c n
  | 0 => rfl
  | n + 1 => by rw [gvL, gvL, gvL_num hc n, rawT_num hc]
theorem gv_num {c : List Int} (hc : gcode c = true) (n : Nat) : gv (codN (numC c)) n = gv c n := by rw [gv, gv, gvL_num hc]
theorem gv_255 {c : List Int} (hc : gcode c = true) {n : Nat} (hn : n ≤ 300) : gv c n ≤ 255 := by
  have h128 : ∀ a, a < 173 → gv c a < 2 ^ 7 := by
    intro a ha
    rw [← gv_num hc]
    have hk := numC_lt c
    generalize numC c = k at hk
    by_cases hx : k / 2 ^ 12 = 47 ∨ k / 2 ^ 12 = 55 ∨ k / 2 ^ 12 = 61
    · exact chk7 (k / 2 ^ 11) (by omega) k rfl a ha
    · have h64 := chk6 (k / 2 ^ 12) (by omega) (by omega) k rfl
      exact gv_double (N := 109) (t := 6) h64 (by omega) a (by omega)
  have := gv_double (c := c) (N := 173) (t := 7) h128 (by omega) n (by omega)
  omega
end Go.Proofs.YtmfbcipjknjicaaGreatDoor
