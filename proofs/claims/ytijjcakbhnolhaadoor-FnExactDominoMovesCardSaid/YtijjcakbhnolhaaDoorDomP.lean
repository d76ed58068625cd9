/- Boards of points and crosses, and the boards behind a player's moves: plain. -/
import Derived.Test.YtijjcakbhnolhaaDoorInts
namespace Go.Proofs.YtijjcakbhnolhaaDoor
set_option linter.unusedSimpArgs false
set_option linter.unusedVariables false

abbrev Bd := List (List UInt8)
def wdB (R : Bd) : Nat := (R.getD 0 []).length
def rowB (n : Nat) (r : List UInt8) : Bool := decide (r.length = n) && decide (∀ c ∈ r, c = 46 ∨ c = 35)
def gdB (R : Bd) : Bool := decide (1 ≤ R.length ∧ R.length ≤ 8) && (decide (1 ≤ wdB R ∧ wdB R ≤ 8) && R.all (rowB (wdB R)))
structure GdB (R : Bd) : Prop where
  n1 : 1 ≤ R.length
  n8 : R.length ≤ 8
  w1 : 1 ≤ wdB R
  w8 : wdB R ≤ 8
  w : ∀ r ∈ R, r.length = wdB R
  b : ∀ r ∈ R, ∀ c ∈ r, c = 46 ∨ c = 35
theorem gdB_ok {R : Bd} (h : gdB R = true) : GdB R := by
  simp only [gdB, rowB, Bool.and_eq_true, decide_eq_true_eq, List.all_eq_true] at h
  exact ⟨h.1.1, h.1.2, h.2.1.1, h.2.1.2, fun r hr => (h.2.2 r hr).1, fun r hr => (h.2.2 r hr).2⟩
def ceB (R : Bd) (r c : Nat) : UInt8 := (R.getD r []).getD c 0
def frB (R : Bd) (r c : Nat) : Bool := decide (ceB R r c = 46)
def stC (R : Bd) (r c : Nat) : Bd := R.set r ((R.getD r []).set c 35)
def dnR (left : Bool) (r : Nat) : Nat := if left then r + 1 else r
def dnC (left : Bool) (c : Nat) : Nat := if left then c else c + 1
def mvC (R : Bd) (left : Bool) (r c : Nat) : Bd := stC (stC R r c) (dnR left r) (dnC left c)
def okM (R : Bd) (left : Bool) (r c : Nat) : Bool := frB R r c && frB R (dnR left r) (dnC left c)
def mvRow (R : Bd) (left : Bool) (r : Nat) : Nat → List Bd
  | 0 => []
  | k + 1 => mvRow R left r k ++ if okM R left r k then [mvC R left r k] else []
def mvD (R : Bd) (left : Bool) : Nat → List Bd
  | 0 => []
  | r + 1 => mvD R left r ++ mvRow R left r (wdB R)
def mvs (R : Bd) (left : Bool) : List Bd := if gdB R then mvD R left R.length else []
theorem ceB_at {R : Bd} {r c : Nat} (hr : r < R.length) (hc : c < R[r].length) : ceB R r c = R[r][c] := by simp [ceB, hr, hc]
theorem ceB_row {R : Bd} {r c : Nat} (hr : R.length ≤ r) : ceB R r c = 0 := by simp [ceB, hr]
theorem ceB_col {R : Bd} (g : GdB R) {r c : Nat} (hc : wdB R ≤ c) : ceB R r c = 0 := by
  by_cases hr : r < R.length
  · have := g.w _ (List.getElem_mem hr)
    simp [ceB, hr, show R[r].length ≤ c by omega]
  · exact ceB_row (by omega)
theorem frB_in {R : Bd} (g : GdB R) {r c : Nat} (h : frB R r c = true) : r < R.length ∧ c < wdB R := by
  simp only [frB, decide_eq_true_eq] at h
  constructor
  · by_cases hr : r < R.length
    · exact hr
    · rw [ceB_row (by omega)] at h; simp at h
  · by_cases hc : c < wdB R
    · exact hc
    · rw [ceB_col g (by omega)] at h; simp at h
def plR (R : Bd) (left : Bool) (row col i : Nat) : List UInt8 :=
  if left then (if i = row ∨ i = row + 1 then (R.getD i []).set col 35 else R.getD i [])
  else (if i = row then ((R.getD i []).set col 35).set (col + 1) 35 else R.getD i [])
theorem plR_all {R : Bd} {left : Bool} {row col : Nat} (hr : row < R.length) (hl : dnR left row < R.length) : (List.range R.length).map (plR R left row col) = mvC R left row col := by
  apply List.ext_getElem
  · simp [mvC, stC]
  · intro i h1 h2
    have hi : i < R.length := by simpa using h1
    cases left with
    | true =>
      have hl : row + 1 < R.length := hl
      simp only [List.getElem_map, List.getElem_range, plR, mvC, stC, dnR, dnC, if_true]
      rw [List.getElem_set, List.getElem_set]
      by_cases h0 : row + 1 = i
      · subst h0
        simp [hi, List.getElem_set, hl]
      · by_cases h3 : row = i
        · subst h3; simp [hi]
        · rw [if_neg h0, if_neg h3, if_neg (by omega)]; simp [hi]
    | false =>
      simp only [List.getElem_map, List.getElem_range, plR, mvC, stC, dnR, dnC, if_neg Bool.false_ne_true]
      rw [List.getElem_set]
      by_cases h3 : row = i
      · subst h3; simp [hi]
      · rw [if_neg h3, if_neg (by omega), List.getElem_set, if_neg h3]; simp [hi]
def clB (R : Bd) : List (List Bool) := R.map fun r => r.map fun c => decide (c = 46)
def rwC (l : List Bool) : List UInt8 := l.map fun b => if b then 46 else 35
def bdC (C : List (List Bool)) : Bd := C.map rwC
theorem clB_len (R : Bd) : (clB R).length = R.length := by simp [clB]
theorem bd_cl {R : Bd} (h : ∀ r ∈ R, ∀ c ∈ r, c = 46 ∨ c = 35) : bdC (clB R) = R := by
  simp only [bdC, clB, List.map_map]
  refine (List.map_congr_left fun r hr => ?_).trans (List.map_id _)
  simp only [Function.comp, rwC, List.map_map]
  refine (List.map_congr_left fun c hc => ?_).trans (List.map_id _)
  rcases h r hr c hc with rfl | rfl <;> rfl
theorem stC_by {R : Bd} (h : ∀ r ∈ R, ∀ c ∈ r, c = 46 ∨ c = 35) (r c : Nat) : ∀ q ∈ stC R r c, ∀ x ∈ q, x = 46 ∨ x = 35 := by
  intro q hq x hx
  rcases List.mem_or_eq_of_mem_set hq with hq | rfl
  · exact h q hq x hx
  · rcases List.mem_or_eq_of_mem_set hx with hx | rfl
    · by_cases hr : r < R.length
      · rw [show R.getD r [] = R[r] by simp [hr]] at hx; exact h _ (List.getElem_mem hr) x hx
      · simp [show R.length ≤ r by omega] at hx
    · exact .inr rfl
theorem clB_st (R : Bd) (r c : Nat) : clB (stC R r c) = (clB R).set r (((clB R).getD r []).set c false) := by
  unfold clB stC
  rw [List.map_set, List.map_set]
  congr 1
  by_cases hr : r < R.length
  · simp [hr]
  · simp [show R.length ≤ r by omega]
theorem clB_mv {R : Bd} (g : GdB R) (left : Bool) (r c : Nat) : bdC ((((clB R).set r (((clB R).getD r []).set c false))).set (dnR left r) ((((clB R).set r (((clB R).getD r []).set c false)).getD (dnR left r) []).set (dnC left c) false)) = mvC R left r c := by
  rw [← clB_st, ← clB_st]
  exact bd_cl (stC_by (stC_by g.b r c) _ _)
theorem clB_at {R : Bd} {r : Nat} (hr : r < R.length) : (clB R)[r]'(by rw [clB_len]; exact hr) = R[r].map fun c => decide (c = 46) := by simp [clB]
theorem mvRow_len (R : Bd) (left : Bool) (r k : Nat) : (mvRow R left r k).length ≤ k := by
  induction k with
  | zero => simp [mvRow]
  | succ k ih => rw [mvRow, List.length_append]; split <;> simp <;> omega
theorem mvD_len (R : Bd) (left : Bool) (n : Nat) : (mvD R left n).length ≤ n * wdB R := by
  induction n with
  | zero => simp [mvD]
  | succ n ih => rw [mvD, List.length_append, Nat.succ_mul]; have := mvRow_len R left n (wdB R); omega
theorem mvC_dim {R : Bd} (left : Bool) (r c : Nat) : (mvC R left r c).length = R.length := by simp [mvC, stC]
theorem mvD_all {R : Bd} {left : Bool} {n : Nat} : ∀ b ∈ mvD R left n, b.length = R.length := by
  induction n with
  | zero => simp [mvD]
  | succ n ih =>
    intro b hb
    rw [mvD] at hb
    rcases List.mem_append.1 hb with hb | hb
    · exact ih b hb
    · have key : ∀ k, ∀ b ∈ mvRow R left n k, b.length = R.length := by
        intro k
        induction k with
        | zero => simp [mvRow]
        | succ k ih2 =>
          intro b hb
          rw [mvRow] at hb
          rcases List.mem_append.1 hb with hb | hb
          · exact ih2 b hb
          · split at hb
            · rw [List.mem_singleton.1 hb]; exact mvC_dim left n k
            · cases hb
      exact key _ b hb
end Go.Proofs.YtijjcakbhnolhaaDoor
