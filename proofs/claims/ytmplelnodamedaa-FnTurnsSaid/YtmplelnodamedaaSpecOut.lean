/- What the reference tells of a loop: who wins, in how many moves, who holds out, the table. The same as the program. For all loops and places. -/
import Derived.Test.YtmplelnodamedaaOut
import Derived.Test.YtmplelnodamedaaSpecSolve
namespace Go.Proofs.Ytmplelnodamedaa
open Eng
attribute [local irreducible] OpS OpG FC FCr Rel Fl Ef DR Fs
set_option linter.unusedSimpArgs false
set_option maxHeartbeats 0
set_option maxRecDepth 100000

/-- What the reference solves of a loop. -/
def sG (L R : List (List Int)) : List Int × List Int := sRounds (nxtG L R) (2 * L.length) (2 * L.length + 1)
theorem tellsG {L R} (h : goodLp L R = true) : Tells (2 * L.length) (finG L R) (sG L R) := by
  have ha := nxtOf_alt (goodN h).inside
  rw [toN_len] at ha
  exact rounds_tell ha _
theorem finG_wf (L R) : Wf (finG L R) ((2 * L.length + 1 : Nat) : Int) := fin_wf _ _
def told (s : Int) (left : Bool) : Int := if s = 0 then 0 else if decide (s = 1) = left then 1 else 2
theorem told_eq {L R} (h : goodLp L R = true) {j : Nat} (hj : j < 2 * L.length) {left : Bool} (hl : left = decide (j % 2 = 0)) : told ((sG L R).1.getD j 0) left = ((finG L R).getD j (0, 0)).1 := by
  have t := (tellsG h).st j hj
  have w := finG_wf L R j
  rw [t]
  simp only [told, stc, mv] at *
  subst hl
  generalize (finG L R).getD j (0, 0) = r at *
  have h2 : j % 2 = 0 ∨ j % 2 = 1 := by omega
  rcases w with rfl | ⟨h1 | h1, _⟩
  · rfl
  · rw [h1]; rcases h2 with h2 | h2 <;> simp [h2]
  · rw [h1]; rcases h2 with h2 | h2 <;> simp [h2]
theorem stN_left (a : Nat) (left : Bool) : left = decide (stN a left % 2 = 0) := by
  unfold stN; cases left
  · simp; try omega
  · simp
theorem sG_zero {L R} (h : goodLp L R = true) {j : Nat} (hj : j < 2 * L.length) : (sG L R).1.getD j 0 = 0 ↔ ((finG L R).getD j (0, 0)).1 = 0 := by
  have t := (tellsG h).st j hj
  rw [t]
  generalize ((finG L R).getD j (0, 0)).1 = x
  unfold stc
  split
  · simp [*]
  · split
    · have := mv12 j
      constructor
      · intro h; omega
      · intro h; omega
    · simp [*]

end Go.Proofs.Ytmplelnodamedaa
