/- Loops (two lists of lists of ints) measured, copied, compared, as the drawn laws do it. For all loops. -/
import Derived.Test.YtpcckakchpblcaaGreatDoorJ6
namespace Go.Proofs.YtpcckakchpblcaaGreatDoor
open Eng
attribute [local irreducible] OpS OpG FC FCr Rel Fl Ef DR Fs
set_option linter.unusedSimpArgs false
set_option maxHeartbeats 0
set_option maxRecDepth 100000

theorem szSS_le (l : List (List Int)) (left : Int) : szSS l left ≤ left ∨ szSS l left = -1 := by
  induction l generalizing left with
  | nil => left; simp [szSS]
  | cons r rs ih =>
    simp only [szSS]
    split
    · right; rfl
    · rcases ih (left - r.length) with h | h
      · left; omega
      · right; exact h
theorem szSS_lens (l : List (List Int)) (left : Int) (h : 0 ≤ szSS l left) : ∀ r ∈ l, (r.length : Int) ≤ left := by
  induction l generalizing left with
  | nil => simp
  | cons r rs ih =>
    simp only [szSS] at h
    split at h
    · omega
    · intro q hq
      rcases List.mem_cons.1 hq with rfl | hq
      · omega
      · have := ih _ h q hq
        omega
theorem szSSr_le (l : List (List Int)) (left : Int) : szSSr l left ≤ left ∨ szSSr l left = -1 := by
  unfold szSSr
  split
  · right; rfl
  · rcases szSS_le l (left - l.length) with h | h
    · left; omega
    · right; exact h
theorem szSSr_lens {l : List (List Int)} {left : Int} (h : 0 ≤ szSSr l left) : (l.length : Int) ≤ left ∧ ∀ r ∈ l, (r.length : Int) ≤ left := by
  unfold szSSr at h
  split at h
  · omega
  · refine ⟨by omega, fun r hr => ?_⟩
    have := szSS_lens _ _ h r hr
    omega

/-- How a loop is measured. -/
def szLp (L R : List (List Int)) (left : Int) : Int := if szSSr L left < 0 then -1 else if szSSr R (szSSr L left) < 0 then -1 else szSSr R (szSSr L left)
theorem szLp_lens {L R : List (List Int)} {left : Int} (hl : left ≤ 1048576) (h : 0 ≤ szLp L R left) : (L.length ≤ 1048576 ∧ ∀ r ∈ L, r.length ≤ 1048576) ∧ R.length ≤ 1048576 ∧ ∀ r ∈ R, r.length ≤ 1048576 := by
  unfold szLp at h
  split at h
  · omega
  · split at h
    · omega
    · rename_i h1 h2
      have h3 := szSSr_lens (l := L) (left := left) (by omega)
      have h4 := szSSr_lens h
      have h5 := szSSr_le L left
      refine ⟨⟨by omega, fun r hr => ?_⟩, by omega, fun r hr => ?_⟩
      · have := h3.2 r hr; omega
      · have := h4.2 r hr; omega

/-- A loop as it is handed over; one's own. -/
abbrev RLp (L R : List (List Int)) : RV := .agg [RIss L, RIss R]
abbrev OLp (L R : List (List Int)) : RV := .agg [OIss L, OIss R]

end Go.Proofs.YtpcckakchpblcaaGreatDoor
