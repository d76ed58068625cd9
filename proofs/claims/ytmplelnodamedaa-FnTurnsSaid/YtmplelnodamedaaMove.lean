/- The move that is told of a loop: the program's, the reference's. The same. For all loops and places. -/
import Derived.Test.YtmplelnodamedaaPlay
import Derived.Test.YtmplelnodamedaaSpecOut
namespace Go.Proofs.Ytmplelnodamedaa
open Eng
attribute [local irreducible] OpS OpG FC FCr Rel Fl Ef DR Fs
set_option linter.unusedSimpArgs false
set_option maxHeartbeats 0
set_option maxRecDepth 100000

/-- The chosen move, as a state. -/
def moveOf (L R : List (List Int)) (a : Int) (left : Bool) : Option Nat :=
  if okAt L R a then bst (finG L R) ((finG L R).getD (stN a.toNat left) (0, 0)).1 (mv (stN a.toNat left)) ((nxtG L R).getD (stN a.toNat left) []) none else none
def placeOf (b : Option Nat) : Int := match b with | none => 0 | some c => ((c / 2 : Nat) : Int)
def bI (b : Option Nat) : Int := match b with | none => -1 | some c => (c : Int)
theorem altG {L R} (h : goodLp L R = true) : Alt (nxtG L R) (2 * L.length) := by
  have := nxtOf_alt (goodN h).inside
  rw [toN_len] at this
  exact this
theorem nxtG_row {L R} (h : goodLp L R = true) (s : Nat) : ((nxtG L R).getD s []).length ≤ 24 := by
  by_cases hs : s < 2 * L.length
  · have hs2 : s < 2 * (toN L).length := by rw [toN_len]; exact hs
    have g := goodN h
    have hat := nxtTo_at (toN L) (toN R) (toN L).length s hs2
    rw [nxtG, nxtOf, hat]
    have h1 : s / 2 < (toN L).length := by omega
    have h2 : s / 2 < (toN R).length := by rw [toN_len, g.lenR]; omega
    rw [gd h1, gd h2]
    split
    · simpa using g.lL _ (List.getElem_mem h1)
    · simpa using g.lR _ (List.getElem_mem h2)
  · rw [gd_out (by rw [nxtG_len]; exact hs)]; simp
theorem bst_mem {res w m} : ∀ ks b c, bst res w m ks b = some c → c ∈ ks ∨ b = some c := by
  intro ks
  induction ks with
  | nil => intro b c h; exact .inr h
  | cons k ks ih =>
    intro b c h
    rw [bst_cons] at h
    split at h
    · rcases ih _ _ h with h | h
      · exact .inl (by simp [h])
      · exact .inr h
    · cases b with
      | none =>
        rcases ih _ _ h with h | h
        · exact .inl (by simp [h])
        · cases h; exact .inl (by simp)
      | some d =>
        dsimp only at h
        split at h
        · rcases ih _ _ h with h | h
          · exact .inl (by simp [h])
          · cases h; exact .inl (by simp)
        · rcases ih _ _ h with h | h
          · exact .inl (by simp [h])
          · exact .inr h
theorem bst_at {res : List (Int × Int)} {w m : Int} {ks : List Nat} {k : Nat} (h : k < ks.length) (h2 : ks[k] < res.length) (b : Option Nat) : bst res w m (ks.drop k) b = if res[ks[k]].1 ≠ w then bst res w m (ks.drop (k + 1)) b else match b with
    | none => bst res w m (ks.drop (k + 1)) (some ks[k])
    | some c => if (w = m ∧ res[ks[k]].2 < (res.getD c (0, 0)).2) ∨ (w = 3 - m ∧ res[ks[k]].2 > (res.getD c (0, 0)).2) then bst res w m (ks.drop (k + 1)) (some ks[k]) else bst res w m (ks.drop (k + 1)) (some c) := by
  rw [List.drop_eq_getElem_cons h, bst_cons, gd h2]
  cases b <;> rfl

end Go.Proofs.Ytmplelnodamedaa
