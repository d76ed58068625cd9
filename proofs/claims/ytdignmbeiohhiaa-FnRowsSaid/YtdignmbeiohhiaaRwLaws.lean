/- The drawn laws of GoodRows, RowsText and RowsWith answer true. For all rows and texts of the lengths that texts have. -/
import Derived.Test.YtdignmbeiohhiaaMarkR
import Derived.Test.YtdignmbeiohhiaaRwFns
namespace Go.Proofs.Ytdignmbeiohhiaa
open Eng
attribute [local irreducible] OpS OpG FC FCr Rel Fl Ef DR Fs
set_option linter.unusedSimpArgs false
set_option maxHeartbeats 0
set_option maxRecDepth 100000

theorem smRws {l : List Rw} {left : Int} (hl : left ≤ 1048576) (h : 0 ≤ szRwsr l left) : l.length ≤ 1048576 ∧ ∀ r ∈ l, smRw r := by
  have := szRwsr_lens h
  exact ⟨by omega, fun r hr => ⟨by have := this.2 r hr; omega, by have := this.2 r hr; omega⟩⟩
theorem keysW_len (w : List UInt8) (l : List Rw) : (keysW w l).length ≤ l.length := by
  induction l with
  | nil => simp [keysW]
  | cons r rs ih => rw [keysW]; split <;> simp <;> omega
theorem rowsW_len (l : List Rw) (w : List UInt8) : ((rowsW l w).getD []).length ≤ l.length := by
  unfold rowsW
  split
  · simp
  · exact keysW_len w l
end Go.Proofs.Ytdignmbeiohhiaa
