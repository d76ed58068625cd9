/- The library's sort of texts. For all lists of the lengths that the theorem names. -/
import Derived.Test.YtdignmbeiohhiaaLaySort
import Derived.Test.YtdignmbeiohhiaaSortE
namespace Go.Proofs.Ytdignmbeiohhiaa
open Eng Go.Sort
attribute [local irreducible] OpS OpG FC FCr Rel Fl Ef DR Fs
set_option linter.unusedSimpArgs false
set_option maxHeartbeats 0
set_option maxRecDepth 100000

/-- Texts in order. -/
def srtS (l : List (List UInt8)) : List (List UInt8) := l.mergeSort fun x y => decide (x ≤ y)
theorem srtS_len (l : List (List UInt8)) : (srtS l).length = l.length := List.length_mergeSort l
theorem sortS_ok (l : List (List UInt8)) (hlen : l.length ≤ 1099511627776) : FC Try.prog 85 [.ref 1000000000000 0 l.length] [(1000000000000, 1, l.map RV.str)] (fun rv O => rv = .tup [] ∧ O = [(1000000000000, 1, (srtS l).map RV.str)]) := by
  cases l with
  | nil =>
    have e : srtS [] = [] := List.eq_nil_of_length_eq_zero (srtS_len [])
    rw [e]
    exact fc_of_sort0 (fun p cap w => shelf_slices_Sort_string_none p cap w)
  | cons x l => exact fc_of_sort RV.str encStr (fun _ => rfl) (fun _ => rfl) srtS srtS_len (fun blk off cap ss w h1 h2 h3 => shelf_slices_Sort_string blk off cap ss w h1 h2 h3) (x :: l) (by simp) (by simp only [List.length_cons] at hlen ⊢; omega)
end Go.Proofs.Ytdignmbeiohhiaa
