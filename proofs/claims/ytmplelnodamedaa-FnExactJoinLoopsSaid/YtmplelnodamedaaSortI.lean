/- The library's sort of whole numbers. For all lists of the lengths that the theorem names. -/
import Derived.Test.YtmplelnodamedaaDd
import Derived.Test.YtmplelnodamedaaLaySortI
import Derived.Test.YtmplelnodamedaaSortE
namespace Go.Proofs.Ytmplelnodamedaa
open Eng Go.Sort
attribute [local irreducible] OpS OpG FC FCr Rel Fl Ef DR Fs
set_option linter.unusedSimpArgs false
set_option maxHeartbeats 0
set_option maxRecDepth 100000

theorem sortI_ok (l : List Int) (hlen : l.length ≤ 1099511627776) : FC Try.prog 33 [.ref 1000000000000 0 l.length] [(1000000000000, 1, l.map RVi)] (fun rv O => rv = .tup [] ∧ O = [(1000000000000, 1, (srtI l).map RVi)]) := by
  cases l with
  | nil =>
    have e : srtI [] = [] := List.eq_nil_of_length_eq_zero (srtI_len [])
    rw [e]
    exact fc_of_sort0 (fun p cap w => shelf_slices_Sort_int_none p cap w)
  | cons x l => exact fc_of_sort RVi (Value.int .i64) (fun _ => rfl) (fun _ => rfl) srtI srtI_len (fun blk off cap ss w h1 h2 h3 => shelf_slices_Sort_int blk off cap ss w h1 h2 h3) (x :: l) (by simp) (by simp only [List.length_cons] at hlen ⊢; omega)
end Go.Proofs.Ytmplelnodamedaa
