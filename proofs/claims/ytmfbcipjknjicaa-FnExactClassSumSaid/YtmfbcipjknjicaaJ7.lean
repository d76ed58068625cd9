/- Loops (two lists of lists of ints) measured, copied, compared, as the drawn laws do it. For all loops. -/
import Derived.Test.YtmfbcipjknjicaaEf
import Derived.Test.YtmfbcipjknjicaaInts
namespace Go.Proofs.Ytmfbcipjknjicaa
open Eng
attribute [local irreducible] OpS OpG FC FCr Rel Fl Ef DR Fs
set_option linter.unusedSimpArgs false
set_option maxHeartbeats 0
set_option maxRecDepth 100000

end Go.Proofs.Ytmfbcipjknjicaa
/- The draws' reader of bytes: what it gives and how it goes on. For all bytes, as long as it has not read more than 2^40 of them. -/
namespace Go.Proofs.Ytmfbcipjknjicaa
open Eng
attribute [local irreducible] OpS OpG FC FCr Rel Fl Ef DR Fs
set_option linter.unusedSimpArgs false
set_option maxHeartbeats 0
set_option maxRecDepth 100000

/-- The reader: its bytes, how many are read, the seed. -/
structure Cur where
  code : List UInt8
  at_ : Nat
  seed : Nat
end Go.Proofs.Ytmfbcipjknjicaa
/- A number put to its place in a rising list, as the reference does it. For all lists. -/
namespace Go.Proofs.Ytmfbcipjknjicaa
open Eng
attribute [local irreducible] OpS OpG FC FCr Rel Fl Ef DR Fs
set_option linter.unusedSimpArgs false
set_option maxHeartbeats 0
set_option maxRecDepth 100000

end Go.Proofs.Ytmfbcipjknjicaa
/- Numbers in order, each once: by sorting and leaving out what stands there twice; by putting one by one. In plain lists. -/
namespace Go.Proofs.Ytmfbcipjknjicaa
set_option linter.unusedSimpArgs false

def srtI (l : List Int) : List Int := l.mergeSort fun x y => decide (x ≤ y)
theorem srtI_len (l : List Int) : (srtI l).length = l.length := List.length_mergeSort l
theorem srtI_mem (l : List Int) (x : Int) : x ∈ srtI l ↔ x ∈ l := List.mem_mergeSort
theorem srtI_le (l : List Int) : (srtI l).Pairwise (· ≤ ·) := by
  have := List.pairwise_mergeSort (le := fun x y : Int => decide (x ≤ y)) (fun a b c h1 h2 => by simp at *; omega) (fun a b => by simp; omega) l
  exact this.imp (by intro a b h; simpa using h)
end Go.Proofs.Ytmfbcipjknjicaa
