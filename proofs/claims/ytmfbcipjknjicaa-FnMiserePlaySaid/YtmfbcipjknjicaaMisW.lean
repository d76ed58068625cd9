/- The program's row of misere values of single heaps. For all arguments. -/
import Derived.Test.YtmfbcipjknjicaaJ34
namespace Go.Proofs.Ytmfbcipjknjicaa
open Eng
attribute [local irreducible] OpS OpG FC FCr Rel Fl Ef DR Fs
attribute [local simp] RV.fzR_names
set_option linter.unusedSimpArgs false
set_option linter.unusedVariables false
set_option maxHeartbeats 0
set_option maxRecDepth 100000

end Go.Proofs.Ytmfbcipjknjicaa
