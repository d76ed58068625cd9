/- How far the reader goes when a stopper is drawn. For all bytes. -/
import Derived.Test.YtmplelnodamedaaDraws
import Derived.Test.YtmplelnodamedaaStp
namespace Go.Proofs.Ytmplelnodamedaa
open Eng
attribute [local irreducible] OpS OpG FC FCr Rel Fl Ef DR Fs
attribute [local simp] RV.fzR_names
set_option linter.unusedSimpArgs false
set_option maxHeartbeats 0
set_option maxRecDepth 100000

theorem loose_at2 (c : Cur) (most : Nat) (h0 : 0 < most) : (loose c most).1.at_ ≤ c.at_ + 200 + 16 * most := loose_at c most h0
theorem drawStp_at (c : Cur) (most : Nat) (h0 : 0 < most) (hm : most ≤ 36) : (drawStp c most).1.at_ ≤ c.at_ + 2000 := by
  unfold drawStp
  have k1 := pickC_at c 3
  generalize pickC c 3 = c1 at *
  split
  · have := pickC_at c1 8
    dsimp only; omega
  · have k2 := pickC_at c1 most
    have hl := pickV_lt c1 most h0
    have hS := (stpTo_small (pickC c1 most, [], []) ⟨rfl, rfl⟩ (1 + pickV c1 most)).1
    generalize stpTo (pickC c1 most, [], []) (1 + pickV c1 most) = q at *
    have k3 := pickC_at q.1 10
    dsimp only at hS
    split
    · have := loose_at2 (pickC q.1 10) 5 (by omega)
      omega
    · dsimp only; omega
end Go.Proofs.Ytmplelnodamedaa
