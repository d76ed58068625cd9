/- A region that draws its order, order by order. No condition. -/
import Derived.Test.YtmfbcipjknjicaaGreatDoorBoxS
import Derived.Test.YtmfbcipjknjicaaGreatDoorEf
namespace Go.Proofs.YtmfbcipjknjicaaGreatDoor
namespace Eng
open Go.RowKit
set_option linter.unusedSimpArgs false
set_option linter.unusedVariables false

/-- Whatever order is taken from here on. -/
structure Y (P : Program) (ops : Array Oper) (R : St → Prop) (n : Nat) (listed : Array Bool) (s : St) : Prop where
  out : ∀ E a w, Rel E s a w → ∀ Q : Exit → Act → World → Prop, (∀ s' a' w', R s' → Rel E s' a' w' → Q .normal a' w') → wpAny P .any ops Q n listed a w
/-- Each of the operations below k is not ready, or may be the next. -/
inductive YB (P : Program) (ops : Array Oper) (R : St → Prop) (n : Nat) (listed : Array Bool) (s : St) : Nat → Prop where
  | z : YB P ops R n listed s 0
  | skip {k} (h : k ∉ Region.ready .any ops listed) (hr : YB P ops R n listed s k) : YB P ops R n listed s (k + 1)
  | go {k o} (ho : ops[k]? = some o) (h : L P ops [o] (Y P ops R n (listed.setIfInBounds k true)) s) (hr : YB P ops R n listed s k) : YB P ops R n listed s (k + 1)
section
variable {P : Program} {ops : Array Oper} {R : St → Prop} {n : Nat} {listed : Array Bool} {s : St}
theorem YB.at {m k : Nat} (h : YB P ops R n listed s m) (hk : k < m) (hr : k ∈ Region.ready .any ops listed) : ∃ o, ops[k]? = some o ∧ L P ops [o] (Y P ops R n (listed.setIfInBounds k true)) s := by
  induction h with
  | z => omega
  | @skip q h _ ih =>
    by_cases e : k = q
    · subst e; exact absurd hr h
    · exact ih (by omega)
  | @go q o ho h _ ih =>
    by_cases e : k = q
    · subst e; exact ⟨o, ho, h⟩
    · exact ih (by omega)
end
end Eng
end Go.Proofs.YtmfbcipjknjicaaGreatDoor
/- The program's classes of positions and of sums. For all arguments. -/
namespace Go.Proofs.YtmfbcipjknjicaaGreatDoor
open Eng
attribute [local irreducible] OpS OpG FC FCr Rel Fl Ef DR Fs
attribute [local simp] RV.fzR_names
set_option linter.unusedSimpArgs false
set_option linter.unusedVariables false
set_option maxHeartbeats 0
set_option maxRecDepth 100000

end Go.Proofs.YtmfbcipjknjicaaGreatDoor
