/- A region that draws its order, order by order. No condition. -/
import Derived.Test.YtmfbcipjknjicaaGreatDoorBoxS
import Derived.Test.YtmfbcipjknjicaaGreatDoorEf
namespace Go.Proofs.YtmfbcipjknjicaaGreatDoor
namespace Eng
open Go.RowKit
set_option linter.unusedSimpArgs false
set_option linter.unusedVariables false

def Qx (K : Act → World → Prop) (Q : Exit → Act → World → Prop) : Exit → Act → World → Prop
  | .normal => K
  | e => Q e
theorem wp_qx {P : Program} {o : Oper} {a : Act} {w : World} {K : Act → World → Prop} {Q : Exit → Act → World → Prop} (h : o.wp P a w K (Qx K Q)) : o.wp P a w K Q := by
  unfold Oper.wp at h ⊢
  generalize (execOp a.eval o).run P w = r at h ⊢
  unfold Oper.upon at h ⊢
  split at h <;> first | exact h | exact h.elim
structure Y (P : Program) (ops : Array Oper) (R : St → Prop) (n : Nat) (listed : Array Bool) (s : St) : Prop where
  out : ∀ E a w, Rel E s a w → ∀ Q : Exit → Act → World → Prop, (∀ s' a' w', R s' → Rel E s' a' w' → Q .normal a' w') → wpAny P .any ops Q n listed a w
inductive YB (P : Program) (ops : Array Oper) (R : St → Prop) (n : Nat) (listed : Array Bool) (s : St) : Nat → Prop where
  | z : YB P ops R n listed s 0
  | skip {k} (h : k ∉ Region.ready .any ops listed) (hr : YB P ops R n listed s k) : YB P ops R n listed s (k + 1)
  | go {k o} (ho : ops[k]? = some o) (h : L P ops [o] (Y P ops R n (listed.setIfInBounds k true)) s) (hr : YB P ops R n listed s k) : YB P ops R n listed s (k + 1)
section
variable {P : Program} {ops : Array Oper} {R : St → Prop} {n : Nat} {listed : Array Bool} {s : St}
theorem YB.at {m k : Nat} (h : YB P ops R n listed s m) (hk : k < m) (hr : k ∈ Region.ready .any ops listed) : ∃ o, ops[k]? = some o ∧ L P ops [o] (Y P ops R n (listed.setIfInBounds k true)) s := by
  induction h with
  | z => omega
  | @skip q h _ ih =>
    by_cases e : k = q
    · subst e; exact absurd hr h
    · exact ih (by omega)
  | @go q o ho h _ ih =>
    by_cases e : k = q
    · subst e; exact ⟨o, ho, h⟩
    · exact ih (by omega)
theorem y_fin (h : Region.ready .any ops listed = []) (hR : R s) : Y P ops R n listed s := by
  refine ⟨fun E a w hr Q hQ => ?_⟩
  cases n with
  | zero => exact ⟨h, hQ s a w hR hr⟩
  | succ n => exact ⟨fun _ => hQ s a w hR hr, fun i hi => by rw [h] at hi; cases hi⟩
theorem y_go (h : (Region.ready .any ops listed).isEmpty = false) (hY : YB P ops R n listed s ops.size) : Y P ops R (n + 1) listed s := by
  refine ⟨fun E a w hr Q hQ => ⟨fun h0 => absurd h (by rw [h0]; simp), fun i hi => ?_⟩⟩
  obtain ⟨h1, o1, ho1, _⟩ := mem_ready.1 hi
  have hlt : i < ops.size := (Array.getElem?_eq_some_iff.1 ho1).1
  obtain ⟨o, ho, hL⟩ := hY.at hlt hi
  have h2 := hL.out E a w hr (Qx (wpAny P .any ops Q n (listed.setIfInBounds i true)) Q) (fun s' a' w' hs hr' => hs.out E a' w' hr' Q hQ)
  simp only [wpOp, ho]
  simp only [wpList] at h2
  split at h2
  · rename_i hw
    rw [if_pos hw]
    rcases h2 with h2 | ⟨h3, h4⟩
    · exact .inl (wp_qx h2)
    · exact .inr ⟨h3, h4⟩
  · rename_i hw
    rw [if_neg hw]
    exact h2
theorem yb_z : YB P ops R n listed s 0 := .z
theorem yb_skip {k} (h : k ∉ Region.ready .any ops listed) (hr : YB P ops R n listed s k) : YB P ops R n listed s (k + 1) := .skip h hr
theorem yb_go {k o} (ho : ops[k]? = some o) (h : L P ops [o] (Y P ops R n (listed.setIfInBounds k true)) s) (hr : YB P ops R n listed s k) : YB P ops R n listed s (k + 1) := .go ho h hr
end
theorem w_drawE {P : Program} {id : Nat} {l : List Oper} {R : Exit → St → Prop} {fr : List RV} {O : List Bk} (hm : P.follows .mixedOrders = true) (h : Y P l.toArray (R .normal) l.toArray.size (Array.replicate l.toArray.size false) ⟨fr, O⟩) : W P (.region id l.toArray true) R ⟨fr, O⟩ := by
  refine ⟨fun E a w hr => ?_⟩
  refine wp_region_any hm ?_
  exact h.out E a _ hr.drew _ fun s' a' w' h1 h2 => ⟨s', h1, h2⟩
end Eng
end Go.Proofs.YtmfbcipjknjicaaGreatDoor
/- The program's classes of positions and of sums. For all arguments. -/
namespace Go.Proofs.YtmfbcipjknjicaaGreatDoor
open Eng
attribute [local irreducible] OpS OpG FC FCr Rel Fl Ef DR Fs
attribute [local simp] RV.fzR_names
set_option linter.unusedSimpArgs false
set_option linter.unusedVariables false
set_option maxHeartbeats 0
set_option maxRecDepth 100000

theorem admB_nat {c : List Int} {s m : Int} {h : List Int} (ha : admB c s m h = true) : ∃ a b : Nat, s = a ∧ m = b ∧ 1 ≤ a ∧ 1 ≤ b ∧ a ≤ 6 ∧ b ≤ 6 ∧ a * b ≤ 6 ∧ gcode c = true ∧ okS a b h := by
  simp only [admB, Bool.and_eq_true, decide_eq_true_eq] at ha
  obtain ⟨a, b, rfl, rfl, h1, h2, h3, h4, h5⟩ := goodB_nat ha.1
  refine ⟨a, b, rfl, rfl, h1, h2, h3, h4, h5, ha.2.1.1, ha.2.1.2, ?_⟩
  have := ha.2.2
  rw [← Int.natCast_mul] at this
  omega
end Go.Proofs.YtmfbcipjknjicaaGreatDoor
