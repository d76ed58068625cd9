/- Maps: made, looked up, written. No condition. -/
import Derived.MapKept
import Derived.Carry
import Derived.Test.YtijjcakbhnolhaaDoorEf
namespace Go.Proofs.YtijjcakbhnolhaaDoor
set_option linter.unusedSimpArgs false
set_option maxHeartbeats 0
set_option maxRecDepth 100000
namespace Eng
open Go.RowKit
section
variable {P : Program} {s : St} {d : Tmp} {ty : TypeId} {pos : String} {after : Array Edge} {g : Option (Nat × Bool)}
def OpX' {ι : Type} (P : Program) (o : Oper) (s : St) (C : ι → Prop) (S : ι → St) : Prop :=
  ∀ E a w, Rel E s a w → ∀ (K : Act → World → Prop) (Q : Exit → Act → World → Prop), (∀ x, C x → ∀ a' w', Rel E (S x) a' w' → K a' w') → o.wp P a w K Q
theorem l_opx' {ι : Type} {ops o rest R} {C : ι → Prop} {S : ι → St} (hg : o.guard = none) (h : OpX' P o s C S) (hk : ∀ x, C x → L P ops rest R (S x)) : L P ops (o :: rest) R s :=
  ⟨fun E a w hr Q hQ => wpList_plain hg fun K hK => h E a w hr K Q fun x hx a' w' hr' => hK _ _ ((hk x hx).out E a' w' hr' Q hQ)⟩
end

/-! Maps from strings to ints. -/
abbrev mSI (l : List (List UInt8 × Int)) : List (Value × Value) := l.map fun p => (.string ⟨p.1.toArray⟩, .int .i64 p.2)
def MSI (b : Nat) (l : List (List UInt8 × Int)) : List RV := mapEls b (mSI l)
@[simp] theorem MSI_names (b : Nat) (l : List (List UInt8 × Int)) : RV.namesL (MSI b l) = [] := mapEls_names _ _
@[simp] theorem MSI_ren (σ : Nat → Nat) (b : Nat) (l : List (List UInt8 × Int)) : RV.renL σ (MSI b l) = MSI b l := mapEls_ren _ _ _
/-! .. and from ints to bools. -/
abbrev mIB (l : List (Int × Bool)) : List (Value × Value) := l.map fun p => (.int .i64 p.1, .bool p.2)
def MIB (b : Nat) (l : List (Int × Bool)) : List RV := mapEls b (mIB l)
@[simp] theorem MIB_names (b : Nat) (l : List (Int × Bool)) : RV.namesL (MIB b l) = [] := mapEls_names _ _
@[simp] theorem MIB_ren (σ : Nat → Nat) (b : Nat) (l : List (Int × Bool)) : RV.renL σ (MIB b l) = MIB b l := mapEls_ren _ _ _
section
variable {P : Program} {s : St} {d : Tmp} {ty : TypeId} {pos : String} {after : Array Edge} {g : Option (Nat × Bool)}
end
end Eng
end Go.Proofs.YtijjcakbhnolhaaDoor
