/- Calls of which it is told only that their results are of some form: contracts with 'there is'. No condition. -/
import Derived.Test.YtmfbcipjknjicaaEf
import Derived.Test.YtmfbcipjknjicaaInts
namespace Go.Proofs.Ytmfbcipjknjicaa
open Eng
set_option linter.unusedSimpArgs false
set_option maxHeartbeats 0
set_option maxRecDepth 100000
namespace Eng
open Go.RowKit
section
variable {P : Program} {s : St} {d : Tmp} {ty : TypeId} {pos : String} {after : Array Edge} {g : Option (Nat × Bool)}
/-- An operation behind which the state is one of several. -/
def OpX {ι : Type} (P : Program) (o : Oper) (s : St) (C : ι → Prop) (S : ι → St) : Prop :=
  ∀ E a w, Rel E s a w → ∀ (K : Act → World → Prop) (Q : Exit → Act → World → Prop), (∀ x, C x → ∀ a' w', Rel E (S x) a' w' → K a' w') → o.wp P a w K Q
theorem l_opx {ι : Type} {ops o rest R} {C : ι → Prop} {S : ι → St} (hg : o.guard = none) (h : OpX P o s C S) (hk : ∀ x, C x → L P ops rest R (S x)) : L P ops (o :: rest) R s :=
  ⟨fun E a w hr Q hQ => wpList_plain hg fun K hK => h E a w hr K Q fun x hx a' w' hr' => hK _ _ ((hk x hx).out E a' w' hr' Q hQ)⟩
theorem en_mono {fn Post Post' e} (h : EN P fn Post e s) (hp : ∀ rv O, Post rv O → Post' rv O) : EN P fn Post' e s := by
  refine ⟨?_⟩
  have h1 := h.out
  cases e with
  | normal =>
    intro E a w hr
    obtain ⟨v, rv, Oo, F, ρ, fp1, fp2, h2, h3, h4⟩ := h1 E a w hr
    exact ⟨v, rv, Oo, F, ρ, fp1, fp2, h2, hp _ _ h3, h4⟩
  | ret =>
    intro E a w hr
    obtain ⟨v, rv, Oo, F, ρ, fp1, fp2, h2, h3, h4⟩ := h1 E a w hr
    exact ⟨v, rv, Oo, F, ρ, fp1, fp2, h2, hp _ _ h3, h4⟩
  | _ => exact h1
/-- The end of a function whose contract says 'there is'. -/
theorem en_ex {ι : Type} {C : ι → Prop} {r : ι → RV} {Oout : ι → List Bk} {fn e} (x : ι) (hC : C x) (h : EN P fn (fun rv O => rv = r x ∧ O = Oout x) e s) : EN P fn (fun rv O => ∃ x, C x ∧ rv = r x ∧ O = Oout x) e s :=
  en_mono h fun _ _ hh => ⟨x, hC, hh.1, hh.2⟩
end
end Eng
end Go.Proofs.Ytmfbcipjknjicaa
