/- Calls of which it is told only that their results are of some form: contracts with 'there is'. No condition. -/
import Derived.Test.YtmfbcipjknjicaaEf
import Derived.Test.YtmfbcipjknjicaaJ6
namespace Go.Proofs.Ytmfbcipjknjicaa
open Eng
set_option linter.unusedSimpArgs false
set_option maxHeartbeats 0
set_option maxRecDepth 100000
namespace Eng
open Go.RowKit
section
variable {P : Program} {s : St} {d : Tmp} {ty : TypeId} {pos : String} {after : Array Edge} {g : Option (Nat × Bool)}
/-- An operation behind which the state is one of several. -/
def OpX {ι : Type} (P : Program) (o : Oper) (s : St) (C : ι → Prop) (S : ι → St) : Prop :=
  ∀ E a w, Rel E s a w → ∀ (K : Act → World → Prop) (Q : Exit → Act → World → Prop), (∀ x, C x → ∀ a' w', Rel E (S x) a' w' → K a' w') → o.wp P a w K Q
theorem l_opx {ι : Type} {ops o rest R} {C : ι → Prop} {S : ι → St} (hg : o.guard = none) (h : OpX P o s C S) (hk : ∀ x, C x → L P ops rest R (S x)) : L P ops (o :: rest) R s :=
  ⟨fun E a w hr Q hQ => wpList_plain hg fun K hK => h E a w hr K Q fun x hx a' w' hr' => hK _ _ ((hk x hx).out E a' w' hr' Q hQ)⟩
theorem en_mono {fn Post Post' e} (h : EN P fn Post e s) (hp : ∀ rv O, Post rv O → Post' rv O) : EN P fn Post' e s := by
  refine ⟨?_⟩
  have h1 := h.out
  cases e with
  | normal =>
    intro E a w hr
    obtain ⟨v, rv, Oo, F, ρ, fp1, fp2, h2, h3, h4⟩ := h1 E a w hr
    exact ⟨v, rv, Oo, F, ρ, fp1, fp2, h2, hp _ _ h3, h4⟩
  | ret =>
    intro E a w hr
    obtain ⟨v, rv, Oo, F, ρ, fp1, fp2, h2, h3, h4⟩ := h1 E a w hr
    exact ⟨v, rv, Oo, F, ρ, fp1, fp2, h2, hp _ _ h3, h4⟩
  | _ => exact h1
/-- The end of a function whose contract says 'there is'. -/
theorem en_ex {ι : Type} {C : ι → Prop} {r : ι → RV} {Oout : ι → List Bk} {fn e} (x : ι) (hC : C x) (h : EN P fn (fun rv O => rv = r x ∧ O = Oout x) e s) : EN P fn (fun rv O => ∃ x, C x ∧ rv = r x ∧ O = Oout x) e s :=
  en_mono h fun _ _ hh => ⟨x, hC, hh.1, hh.2⟩
end
end Eng
end Go.Proofs.Ytmfbcipjknjicaa
/- Calls whose result is a pointer to a new block, with others that it leads to. No condition. -/
namespace Go.Proofs.Ytmfbcipjknjicaa
open Eng
set_option linter.unusedSimpArgs false
set_option linter.unusedVariables false
set_option maxHeartbeats 0
set_option maxRecDepth 100000
namespace Eng
open Go.RowKit
section
variable {P : Program} {s : St} {d : Tmp} {ty : TypeId} {pos : String} {after : Array Edge} {g : Option (Nat × Bool)}
theorem ops_callN (δ : Nat) {f args ats argsR} {n i j : Nat} {Onew : List Bk}
    (hfc : FC P f argsR [] fun rv O' => rv = .ptr n i j ∧ O' = Onew)
    (hargs : args.toList.map s.get = argsR) (hnt : (args.toList.map s.get).all RV.notTup = true) (hc : callable P f = true)
    (hm : ∀ q ∈ n :: onames Onew, q + δ < 1000000000000 ∧ q + δ ∉ RV.namesL s.fr ∧ q + δ ∉ onames s.O) :
    OpS P ⟨some d, .call ⟨.value (.func f), args, ats⟩, ty, pos, after, none⟩ s ⟨lset s.fr d (.ptr (n + δ) i j), renO (· + δ) Onew ++ s.O⟩ := by
  rintro E a w ⟨F, ρ, fp, h⟩ K Q hK
  have hA : SL w F ρ argsR (args.toList.map a.eval) [] := hargs ▸ h.args args.toList hnt
  simp only [Oper.wp, run_call (a := a) (w := w) (o := ⟨some d, .call ⟨.value (.func f), args, ats⟩, ty, pos, after, none⟩) rfl hc, Oper.upon_enter]
  have hgk := h.O.gok
  have hcall := hfc w F ρ (args.toList.map a.eval) [] hA (.nil hgk) (by simp) (by simp) h.Fs
  rw [show (args.map a.eval) = (args.toList.map a.eval).toArray from Array.ext' (by rw [Array.toList_map])]
  refine hcall.mono ?_
  rintro e w' ⟨v, rv, Oout', F', ρ', fp1, fp2, rfl, ⟨rfl, rfl⟩, hsv, hO2, hnd, hfpX, hF, hF', hb, hsz, h1, h2, h3, hpin⟩
  have hnd1 := List.nodup_append.1 hnd
  have hb2 : ∀ b, b < w.heap.size → w'.heap[b]? = w.heap[b]? := fun b hlt => hb b hlt (by simp)
  have hF2 : ∀ b, F' b → (F b ∨ w.heap.size ≤ b) ∧ b < w'.heap.size := fun b hx => by
    have := hF' b hx
    simpa using this
  have hw := h.world hF hF2 hb2 hsz h1 h2 h3
  have hnew : ∀ b, b ∈ fp1 ∨ b ∈ fp2 → ¬ F' b ∧ w.heap.size ≤ b := fun b hx => by
    have := hfpX b (by simpa using hx)
    simpa using this
  let ρ2 : Places := fun q => if q ∈ (n :: onames Oout').map (· + δ) then ρ' (q - δ) else ρ q
  have hne : ∀ q, q ∉ (n :: onames Oout').map (· + δ) → ρ2 q = ρ q := fun q hq => by
    show (if _ then _ else _) = _
    rw [if_neg hq]
  have hre : ∀ q ∈ n :: onames Oout', ρ2 (q + δ) = ρ' q := fun q hq => by
    show (if _ then _ else _) = _
    rw [if_pos (List.mem_map.2 ⟨q, hq, rfl⟩), Nat.add_sub_cancel]
  have hO3 : OL w' F' ρ2 (renO (· + δ) Oout') fp2 := hO2.ren (· + δ) fun q hq => hre q (List.mem_cons_of_mem _ hq)
  have hfrn : ∀ q ∈ RV.namesL s.fr, q ∉ (n :: onames Oout').map (· + δ) := fun q hq hx => by
    obtain ⟨q', h4, rfl⟩ := List.mem_map.1 hx
    exact (hm q' h4).2.1 hq
  have hOn : ∀ q ∈ onames s.O, q ∉ (n :: onames Oout').map (· + δ) := fun q hq hx => by
    obtain ⟨q', h4, rfl⟩ := List.mem_map.1 hx
    exact (hm q' h4).2.2 hq
  have hsO := hw.O.places (ρ' := ρ2) fun q hq => hne q (hOn q hq)
  have hx : RelX E ⟨s.fr, renO (· + δ) Oout' ++ s.O⟩ a w' F' ρ2 (fp2 ++ fp) := by
    refine ⟨hw.defers, hw.size, fun i => (hw.fr i).places fun q hq => hne q (hfrn q (names_lget _ _ _ hq)), hO3.join hsO, ?_, ?_, ?_, hw.F0, hw.Fn, hw.Fs, hw.keep, hw.hsize, hw.os, hw.tape, hw.output, fun q hq => (hne q (fun hx => ?_)).trans (hw.pin q hq)⟩
    · refine List.nodup_append.2 ⟨hnd1.2.1, h.nodup, fun y hy z hz e => ?_⟩
      subst e
      have := (hnew y (.inr hy)).2
      have := h.O.lt y hz
      omega
    · intro b hx
      rcases List.mem_append.1 hx with hx | hx
      · exact (hnew b (.inr hx)).1
      · exact hw.fpF b hx
    · intro b hx
      rcases List.mem_append.1 hx with hx | hx
      · exact .inr (Nat.le_trans h.hsize (hnew b (.inr hx)).2)
      · exact h.fpE b hx
    · obtain ⟨q', h4, rfl⟩ := List.mem_map.1 hx
      have := (hm q' h4).1
      have hq : 1000000000000 ≤ q' + δ := hq
      omega
  have hS : SV w' F' ρ2 (.ptr (n + δ) i j) v [] := by
    have e := hsv.ptr_inv
    have hp := hsv.ptr_pos
    have hr := hre n (by simp)
    rw [← hr] at hp e
    rw [e]
    exact .one (.cell rfl (.ptr _ _ _ hp (.nil _ _)))
  exact hK _ _ ⟨F', ρ2, _, hx.put (some d) hS⟩
end
end Eng
end Go.Proofs.Ytmfbcipjknjicaa
