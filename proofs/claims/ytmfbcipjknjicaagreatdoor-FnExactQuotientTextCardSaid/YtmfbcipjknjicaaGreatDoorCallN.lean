/- Calls whose result is a pointer to a new block, with others that it leads to. No condition. -/
import Derived.Test.YtmfbcipjknjicaaGreatDoorJ26
namespace Go.Proofs.YtmfbcipjknjicaaGreatDoor
open Eng
set_option linter.unusedSimpArgs false
set_option linter.unusedVariables false
set_option maxHeartbeats 0
set_option maxRecDepth 100000
namespace Eng
open Go.RowKit
section
variable {P : Program} {s : St} {d : Tmp} {ty : TypeId} {pos : String} {after : Array Edge} {g : Option (Nat × Bool)}
theorem ops_callN (δ : Nat) {f args ats argsR} {n i j : Nat} {Onew : List Bk}
    (hfc : FC P f argsR [] fun rv O' => rv = .ptr n i j ∧ O' = Onew)
    (hargs : args.toList.map s.get = argsR) (hnt : (args.toList.map s.get).all RV.notTup = true) (hc : callable P f = true)
    (hm : ∀ q ∈ n :: onames Onew, q + δ < 1000000000000 ∧ q + δ ∉ RV.namesL s.fr ∧ q + δ ∉ onames s.O) :
    OpS P ⟨some d, .call ⟨.value (.func f), args, ats⟩, ty, pos, after, none⟩ s ⟨lset s.fr d (.ptr (n + δ) i j), renO (· + δ) Onew ++ s.O⟩ := by
  rintro E a w ⟨F, ρ, fp, h⟩ K Q hK
  have hA : SL w F ρ argsR (args.toList.map a.eval) [] := hargs ▸ h.args args.toList hnt
  simp only [Oper.wp, run_call (a := a) (w := w) (o := ⟨some d, .call ⟨.value (.func f), args, ats⟩, ty, pos, after, none⟩) rfl hc, Oper.upon_enter]
  have hgk := h.O.gok
  have hcall := hfc w F ρ (args.toList.map a.eval) [] hA (.nil hgk) (by simp) (by simp) h.Fs
  rw [show (args.map a.eval) = (args.toList.map a.eval).toArray from Array.ext' (by rw [Array.toList_map])]
  refine hcall.mono ?_
  rintro e w' ⟨v, rv, Oout', F', ρ', fp1, fp2, rfl, ⟨rfl, rfl⟩, hsv, hO2, hnd, hfpX, hF, hF', hb, hsz, h1, h2, h3, hpin⟩
  have hnd1 := List.nodup_append.1 hnd
  have hb2 : ∀ b, b < w.heap.size → w'.heap[b]? = w.heap[b]? := fun b hlt => hb b hlt (by simp)
  have hF2 : ∀ b, F' b → (F b ∨ w.heap.size ≤ b) ∧ b < w'.heap.size := fun b hx => by
    have := hF' b hx
    simpa using this
  have hw := h.world hF hF2 hb2 hsz h1 h2 h3
  have hnew : ∀ b, b ∈ fp1 ∨ b ∈ fp2 → ¬ F' b ∧ w.heap.size ≤ b := fun b hx => by
    have := hfpX b (by simpa using hx)
    simpa using this
  let ρ2 : Places := fun q => if q ∈ (n :: onames Oout').map (· + δ) then ρ' (q - δ) else ρ q
  have hne : ∀ q, q ∉ (n :: onames Oout').map (· + δ) → ρ2 q = ρ q := fun q hq => by
    show (if _ then _ else _) = _
    rw [if_neg hq]
  have hre : ∀ q ∈ n :: onames Oout', ρ2 (q + δ) = ρ' q := fun q hq => by
    show (if _ then _ else _) = _
    rw [if_pos (List.mem_map.2 ⟨q, hq, rfl⟩), Nat.add_sub_cancel]
  have hO3 : OL w' F' ρ2 (renO (· + δ) Oout') fp2 := hO2.ren (· + δ) fun q hq => hre q (List.mem_cons_of_mem _ hq)
  have hfrn : ∀ q ∈ RV.namesL s.fr, q ∉ (n :: onames Oout').map (· + δ) := fun q hq hx => by
    obtain ⟨q', h4, rfl⟩ := List.mem_map.1 hx
    exact (hm q' h4).2.1 hq
  have hOn : ∀ q ∈ onames s.O, q ∉ (n :: onames Oout').map (· + δ) := fun q hq hx => by
    obtain ⟨q', h4, rfl⟩ := List.mem_map.1 hx
    exact (hm q' h4).2.2 hq
  have hsO := hw.O.places (ρ' := ρ2) fun q hq => hne q (hOn q hq)
  have hx : RelX E ⟨s.fr, renO (· + δ) Oout' ++ s.O⟩ a w' F' ρ2 (fp2 ++ fp) := by
    refine ⟨hw.defers, hw.size, fun i => (hw.fr i).places fun q hq => hne q (hfrn q (names_lget _ _ _ hq)), hO3.join hsO, ?_, ?_, ?_, hw.F0, hw.Fn, hw.Fs, hw.keep, hw.hsize, hw.os, hw.tape, hw.output, fun q hq => (hne q (fun hx => ?_)).trans (hw.pin q hq)⟩
    · refine List.nodup_append.2 ⟨hnd1.2.1, h.nodup, fun y hy z hz e => ?_⟩
      subst e
      have := (hnew y (.inr hy)).2
      have := h.O.lt y hz
      omega
    · intro b hx
      rcases List.mem_append.1 hx with hx | hx
      · exact (hnew b (.inr hx)).1
      · exact hw.fpF b hx
    · intro b hx
      rcases List.mem_append.1 hx with hx | hx
      · exact .inr (Nat.le_trans h.hsize (hnew b (.inr hx)).2)
      · exact h.fpE b hx
    · obtain ⟨q', h4, rfl⟩ := List.mem_map.1 hx
      have := (hm q' h4).1
      have hq : 1000000000000 ≤ q' + δ := hq
      omega
  have hS : SV w' F' ρ2 (.ptr (n + δ) i j) v [] := by
    have e := hsv.ptr_inv
    have hp := hsv.ptr_pos
    have hr := hre n (by simp)
    rw [← hr] at hp e
    rw [e]
    exact .one (.cell rfl (.ptr _ _ _ hp (.nil _ _)))
  exact hK _ _ ⟨F', ρ2, _, hx.put (some d) hS⟩
end
end Eng
end Go.Proofs.YtmfbcipjknjicaaGreatDoor
