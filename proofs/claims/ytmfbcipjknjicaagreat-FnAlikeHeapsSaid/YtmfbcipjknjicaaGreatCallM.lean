/- Calls whose result comes with one new block: a map. No condition. -/
import Derived.Test.YtmfbcipjknjicaaGreatCallX
import Derived.Test.YtmfbcipjknjicaaGreatMp
namespace Go.Proofs.YtmfbcipjknjicaaGreat
open Eng
set_option linter.unusedSimpArgs false
set_option linter.unusedVariables false
set_option maxHeartbeats 0
set_option maxRecDepth 100000
namespace Eng
open Go.RowKit
section
variable {P : Program} {s : St} {d : Tmp} {ty : TypeId} {pos : String} {after : Array Edge} {g : Option (Nat × Bool)}
theorem opx_callM {ι : Type} {C : ι → Prop} {r : ι → RV} {els : ι → List RV} {k n0 : Nat} {f args ats argsR} (m : Nat)
    (hfc : FC P f argsR [] fun rv O' => ∃ x, C x ∧ rv = r x ∧ O' = [(n0, k, els x)])
    (hargs : args.toList.map s.get = argsR) (hnt : (args.toList.map s.get).all RV.notTup = true) (hna : RV.namesL argsR = []) (hc : callable P f = true)
    (hels : ∀ x, RV.namesL (els x) = []) (hr : ∀ x, (r x).resOkT = true) (hop : ∀ x, openR d (r x) = (r x, [])) (hm : m < 1000000000000 ∧ m ∉ RV.namesL s.fr) (hmO : m ∉ onames s.O) :
    OpX P ⟨some d, .call ⟨.value (.func f), args, ats⟩, ty, pos, after, none⟩ s C fun x => ⟨lset s.fr d (r x), (m, k, els x) :: s.O⟩ := by
  rintro E a w ⟨F, ρ, fp, h⟩ K Q hK
  have hA : SL w F ρ argsR (args.toList.map a.eval) [] := hargs ▸ h.args args.toList hnt
  simp only [Oper.wp, run_call (a := a) (w := w) (o := ⟨some d, .call ⟨.value (.func f), args, ats⟩, ty, pos, after, none⟩) rfl hc, Oper.upon_enter]
  have hgk := h.O.gok
  have hcall := hfc w F ρ (args.toList.map a.eval) [] hA (.nil hgk) (by simp) (by simp) h.Fs
  rw [show (args.map a.eval) = (args.toList.map a.eval).toArray from Array.ext' (by rw [Array.toList_map])]
  refine hcall.mono ?_
  rintro e w' ⟨v, rv, Oout', F', ρ', fp1, fp2, rfl, ⟨x, hCx, rfl, rfl⟩, hsv, hO2, hnd, hfpX, hF, hF', hb, hsz, h1, h2, h3, hpin⟩
  have hnd1 := List.nodup_append.1 hnd
  have hb2 : ∀ b, b < w.heap.size → w'.heap[b]? = w.heap[b]? := fun b hlt => hb b hlt (by simp)
  have hF2 : ∀ b, F' b → (F b ∨ w.heap.size ≤ b) ∧ b < w'.heap.size := fun b hx => by
    have := hF' b hx
    simpa using this
  have hw := h.world hF hF2 hb2 hsz h1 h2 h3
  have hnew : ∀ b, b ∈ fp1 ∨ b ∈ fp2 → ¬ F' b ∧ w.heap.size ≤ b := fun b hx => by
    have := hfpX b (by simpa using hx)
    simpa using this
  let ρ2 : Places := fun q => if q = m then ρ' n0 else ρ q
  have hne : ∀ q, q ≠ m → ρ2 q = ρ q := fun q hq => by simp [ρ2, hq]
  have hO3 : OL w' F' ρ2 [(m, k, els x)] fp2 := by
    have := hO2.ren (ρ' := ρ2) (fun q => if q = n0 then m else q) fun q hq => by
      simp [onames, hels x] at hq
      subst hq
      simp [ρ2]
    simpa [renO, renL_id (hels x)] using this
  have hsO := hw.O.places (ρ' := ρ2) fun q hq => hne q fun e => hmO (e ▸ hq)
  have hx : RelX E ⟨s.fr, (m, k, els x) :: s.O⟩ a w' F' ρ2 (fp2 ++ fp) := by
    refine ⟨hw.defers, hw.size, fun i => (hw.fr i).places fun q hq => hne q (fun e => hm.2 (e ▸ names_lget _ _ _ hq)), hO3.join hsO, ?_, ?_, ?_, hw.F0, hw.Fn, hw.Fs, hw.keep, hw.hsize, hw.os, hw.tape, hw.output, fun n hn => (hne n (fun e => by subst e; omega)).trans (hw.pin n hn)⟩
    · refine List.nodup_append.2 ⟨hnd1.2.1, h.nodup, fun y hy z hz e => ?_⟩
      subst e
      have := (hnew y (.inr hy)).2
      have := h.O.lt y hz
      omega
    · intro b hx
      rcases List.mem_append.1 hx with hx | hx
      · exact (hnew b (.inr hx)).1
      · exact hw.fpF b hx
    · intro b hx
      rcases List.mem_append.1 hx with hx | hx
      · exact .inr (Nat.le_trans h.hsize (hnew b (.inr hx)).2)
      · exact h.fpE b hx
  obtain ⟨ρ3, hOp, hS⟩ := (hsv.places (ρ' := ρ2) fun q hq => by rw [RV.resOkT_names (hr x)] at hq; cases hq).opn d (hr x) (by rw [hop x]; simp [bnames])
  rw [hop x] at hOp hS
  obtain ⟨fp', hy⟩ := hx.opens hOp (by simp [bnames]) (List.nodup_append.2 ⟨hnd1.1, hx.nodup, fun y hy z hz e => by
    subst e
    rcases List.mem_append.1 hz with hz | hz
    · exact hnd1.2.2 y hy y hz rfl
    · have := (hnew y (.inl hy)).2
      have := h.O.lt y hz
      omega⟩) (fun y hy => ⟨(hnew y (.inl hy)).1, .inr (Nat.le_trans h.hsize (hnew y (.inl hy)).2)⟩)
  exact hK x hCx _ _ ⟨F', ρ3, fp', hy.put (some d) hS⟩
theorem l_callM {ι : Type} {ops : Array Oper} {rest R} {fr : List RV} {O : List Bk} {C : ι → Prop} {r : ι → RV} {els : ι → List RV} {k n0 : Nat} {f args ats argsR}
    (hfc : FC P f argsR [] fun rv O' => ∃ x, C x ∧ rv = r x ∧ O' = [(n0, k, els x)])
    (hargs : args.toList.map (⟨fr, O⟩ : St).get = argsR := by rfl) (hnt : (args.toList.map (⟨fr, O⟩ : St).get).all RV.notTup = true := by rfl) (hna : RV.namesL argsR = [] := by simp [nm]) (hc : callable P f = true := by kernel_rfl)
    (hels : ∀ x, RV.namesL (els x) = [] := by intro x; simp [nm]) (hr : ∀ x, (r x).resOkT = true := by intro x; simp [RV.resOkT, RV.resOk, RV.isAgg, nm]) (hop : ∀ x, openR d (r x) = (r x, []) := by intro x; rfl)
    (hm : d < 1000000000000 ∧ d ∉ RV.namesL fr := by simp [nm]) (hmO : d ∉ onames O := by simp [nm, onames]) {fr' : ι → List RV} (e : ∀ x, lset fr d (r x) = fr' x := by intro x; simp only [lset] <;> rfl)
    (hk : ∀ x, C x → L P ops rest R ⟨fr' x, (d, k, els x) :: O⟩) : L P ops (⟨some d, .call ⟨.value (.func f), args, ats⟩, ty, pos, after, none⟩ :: rest) R ⟨fr, O⟩ :=
  l_opx rfl (opx_callM d hfc hargs hnt hna hc hels hr hop hm hmO) fun x hx => by have := hk x hx; rw [← e x] at this; exact this
end
end Eng
end Go.Proofs.YtmfbcipjknjicaaGreat
