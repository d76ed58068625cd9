/- Rules of the engine: a call with a condition that is handed one block, in a region that draws its order. No condition. -/
import Derived.Test.YtmfbcipjknjicaaGreatDoorEf
namespace Go.Proofs.YtmfbcipjknjicaaGreatDoor
open Eng
attribute [local irreducible] OpS OpG FC FCr Rel Fl Ef DR Fs
set_option linter.unusedSimpArgs false
set_option linter.unusedVariables false
set_option maxHeartbeats 0
set_option maxRecDepth 100000

namespace Eng
section
variable {P : Program} {s : St} {d : Tmp} {ty : TypeId} {pos : String} {after : Array Edge}
theorem Ef.callPY {ops : Array Oper} {f args ats argsR r j want t b} (n : Nat) {k : Nat} {els : List RV} (els' : List RV) (hj : gslot ops j = some t := by rfl) (ht : lget s.fr t = .v (.bool b) := by rfl) (hb : b = want := by rfl) (ho : olook n s.O = some (k, els) := by rfl) (hargs : RV.renL (pin1 n) (args.toList.map s.get) = argsR := by first | rfl | (simp only [vw, ng, nm, nz, nf, nr, pin1, reduceIte, Nat.reduceEqDiff]; rfl) | (simp [ng, pin1]; fail_if_success show _)) (hnt : (args.toList.map s.get).all RV.notTup = true := by rfl)
    (hna : ∀ q ∈ RV.namesL (args.toList.map s.get), q = n := by intro q hq; revert hq; simp [St.get, lget, nm]) (hc : callable P f = true := by kernel_rfl) (hfc : FC P f argsR [(1000000000000, k, els)] fun rv O => rv = r ∧ O = [(1000000000000, k, els')])
    (hM : RV.namesL els = [] := by simp [nm]) (hM' : RV.namesL els' = [] := by simp [nm]) (hr : r.resOkT = true := by simp [RV.resOkT, RV.resOk, RV.isAgg, nm]) (hnb : (bnames (openR d r).2).Nodup := by simp [nz, nm]) (hf : ∀ m ∈ bnames (openR d r).2, m < 1000000000000 ∧ m ∉ n :: onames (oerase n s.O) := by simp [nz, nm]) :
    Ef P ops (bnames (openR d r).2) ⟨some d, .call ⟨.value (.func f), args, ats⟩, ty, pos, after, some (j, want)⟩ s (openR d r).1 ((openR d r).2 ++ oset n els' s.O) := by
  refine Ef.yes hj ht hb fun s2 hs hO hn => ?_
  have hg : ∀ x ∈ args.toList, s2.get x = s.get x := fun x hx => hs x (by simp only [Op.operands, Call.operands, Array.toList_append]; simp [hx])
  have e : args.toList.map s2.get = args.toList.map s.get := List.map_congr_left hg
  have := ops_callP (P := P) (s := s2) (d := d) (ty := ty) (pos := pos) (after := after) (g := some (j, want)) (f := f) (args := args) (ats := ats) (argsR := argsR) (r := r) n els' (hO ▸ ho) (e ▸ hargs) (e ▸ hnt) (e ▸ hna) hc hfc hM hM' hr hnb (fun m hm => ⟨(hf m hm).1, hn m hm, hO ▸ (hf m hm).2⟩)
  rw [hO] at this
  exact this
end
end Eng
end Go.Proofs.YtmfbcipjknjicaaGreatDoor
