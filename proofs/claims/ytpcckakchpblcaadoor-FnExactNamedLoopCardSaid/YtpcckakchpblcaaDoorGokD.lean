/- From a row's list to the cells of strconv's errors. No condition. -/
import Derived.Lib.LaidU8
import Derived.MakeChecks
import Derived.Lib.AtoiErrMem
import Derived.Test.YtpcckakchpblcaaDoorLaid
import Derived.Test.YtpcckakchpblcaaDoorReadL
namespace Go.Proofs.YtpcckakchpblcaaDoor
open Eng Go.ChangeShapes Go.WideShapes Go.ChangeAt Go.RowKit
set_option linter.unusedSimpArgs false
set_option maxHeartbeats 0
set_option maxRecDepth 100000
theorem prd_s : PRd Tryd.prog 9 RV.str (fun p => p.length ≤ maxLen) := prd_string Tryd.underlying9
theorem iface_cells {H : Type} {enc : TypeId × Value → H} {P : Program} {w : World} {b : Nat} {sp : Nat → Bool} {fuel : Nat} {t : TypeId} {ms : Array (String × TypeId)} {cs : List Value} {x : DataW H × List MemPlace} (ht : P.underlying t = some (.interface ms))
    (h : DataW.trod enc P w b sp false fuel t cs = some x) : cs = [.nilIface] ∨ ∃ u v, cs = [.iface u v] := by
  cases fuel with
  | zero => simp [DataW.trod] at h
  | succ n =>
    match cs, h with
    | [], h => simp [DataW.trod, ht] at h
    | [v], h => cases v <;> simp [DataW.trod, ht] at h ⊢
    | _ :: _ :: _, h => simp [DataW.trod, ht] at h
theorem err_cell {W : World} {n : String} {d : DataW Unit} {g : Nat} {t : TypeId} {ms : Array (String × TypeId)} (h : Lib.VarReads Tryd.prog W n d) (hg : Tryd.prog.globalNamed n = some g) (ht : (Tryd.prog.globals[g]?).map (·.type) = some t) (hu : Tryd.prog.underlying t = some (.interface ms)) :
    old W g ∧ ∃ ev, W.cell? ⟨g, 0, none⟩ = some ev ∧ (ev = .nilIface ∨ ∃ te pe, ev = .iface te pe) := by
  obtain ⟨g', t', cs, fuel, p, h1, h2, h3, h4⟩ := h
  obtain rfl := Option.some.inj (hg.symm.trans h1)
  obtain rfl := Option.some.inj (ht.symm.trans h2)
  have hc := World.var?_cell hg h3 0
  rcases iface_cells hu h4 with e | ⟨u, v, e⟩
  · rw [Array.eq_one_of_toList e] at hc
    have hc : W.cell? ⟨g, 0, none⟩ = some .nilIface := by simpa using hc
    exact ⟨Lib.lt_of_cell hc, _, hc, .inl rfl⟩
  · rw [Array.eq_one_of_toList e] at hc
    have hc : W.cell? ⟨g, 0, none⟩ = some (.iface u v) := by simpa using hc
    exact ⟨Lib.lt_of_cell hc, _, hc, .inr ⟨_, _, rfl⟩⟩
theorem gok_of {l : List (String × DataW Unit)} {d1 d2 : DataW Unit} (hp : (l.all fun x => x.2.handleName?.isNone) = true) (m1 : ("strconv.ErrSyntax", d1) ∈ l) (m2 : ("strconv.ErrRange", d2) ∈ l) (W : World) (h : laidMetH Tryd.prog l W) : GOK W (old W) := by
  rw [MakeChecks.laidMetH_plain _ _ _ hp] at h
  have r1 := Lib.laidMet.reads h m1
  have r2 := Lib.laidMet.reads h m2
  intro g hg
  simp only [GLs, List.mem_cons, List.not_mem_nil, or_false] at hg
  rcases hg with rfl | rfl
  · exact err_cell r1 (by kernel_rfl) rfl Tryd.underlying84
  · exact err_cell r2 (by kernel_rfl) rfl Tryd.underlying84
end Go.Proofs.YtpcckakchpblcaaDoor
