/- The library's Grow of the nil list of whole numbers: an owned list without elements. -/
import Derived.Shelf.Spec.SlicesGrow
import Derived.Test.YtmfbcipjknjicaaSortE
namespace Go.Proofs.Ytmfbcipjknjicaa
open Eng Go.Shelf
set_option linter.unusedSimpArgs false
set_option maxHeartbeats 0
set_option maxRecDepth 100000

def growRen : Ren := ⟨fun | 4 => 111 | n => n, fun | 0 => 0 | 3 => 3 | 4 => 4 | 9 => 9 | 20 => 20 | 22 => 24 | 25 => 3 | n => n, fun | n => n⟩
theorem growLays : Go.Proofs.Lays8.n4 Try.prog growRen := {
  mixed := by kernel_rfl
  f4 := ⟨"slices.Grow[[]int,int]", by decide, Try.func111.trans (congrArg some (by kernel_rfl))⟩
  t0 := Try.underlying0
  a0 := Try.isAgg0
  z0 := Try.sizeOf0
  v0 := Try.zeroValue0
  t3 := Try.underlying3
  a3 := Try.isAgg3
  z3 := Try.sizeOf3
  v3 := Try.zeroValue3
  t4 := Try.underlying4
  a4 := Try.isAgg4
  z4 := Try.sizeOf4
  v4 := Try.zeroValue4
  t9 := Try.underlying9
  a9 := Try.isAgg9
  z9 := Try.sizeOf9
  v9 := Try.zeroValue9
  t20 := Try.underlying20
  a20 := Try.isAgg20
  z20 := Try.sizeOf20
  v20 := Try.zeroValue20
  t22 := Try.underlying24
  a22 := Try.isAgg24
  z22 := Try.sizeOf24
  v22 := Try.zeroValue24 }
theorem grow_ok (n : Nat) (hn : n ≤ 1099511627776) : FCr Try.prog 111 [.v (.slice none 0 0), RVn n] (.ow 1 []) := by
  intro w F ρ vals fp hv hO hnd hfF hFs
  have hgk := hO.gok
  cases hO
  have hvl := hv.length
  obtain ⟨x, y, rfl⟩ : ∃ x y, vals = [x, y] := by
    match vals, hvl with
    | [x, y], _ => exact ⟨x, y, rfl⟩
  have hx := hv.get 0
  have hy := hv.get 1
  simp only [lget, List.getD_cons_zero, List.getD_cons_succ] at hx hy
  obtain rfl := hx.exact
  obtain rfl := hy.exact
  rcases Nat.eq_zero_or_pos n with h0 | h0
  · subst h0
    refine (Any8.slices_Grow_room growLays none 0 0 0 w (by omega) (by omega) (by omega) (by omega)).mono ?_
    rintro e w' ⟨rfl, rfl⟩
    refine ⟨.slice none 0 0, .ow 1 [], [], F, ρ, [], [], rfl, ⟨rfl, rfl⟩, .one (.cell rfl (.ownil 1 (by omega) (.nil _ _))), .nil hgk, by simp, fun b hb => by simp at hb, fun b hb => hb, fun b hb => ⟨.inl hb, hFs b hb⟩, fun _ _ _ => rfl, Nat.le_refl _, rfl, TW.refl _, rfl, fun _ _ => rfl⟩
  · have hz : zeroOf Try.prog 3 = some (.int .i64 0) := by kernel_rfl
    have hc1 : Try.prog.cellsOf 3 = 1 := by kernel_rfl
    have hby : (Try.prog.info? 3).map (fun i => decide (i.bytes ≤ 64)) = some true := by kernel_rfl
    cases hi : Try.prog.info? 3 with
    | none => simp [hi] at hby
    | some i0 =>
      simp only [hi, Option.map_some, Option.some.injEq, decide_eq_true_eq] at hby
      have hz' : i0.zero = some (.int .i64 0) := by simpa [zeroOf, hi] using hz
      have hs' : i0.size = 1 := by simpa [Program.cellsOf, hi] using hc1
      have hby2 : (0 + n) * i0.bytes ≤ 140737488355328 := by
        have : n * i0.bytes ≤ n * 64 := Nat.mul_le_mul_left _ hby
        rw [Nat.zero_add]; omega
      refine (Any8.slices_Grow_grow growLays i0 (.int .i64 0) hi hz' (by omega) none 0 0 n [] w (by omega) (by omega) hby2 (by omega) (by simp) (fun _ => rfl) (fun a ha => by cases ha)).mono ?_
      have hG1 := grownCap_ge w (0 + n) 0 (growRen.t 25)
      have hG2 := grownCap_le_maxLen w (0 + n) 0 (growRen.t 25) (by unfold maxLen; omega)
      generalize grownCap w (0 + n) 0 (growRen.t 25) = G at *
      rintro e w' ⟨rfl, rfl⟩
      refine ⟨_, .ow 1 [], [], F, ρ, [w.heap.size], [], rfl, ⟨rfl, rfl⟩, .one (.cell rfl (.ow w.heap.size G _ _ (k := 1) (els := []) (cells := []) (fp1 := []) (fp2 := []) (by omega) (_root_.Go.heap_alloc_new w.drew _) ?_ (by simp) hG2 (by simp) rfl (.nil _ _) (.nil _ _))), .nil (hgk.mono fun b hb => ⟨hb, _root_.Go.heap_alloc_old w.drew _ (hFs b hb)⟩), by simp, ?_, fun b hb => hb, fun b hb => ⟨.inl hb, ?_⟩, fun b hb _ => _root_.Go.heap_alloc_old w.drew _ hb, by simp, rfl, ⟨rfl, Nat.le_succ _⟩, rfl, fun _ _ => rfl⟩
      · simp [Builtin.zeroCells, Value.cells]; omega
      · intro b hb
        simp at hb
        subst hb
        exact ⟨fun h => absurd (hFs _ h) (by omega), .inr (Nat.le_refl _)⟩
      · have := hFs b hb
        simp; omega
end Go.Proofs.Ytmfbcipjknjicaa
