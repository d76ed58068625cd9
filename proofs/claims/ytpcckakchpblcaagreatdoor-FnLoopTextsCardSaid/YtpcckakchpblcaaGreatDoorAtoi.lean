/- The library's Atoi as contracts of the logic: where it is a number; where it isn't: an error that is not nil. For all texts. -/
import Derived.Laws.Entries
import Derived.WideLaws
import Derived.Test.YtpcckakchpblcaaGreatDoorCallX
import Derived.Test.YtpcckakchpblcaaGreatDoorJ6
import Derived.Test.YtpcckakchpblcaaGreatDoorText
namespace Go.Proofs.YtpcckakchpblcaaGreatDoor
namespace Eng
open Go.RowKit
section
variable {P : Program} {s : St} {ty : TypeId} {pos : String} {after : Array Edge} {d : Option Tmp} {g : Option (Nat × Bool)}
theorem ops_nenily {x t u} {d0 : TypeId} {p : Value} (hx : s.get x = .v (.iface d0 p)) (ht : P.underlying t = some (.interface (P.methodsAt t))) : OpS P ⟨d, .binOp .neq t x (.const .nilIface) u, ty, pos, after, g⟩ s ⟨sput d (.v (.bool true)) s.fr, s.O⟩ :=
  ops_exact fun _ a w _ _ _ hr => by
    have e : a.eval (.const .nilIface) = .nilIface := rfl
    simp [execOp, hr.ex hx, e, eqGuard, binOp, run_equal_held_nil w t d0 p ht]
theorem ops_nenilz {x t u} (hx : s.get x = .v .nilIface) (ht : P.underlying t = some (.interface (P.methodsAt t))) : OpS P ⟨d, .binOp .neq t x (.const .nilIface) u, ty, pos, after, g⟩ s ⟨sput d (.v (.bool false)) s.fr, s.O⟩ :=
  ops_exact fun _ a w _ _ _ hr => by
    have e : a.eval (.const .nilIface) = .nilIface := rfl
    simp [execOp, hr.ex hx, e, eqGuard, binOp, run_equal_nil_nil w t ht]
end
end Eng
open Eng Go.RowKit
set_option linter.unusedSimpArgs false
set_option maxHeartbeats 0
set_option maxRecDepth 100000
theorem atoi_ok (s : List UInt8) (hs : s.length ≤ 1000000000000) (v : Int) (h : Lib.atoiAll s = .ok v) : FCr Tryz.prog 52 [RV.str s] (.tup [RVi v, .v .nilIface]) := by
  intro w F ρ vals fp hv hO hnd hfF hFs
  have hgk := hO.gok
  cases hO
  have hvl := hv.length
  obtain ⟨x, rfl⟩ : ∃ x, vals = [x] := by
    match vals, hvl with
    | [x], _ => exact ⟨x, rfl⟩
  have hx := hv.get 0
  simp only [lget, List.getD_cons_zero] at hx
  obtain rfl := hx.exact
  have hsz : (⟨s.toArray⟩ : ByteArray).size = s.length := by simp [ByteArray.size]
  refine (Any.strconv_Atoi_ok shelf_laysC172 ⟨s.toArray⟩ (by rw [hsz]; omega) v (by simpa using h) w).mono ?_
  rintro e w' ⟨rfl, hw⟩
  have hB : Below w.heap.size w w' := by
    rcases hw with rfl | ⟨t, rfl⟩
    · exact .refl _ _
    · exact Lib.bytesWorld_below _ _ _
  exact ⟨_, _, [], F, ρ, [], [], rfl, ⟨rfl, rfl⟩, .tup (.cons (fp1 := []) (.v _) (.cons (fp1 := []) (.v _) .nil)), .nil (hgk.mono fun b hb => ⟨hb, hB.block b (hFs b hb)⟩), by simp, fun b hb => by simp at hb, fun b hb => hb, fun b hb => ⟨.inl hb, Nat.lt_of_lt_of_le (hFs b hb) hB.size⟩, fun b hb _ => hB.block b hb, hB.size, hB.os, hB.tape, hB.output, fun _ _ => rfl⟩
theorem atoi_err (s : List UInt8) (hs : s.length ≤ 1000000000000) (h : ∀ v, Lib.atoiAll s ≠ .ok v) :
    FC Tryz.prog 52 [RV.str s] [] (fun rv O => ∃ x : Int × Nat, True ∧ rv = .tup [RVi x.1, .v (.iface 119 (.pointer (some ⟨x.2, 0, none⟩)))] ∧ O = []) := by
  intro w F ρ vals fp hv hO hnd hfF hFs
  have hgk := hO.gok
  cases hO
  have hvl := hv.length
  obtain ⟨x, rfl⟩ : ∃ x, vals = [x] := by
    match vals, hvl with
    | [x], _ => exact ⟨x, rfl⟩
  have hx := hv.get 0
  simp only [lget, List.getD_cons_zero] at hx
  obtain rfl := hx.exact
  have hsz : (⟨s.toArray⟩ : ByteArray).size = s.length := by simp [ByteArray.size]
  have key : ∀ n : Int, (Calls Tryz.prog 52 #[.string ⟨s.toArray⟩] w fun e w' => ∃ N, e = .returned (.tuple #[.int .i64 n, .iface 119 (.pointer (some ⟨N, 0, none⟩))]) ∧ Below w.heap.size w w') →
      Calls Tryz.prog 52 [Value.string ⟨s.toArray⟩].toArray w fun e w' => ∃ v rv Oout F' ρ' fp1 fp2, e = .returned v ∧ (∃ x : Int × Nat, True ∧ rv = .tup [RVi x.1, .v (.iface 119 (.pointer (some ⟨x.2, 0, none⟩)))] ∧ Oout = []) ∧ SV w' F' ρ' rv v fp1 ∧ OL w' F' ρ' Oout fp2 ∧ (fp1 ++ fp2).Nodup ∧ (∀ b ∈ fp1 ++ fp2, ¬ F' b ∧ (b ∈ ([] : List Nat) ∨ w.heap.size ≤ b)) ∧
        (∀ b, F b → F' b) ∧ (∀ b, F' b → (F b ∨ b ∈ ([] : List Nat) ∨ w.heap.size ≤ b) ∧ b < w'.heap.size) ∧ (∀ b, b < w.heap.size → b ∉ ([] : List Nat) → w'.heap[b]? = w.heap[b]?) ∧ w.heap.size ≤ w'.heap.size ∧ w'.os = w.os ∧ w'.tape = w.tape ∧ w'.output = w.output ∧ ∀ n, 1000000000000 ≤ n → ρ' n = ρ n := fun n hc => by
    refine hc.mono ?_
    rintro e w' ⟨N, rfl, hB⟩
    exact ⟨_, _, [], F, ρ, [], [], rfl, ⟨(n, N), trivial, rfl, rfl⟩, .tup (.cons (fp1 := []) (.v _) (.cons (fp1 := []) (.v _) .nil)), .nil (hgk.mono fun b hb => ⟨hb, hB.block b (hFs b hb)⟩), by simp, fun b hb => by simp at hb, fun b hb => hb, fun b hb => ⟨.inl hb, Nat.lt_of_lt_of_le (hFs b hb) hB.size⟩, fun b hb _ => hB.block b hb, hB.size, hB.os, hB.tape, hB.output, fun _ _ => rfl⟩
  cases ha : Lib.atoiAll s
  · exact absurd ha (h _)
  · obtain ⟨_, ev, h2, h3⟩ := hgk 1 (by simp [GLs])
    exact key 0 ((Any.strconv_Atoi_syntax shelf_laysC172 ⟨s.toArray⟩ (by rw [hsz]; omega) (by simpa using ha) ev w h2 h3).mono fun e w' ⟨N, he, _, _, hB⟩ => ⟨N, he, hB⟩)
  · obtain ⟨_, ev, h2, h3⟩ := hgk 2 (by simp [GLs])
    exact key _ ((Any.strconv_Atoi_range shelf_laysC172 ⟨s.toArray⟩ (by rw [hsz]; omega) (by simpa using ha) ev w h2 h3).mono fun e w' ⟨N, he, _, _, hB⟩ => ⟨N, he, hB⟩)
end Go.Proofs.YtpcckakchpblcaaGreatDoor
