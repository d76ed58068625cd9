/- Further rules of the engine: calls that float, products of numbers, blocks made in drawn regions, bytes. No condition. -/
import Derived.Test.YtmfbcipjknjicaaEf
import Derived.Test.YtmfbcipjknjicaaInts
namespace Go.Proofs.Ytmfbcipjknjicaa
open Eng

section
variable {P : Program} {RO : Nat → Bool} {ops : Array Oper} {ty : TypeId} {pos : String} {after : Array Edge} {s : St}
theorem fs_callf {d : Tmp} {g : Option (Nat × Bool)} {f : FuncId} {args : Array Operand} {ats : Array TypeId} {argsR : List RV} {r : RV} (hargs : args.toList.map s.get = argsR := by rfl) (hnt : argsR.all RV.notTup = true := by rfl) (hc : callable P f = true := by kernel_rfl) (hfc : FCr P f argsR r) : Fs P RO ⟨some d, .call ⟨.value (.func f), args, ats⟩, ty, pos, after, g⟩ s r.fzR := by
  intro s2 hs _
  have hg : ∀ x ∈ args.toList, s2.get x = s.get x := fun x hx => hs x (by simp only [Op.operands, Call.operands, Array.toList_append]; simp [hx])
  exact ops_callf (by rw [List.map_congr_left hg]; exact hargs) hnt hc hfc
theorem fs_muln {x y t u} {m n : Nat} {d : Option Tmp} {g : Option (Nat × Bool)} (hx : s.get x = .v (.int .i64 (m : Nat))) (hy : s.get y = .v (.int .i64 (n : Nat))) (h2 : m * n ≤ 9223372036854775807) : Fs P RO ⟨d, .binOp .mul t x y u, ty, pos, after, g⟩ s (.v (.int .i64 ((m * n : Nat) : Int))) := by
  have h := fs_mul (P := P) (RO := RO) (d := d) (ty := ty) (pos := pos) (after := after) (g := g) (t := t) (u := u) hx hy (by have := Int.natCast_nonneg (m * n); rw [Int.natCast_mul] at this; omega) (by rw [← Int.natCast_mul]; omega)
  rw [← Int.natCast_mul] at h; exact h
theorem ops_muln {x y t u} {m n : Nat} {d : Option Tmp} {g : Option (Nat × Bool)} (hx : s.get x = .v (.int .i64 (m : Nat))) (hy : s.get y = .v (.int .i64 (n : Nat))) (h2 : m * n ≤ 9223372036854775807) : OpS P ⟨d, .binOp .mul t x y u, ty, pos, after, g⟩ s ⟨sput d (.v (.int .i64 ((m * n : Nat) : Int))) s.fr, s.O⟩ := by
  have h := ops_mul (P := P) (d := d) (ty := ty) (pos := pos) (after := after) (g := g) (t := t) (u := u) hx hy (by have := Int.natCast_nonneg (m * n); rw [Int.natCast_mul] at this; omega) (by rw [← Int.natCast_mul]; omega)
  rw [← Int.natCast_mul] at h; exact h
theorem ops_pred {x t u} {a : Nat} {d : Option Tmp} {g : Option (Nat × Bool)} (hx : s.get x = .v (.int .i64 ((a + 1 : Nat) : Int))) (h : a + 1 ≤ 9223372036854775807) : OpS P ⟨d, .binOp .sub t x (.const (.int .i64 1)) u, ty, pos, after, g⟩ s ⟨sput d (RVn a) s.fr, s.O⟩ := by
  have := ops_sub (P := P) (d := d) (ty := ty) (pos := pos) (after := after) (g := g) (t := t) (u := u) (s := s) (x := x) (y := .const (.int .i64 1)) (m := ((a + 1 : Nat) : Int)) (n := 1) hx rfl (by omega) (by omega)
  rwa [show ((a + 1 : Nat) : Int) - 1 = (a : Int) by omega] at this
end

end Go.Proofs.Ytmfbcipjknjicaa
