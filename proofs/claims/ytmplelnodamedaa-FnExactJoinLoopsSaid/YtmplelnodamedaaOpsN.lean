/- Further rules of the engine: calls that float, products of numbers, blocks made in drawn regions, bytes. No condition. -/
import Derived.Test.YtmplelnodamedaaEf
import Derived.Test.YtmplelnodamedaaInts
namespace Go.Proofs.Ytmplelnodamedaa
open Eng

section
variable {P : Program} {RO : Nat → Bool} {ops : Array Oper} {ty : TypeId} {pos : String} {after : Array Edge} {s : St}
theorem fs_callf {d : Tmp} {g : Option (Nat × Bool)} {f : FuncId} {args : Array Operand} {ats : Array TypeId} {argsR : List RV} {r : RV} (hargs : args.toList.map s.get = argsR := by rfl) (hnt : argsR.all RV.notTup = true := by rfl) (hc : callable P f = true := by kernel_rfl) (hfc : FCr P f argsR r) : Fs P RO ⟨some d, .call ⟨.value (.func f), args, ats⟩, ty, pos, after, g⟩ s r.fzR := by
  intro s2 hs _
  have hg : ∀ x ∈ args.toList, s2.get x = s.get x := fun x hx => hs x (by simp only [Op.operands, Call.operands, Array.toList_append]; simp [hx])
  exact ops_callf (by rw [List.map_congr_left hg]; exact hargs) hnt hc hfc
theorem fs_muln {x y t u} {m n : Nat} {d : Option Tmp} {g : Option (Nat × Bool)} (hx : s.get x = .v (.int .i64 (m : Nat))) (hy : s.get y = .v (.int .i64 (n : Nat))) (h2 : m * n ≤ 9223372036854775807) : Fs P RO ⟨d, .binOp .mul t x y u, ty, pos, after, g⟩ s (.v (.int .i64 ((m * n : Nat) : Int))) := by
  have h := fs_mul (P := P) (RO := RO) (d := d) (ty := ty) (pos := pos) (after := after) (g := g) (t := t) (u := u) hx hy (by have := Int.natCast_nonneg (m * n); rw [Int.natCast_mul] at this; omega) (by rw [← Int.natCast_mul]; omega)
  rw [← Int.natCast_mul] at h; exact h
theorem ops_muln {x y t u} {m n : Nat} {d : Option Tmp} {g : Option (Nat × Bool)} (hx : s.get x = .v (.int .i64 (m : Nat))) (hy : s.get y = .v (.int .i64 (n : Nat))) (h2 : m * n ≤ 9223372036854775807) : OpS P ⟨d, .binOp .mul t x y u, ty, pos, after, g⟩ s ⟨sput d (.v (.int .i64 ((m * n : Nat) : Int))) s.fr, s.O⟩ := by
  have h := ops_mul (P := P) (d := d) (ty := ty) (pos := pos) (after := after) (g := g) (t := t) (u := u) hx hy (by have := Int.natCast_nonneg (m * n); rw [Int.natCast_mul] at this; omega) (by rw [← Int.natCast_mul]; omega)
  rw [← Int.natCast_mul] at h; exact h
theorem Eng.Ef.alloca {d : Tmp} {t zs} (hz : zeroOf P t = some (.agg (List.toArray zs))) (h0 : 0 < zs.length) (h1 : zs.all Value.oneCell' = true) (hd : d < 1000000000000) (hO : d ∉ onames s.O) : Ef P ops [d] ⟨some d, .alloc t, ty, pos, after, none⟩ s (.ptr d 0 0) ((d, zs.length, [.agg (zs.map .v)]) :: s.O) := by
  refine Ef.plain fun s2 hs hO2 hm => ?_
  rw [← hO2]
  exact ops_alloca hz h0 h1 ⟨hd, hm d (by simp)⟩ (by rw [hO2]; exact hO)
end

end Go.Proofs.Ytmplelnodamedaa
