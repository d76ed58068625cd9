/- Further rules of the engine: calls that float, products of numbers, blocks made in drawn regions, bytes. No condition. -/
import Derived.Test.YtmplelnodamedaaEf
import Derived.Test.YtmplelnodamedaaInts
import Derived.Test.YtmplelnodamedaaJ26
import Derived.Test.YtmplelnodamedaaJoin
namespace Go.Proofs.Ytmplelnodamedaa
open Eng

section
variable {P : Program} {RO : Nat → Bool} {ops : Array Oper} {ty : TypeId} {pos : String} {after : Array Edge} {s : St}
theorem fs_callf {d : Tmp} {g : Option (Nat × Bool)} {f : FuncId} {args : Array Operand} {ats : Array TypeId} {argsR : List RV} {r : RV} (hargs : args.toList.map s.get = argsR := by rfl) (hnt : argsR.all RV.notTup = true := by rfl) (hc : callable P f = true := by kernel_rfl) (hfc : FCr P f argsR r) : Fs P RO ⟨some d, .call ⟨.value (.func f), args, ats⟩, ty, pos, after, g⟩ s r.fzR := by
  intro s2 hs _
  have hg : ∀ x ∈ args.toList, s2.get x = s.get x := fun x hx => hs x (by simp only [Op.operands, Call.operands, Array.toList_append]; simp [hx])
  exact ops_callf (by rw [List.map_congr_left hg]; exact hargs) hnt hc hfc
theorem fs_muln {x y t u} {m n : Nat} {d : Option Tmp} {g : Option (Nat × Bool)} (hx : s.get x = .v (.int .i64 (m : Nat))) (hy : s.get y = .v (.int .i64 (n : Nat))) (h2 : m * n ≤ 9223372036854775807) : Fs P RO ⟨d, .binOp .mul t x y u, ty, pos, after, g⟩ s (.v (.int .i64 ((m * n : Nat) : Int))) := by
  have h := fs_mul (P := P) (RO := RO) (d := d) (ty := ty) (pos := pos) (after := after) (g := g) (t := t) (u := u) hx hy (by have := Int.natCast_nonneg (m * n); rw [Int.natCast_mul] at this; omega) (by rw [← Int.natCast_mul]; omega)
  rw [← Int.natCast_mul] at h; exact h
theorem ops_muln {x y t u} {m n : Nat} {d : Option Tmp} {g : Option (Nat × Bool)} (hx : s.get x = .v (.int .i64 (m : Nat))) (hy : s.get y = .v (.int .i64 (n : Nat))) (h2 : m * n ≤ 9223372036854775807) : OpS P ⟨d, .binOp .mul t x y u, ty, pos, after, g⟩ s ⟨sput d (.v (.int .i64 ((m * n : Nat) : Int))) s.fr, s.O⟩ := by
  have h := ops_mul (P := P) (d := d) (ty := ty) (pos := pos) (after := after) (g := g) (t := t) (u := u) hx hy (by have := Int.natCast_nonneg (m * n); rw [Int.natCast_mul] at this; omega) (by rw [← Int.natCast_mul]; omega)
  rw [← Int.natCast_mul] at h; exact h
theorem Eng.Ef.alloca {d : Tmp} {t zs} (hz : zeroOf P t = some (.agg (List.toArray zs))) (h0 : 0 < zs.length) (h1 : zs.all Value.oneCell' = true) (hd : d < 1000000000000) (hO : d ∉ onames s.O) : Ef P ops [d] ⟨some d, .alloc t, ty, pos, after, none⟩ s (.ptr d 0 0) ((d, zs.length, [.agg (zs.map .v)]) :: s.O) := by
  refine Ef.plain fun s2 hs hO2 hm => ?_
  rw [← hO2]
  exact ops_alloca hz h0 h1 ⟨hd, hm d (by simp)⟩ (by rw [hO2]; exact hO)
end

end Go.Proofs.Ytmplelnodamedaa
/- holds of the program: the table of who holds out. For all good loops. -/
namespace Go.Proofs.Ytmplelnodamedaa
open Eng

attribute [local irreducible] OpS OpG FC FCr Rel Fl Ef DR Fs
attribute [local simp] RV.fzR_names
set_option linter.unusedSimpArgs false
set_option maxHeartbeats 0
set_option maxRecDepth 100000

section
variable {gL gR hL hR : List (List Int)}
theorem newArenaJ (g : GoodI gL gR) (h : GoodI hL hR) : FCr Try.prog 61 [RIss (jn gL hR), RIss (jn gR hL)] (.agg [ONss (nxtJ gL gR hL hR), .ow 2 ((fin (nxtJ gL gR hL hR) (nJ gL hL)).map RR)]) := by
  have i1 : InI (gL.length * hR.length) (jn gL hR) := jnTo_in g.inL (by rw [h.lenR]; exact h.inR) _ (Nat.le_refl _)
  have i2 : InI (gL.length * hL.length) (jn gR hL) := jnTo_in g.inR h.inL _ (by rw [g.lenR]; exact Nat.le_refl _)
  have r1 := jnTo_rows g.lL h.lR gL.length
  have r2 := jnTo_rows g.lR h.lL gR.length
  have hl1 : (toN (jn gL hR)).length = gL.length * hL.length := by rw [toN_len, jn_len, h.lenR]
  have hb : gL.length * hL.length ≤ 1296 := Nat.le_trans (Nat.mul_le_mul g.len h.len) (Nat.le_refl _)
  have hN := newArena_ok (toN (jn gL hR)) (toN (jn gR hL)) (jn_inside g h) (by omega) (fun l hl => by
    obtain ⟨r, hr, rfl⟩ := toN_mem hl
    have := r1 r hr
    simp; omega) (fun l hl => by
    obtain ⟨r, hr, rfl⟩ := toN_mem hl
    have := r2 r hr
    simp; omega)
  rw [hl1, ← RIss_toN (fun r hr x hx => (i1 r hr x hx).1), ← RIss_toN (fun r hr x hx => (i2 r hr x hx).1)] at hN
  exact hN
/-- The table's rows. -/
def hRow (H : List Bool) (m u : Nat) : List Bool := (List.range m).map fun v => H.getD (2 * (u * m + v) + 1) false
def hTab (H : List Bool) (n m : Nat) : List (List Bool) := (List.range n).map (hRow H m)
/-- What is held of two loops. -/
def hldJ (gL gR hL hR : List (List Int)) : List Bool := hld (nxtJ gL gR hL hR) (nJ gL hL)
theorem hld_at {nxt : List (List Nat)} {n i : Nat} (h : i < n) : (hld nxt n).getD i false = decide (((fin nxt n).getD i (0, 0)).1 ≠ 2) := by
  simp [hld, List.getD_eq_getElem?_getD, h]
theorem fin_len (nxt : List (List Nat)) (n : Nat) : (fin nxt n).length = n := rounds_len _ _ _
theorem renL_OBs (σ : Nat → Nat) (l : List (List Bool)) : RV.renL σ (l.map OBs) = l.map OBs := renL_map0 σ OBs l fun x => by simp [ng, nm, renL_id]
end
end Go.Proofs.Ytmplelnodamedaa
