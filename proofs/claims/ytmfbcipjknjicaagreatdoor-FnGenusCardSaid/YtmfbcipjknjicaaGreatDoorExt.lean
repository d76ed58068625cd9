/- Functions that the model gives itself (finding a byte, comparing texts); bytes as a text. For all texts. -/
import Derived.Laws.Externs
import Derived.Laws.BytesArg
import Derived.Lib.Bytealg
import Derived.Test.YtmfbcipjknjicaaGreatDoorJ6
namespace Go.Proofs.YtmfbcipjknjicaaGreatDoor
set_option linter.unusedSectionVars false
variable [One Bool]
namespace Eng
open Go.RowKit
section
variable {P : Program} {s : St} {d : Option Tmp} {ty : TypeId} {pos : String} {after : Array Edge} {g : Option (Nat × Bool)}
theorem ops_convs {x t u e} {l : List UInt8} (hx : s.get x = .sh (l.map RVy)) (hs : P.underlying t = some (.slice e)) (he : P.underlying e = some (.int .u8)) (hd : P.underlying u = some .string) :
    OpS P ⟨d, .convert t u x, ty, pos, after, g⟩ s ⟨sput d (.str l) s.fr, s.O⟩ :=
  ops_exact fun _ a w F ρ fp hr => by
    have h1 := hr.get x
    rw [hx] at h1
    rcases h1.sh_inv with ⟨_, ⟨h0, a', cap, h2⟩ | ⟨a', cap, k, cells, h2, hk, hF, hm, hc, hf⟩⟩
    · have hl : l = [] := by simpa using h0
      subst hl
      cases a' with
      | none => simp [execOp, h2, run_convert_bytes_nil w t e hs he 0 cap u hd]; rfl
      | some a' =>
        rw [show (execOp a.eval ⟨d, .convert t u x, ty, pos, after, g⟩).run P w = ((convert t u (a.eval x)).run P w).andThen fun v w' => .ok (.value v) w' from by simp [execOp]]
        rw [h2, run_convert_bytes_string w t u e (some a') 0 cap hs he hd, run_bytesToString w a' 0 cap [] (by simpa using run_loadCells_list (P := P) w a' [] (by simp))]
        rfl
    · have key : ∀ (l : List UInt8) (k : Nat) (cells : List Value), FE w F k (l.map RVy) cells → 0 < l.length → cells = (l.map fun b => Value.int .u8 ((b.toNat : Nat) : Int)) := by
        intro l
        induction l with
        | nil => intro k cells hf h0; simp at h0
        | cons b l ih =>
          intro k cells hf _
          rw [List.map_cons] at hf
          cases hf with
          | v _ h1 h =>
            rcases Nat.eq_zero_or_pos l.length with hl | hl
            · have hl0 : l = [] := List.eq_nil_of_length_eq_zero hl
              subst hl0
              cases h
              rfl
            · rw [ih _ _ h hl]; rfl
      rcases Nat.eq_zero_or_pos l.length with hl | hl
      · have hl0 : l = [] := List.eq_nil_of_length_eq_zero hl
        subst hl0
        rw [show (execOp a.eval ⟨d, .convert t u x, ty, pos, after, g⟩).run P w = ((convert t u (a.eval x)).run P w).andThen fun v w' => .ok (.value v) w' from by simp [execOp]]
        rw [h2, run_convert_bytes_string w t u e (some a') _ cap hs he hd, run_bytesToString w a' _ cap [] (by simpa using run_loadCells_list (P := P) w a' [] (by simp))]
        rfl
      · have hcs := key l k cells hf hl
        subst hcs
        rw [show (execOp a.eval ⟨d, .convert t u x, ty, pos, after, g⟩).run P w = ((convert t u (a.eval x)).run P w).andThen fun v w' => .ok (.value v) w' from by simp [execOp]]
        have hld := run_loadCells_list (P := P) w a' (l.map fun b : UInt8 => Value.int .u8 ((b.toNat : Nat) : Int)) hc
        rw [h2, run_convert_bytes_string w t u e (some a') _ cap hs he hd, run_bytesToString w a' _ cap (l.map fun b : UInt8 => ((b.toNat : Nat) : Int)) (by simpa [List.map_map, Function.comp_def] using hld), foldl_push_bytes]
        simp [ByteArray.empty, ByteArray.emptyWithCapacity, Function.comp_def]
        rfl
end
section
variable {P : Program} {s : St} {d : Tmp} {ty : TypeId} {pos : String} {after : Array Edge} {g : Option (Nat × Bool)}
end
end Eng
open Eng
attribute [local irreducible] OpS OpG FC FCr Rel Fl Ef DR Fs
set_option linter.unusedSimpArgs false
set_option maxHeartbeats 0
set_option maxRecDepth 100000

end Go.Proofs.YtmfbcipjknjicaaGreatDoor
