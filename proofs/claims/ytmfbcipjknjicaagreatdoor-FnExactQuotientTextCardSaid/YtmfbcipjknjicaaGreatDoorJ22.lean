/- Maps in a walk: made, looked up, written. No condition. -/
import Derived.Laws.Externs
import Derived.Laws.BytesArg
import Derived.Lib.Bytealg
import Derived.Test.YtmfbcipjknjicaaGreatDoorJ6
import Derived.Test.YtmfbcipjknjicaaGreatDoorMp
namespace Go.Proofs.YtmfbcipjknjicaaGreatDoor
set_option linter.unusedSimpArgs false
set_option linter.unusedVariables false
set_option maxHeartbeats 0
set_option maxRecDepth 100000
namespace Eng
open Go.RowKit
theorem lookup_put {α β : Type} [BEq α] [LawfulBEq α] (l : List (α × β)) (k : α) (v : β) (x : α) : (sput2 l k v).lookup x = if x == k then some v else l.lookup x := by
  have happ : ∀ (l : List (α × β)), (l ++ [(k, v)]).lookup x = (l.lookup x).or (if x == k then some v else none) := by
    intro l
    induction l with
    | nil => simp only [List.nil_append, List.lookup_cons, List.lookup_nil]; split <;> simp_all
    | cons y ys ih =>
      obtain ⟨a, b⟩ := y
      rw [List.cons_append, List.lookup_cons, List.lookup_cons, ih]
      split <;> simp
  have hmap : ∀ (l : List (α × β)), (l.map fun p => if p.1 == k then (k, v) else p).lookup x = if x == k then (if l.any (fun p => p.1 == k) then some v else none) else l.lookup x := by
    intro l
    induction l with
    | nil => simp
    | cons y ys ih =>
      obtain ⟨a, b⟩ := y
      rw [List.map_cons, List.any_cons]
      by_cases ha : a == k
      · have ha' := LawfulBEq.eq_of_beq ha
        subst ha'
        simp only [ha, if_true, Bool.true_or, List.lookup_cons]
        by_cases hx : x == a
        · simp [hx]
        · simp only [hx, if_false, ih]; simp
      · have ha2 : (a == k) = false := by simpa using ha
        rw [show (if (a, b).1 == k then (k, v) else (a, b)) = (a, b) from by simp [ha2], List.lookup_cons, List.lookup_cons, ih]
        by_cases hx : x == k
        · have hx' := LawfulBEq.eq_of_beq hx
          subst hx'
          have : (x == a) = false := by
            cases h : x == a with
            | false => rfl
            | true => have := LawfulBEq.eq_of_beq h; subst this; simp at ha
          rw [this]
          simp only [BEq.rfl, if_true, ha2, Bool.false_or]
        · have hx2 : (x == k) = false := by simpa using hx
          rw [hx2]
          simp
  unfold sput2
  split
  · rename_i h
    rw [hmap, h]; simp
  · rename_i h
    rw [happ]
    by_cases hx : x == k
    · have hx' := LawfulBEq.eq_of_beq hx
      subst hx'
      cases hl : l.lookup x with
      | none => simp
      | some u => exact absurd (List.any_eq_true.2 ⟨_, lookup_mem hl, by simp⟩) h
    · simp [hx]
section
variable {P : Program} {ops : Array Oper} {d : Tmp} {ty : TypeId} {pos : String} {after : Array Edge}
theorem l_makeIB {rest R} {fr : List RV} {O : List Bk} {t} {fr' : Nat → List RV} (hd : d < 1000000000000 ∧ d ∉ RV.namesL fr := by simp [nm]) (hO : d ∉ onames O := by simp [nm, onames]) (e : ∀ b, lset fr d (.v (.map (some b))) = fr' b := by intro b; simp only [lset] <;> rfl)
    (hk : ∀ b, L P ops rest R ⟨fr' b, (d, 0, MIB b []) :: O⟩) : L P ops (⟨some d, .makeMap t none, ty, pos, after, none⟩ :: rest) R ⟨fr, O⟩ :=
  l_opx' rfl (opx_makeMap hd hO) fun b _ => by have := hk b; rw [← e b] at this; exact this
theorem l_makeSI {rest R} {fr : List RV} {O : List Bk} {t} {fr' : Nat → List RV} (hd : d < 1000000000000 ∧ d ∉ RV.namesL fr := by simp [nm]) (hO : d ∉ onames O := by simp [nm, onames]) (e : ∀ b, lset fr d (.v (.map (some b))) = fr' b := by intro b; simp only [lset] <;> rfl)
    (hk : ∀ b, L P ops rest R ⟨fr' b, (d, 0, MSI b []) :: O⟩) : L P ops (⟨some d, .makeMap t none, ty, pos, after, none⟩ :: rest) R ⟨fr, O⟩ :=
  l_opx' rfl (opx_makeMap hd hO) fun b _ => by have := hk b; rw [← e b] at this; exact this
end
section
variable {P : Program} {s : St} {d : Tmp} {ty : TypeId} {pos : String} {after : Array Edge} {g : Option (Nat × Bool)}
theorem ops_getIBv {t x y b n l kt et} {key : Int} {v : Bool} (ho1 : Once l) (hx : s.get x = .v (.map (some b))) (hy : s.get y = RVi key) (ho : olook n s.O = some (0, MIB b l)) (ht : P.underlying t = some (.map kt et)) (hd : P.underlying kt = some (.int .i64)) (hz : zeroOf P et = some (.bool false)) (hv : (l.lookup key).getD false = v) :
    OpS P ⟨some d, .lookup t x y false, ty, pos, after, g⟩ s ⟨lset s.fr d (RVb v), s.O⟩ := by
  subst hv
  exact ops_getIB ho1 hx hy ho ht hd hz
theorem ops_getSIv {t x y b n l kt et} {key : List UInt8} {v : Int} {k : Bool} (ho1 : Once l) (hx : s.get x = .v (.map (some b))) (hy : s.get y = .str key) (ho : olook n s.O = some (0, MSI b l)) (ht : P.underlying t = some (.map kt et)) (hd : P.underlying kt = some .string) (hz : zeroOf P et = some (.int .i64 0)) (hv : (l.lookup key).getD 0 = v) (hk : (l.lookup key).isSome = k) :
    OpS P ⟨some d, .lookup t x y true, ty, pos, after, g⟩ s ⟨lset s.fr d (.tup [RVi v, RVb k]), s.O⟩ := by
  subst hv; subst hk
  exact ops_getSI ho1 hx hy ho ht hd hz
theorem ops_conv8I {x t u k0} {d : Option Tmp} {m : Int} (hx : s.get x = .v (.int k0 m)) (hs : (P.underlying t).isSome = true) (ht : P.underlying u = some (.int .u8)) (h2 : 0 ≤ m ∧ m ≤ 255) : OpS P ⟨d, .convert t u x, ty, pos, after, g⟩ s ⟨sput d (RVy (UInt8.ofNat (m % 256).toNat)) s.fr, s.O⟩ := by
  obtain ⟨k, rfl⟩ : ∃ k : Nat, m = (k : Int) := ⟨m.toNat, by omega⟩
  have := ops_conv8 (P := P) (d := d) (ty := ty) (pos := pos) (after := after) (g := g) (s := s) hx hs ht (by omega)
  rwa [show ((k : Int) % 256).toNat = k by omega]
end
end Eng
end Go.Proofs.YtmfbcipjknjicaaGreatDoor
/- Functions that the model gives itself (finding a byte, comparing texts); bytes as a text. For all texts. -/
namespace Go.Proofs.YtmfbcipjknjicaaGreatDoor
namespace Eng
open Go.RowKit
section
variable {P : Program} {s : St} {d : Option Tmp} {ty : TypeId} {pos : String} {after : Array Edge} {g : Option (Nat × Bool)}
/-- Bytes as a text. -/
theorem ops_convs {x t u e} {l : List UInt8} (hx : s.get x = .sh (l.map RVy)) (hs : P.underlying t = some (.slice e)) (he : P.underlying e = some (.int .u8)) (hd : P.underlying u = some .string) :
    OpS P ⟨d, .convert t u x, ty, pos, after, g⟩ s ⟨sput d (.str l) s.fr, s.O⟩ :=
  ops_exact fun _ a w F ρ fp hr => by
    have h1 := hr.get x
    rw [hx] at h1
    rcases h1.sh_inv with ⟨_, ⟨h0, a', cap, h2⟩ | ⟨a', cap, k, cells, h2, hk, hF, hm, hc, hf⟩⟩
    · have hl : l = [] := by simpa using h0
      subst hl
      cases a' with
      | none => simp [execOp, h2, run_convert_bytes_nil w t e hs he 0 cap u hd]; rfl
      | some a' =>
        rw [show (execOp a.eval ⟨d, .convert t u x, ty, pos, after, g⟩).run P w = ((convert t u (a.eval x)).run P w).andThen fun v w' => .ok (.value v) w' from by simp [execOp]]
        rw [h2, run_convert_bytes_string w t u e (some a') 0 cap hs he hd, run_bytesToString w a' 0 cap [] (by simpa using run_loadCells_list (P := P) w a' [] (by simp))]
        rfl
    · have key : ∀ (l : List UInt8) (k : Nat) (cells : List Value), FE w F k (l.map RVy) cells → 0 < l.length → cells = (l.map fun b => Value.int .u8 ((b.toNat : Nat) : Int)) := by
        intro l
        induction l with
        | nil => intro k cells hf h0; simp at h0
        | cons b l ih =>
          intro k cells hf _
          rw [List.map_cons] at hf
          cases hf with
          | v _ h1 h =>
            rcases Nat.eq_zero_or_pos l.length with hl | hl
            · have hl0 : l = [] := List.eq_nil_of_length_eq_zero hl
              subst hl0
              cases h
              rfl
            · rw [ih _ _ h hl]; rfl
      rcases Nat.eq_zero_or_pos l.length with hl | hl
      · have hl0 : l = [] := List.eq_nil_of_length_eq_zero hl
        subst hl0
        rw [show (execOp a.eval ⟨d, .convert t u x, ty, pos, after, g⟩).run P w = ((convert t u (a.eval x)).run P w).andThen fun v w' => .ok (.value v) w' from by simp [execOp]]
        rw [h2, run_convert_bytes_string w t u e (some a') _ cap hs he hd, run_bytesToString w a' _ cap [] (by simpa using run_loadCells_list (P := P) w a' [] (by simp))]
        rfl
      · have hcs := key l k cells hf hl
        subst hcs
        rw [show (execOp a.eval ⟨d, .convert t u x, ty, pos, after, g⟩).run P w = ((convert t u (a.eval x)).run P w).andThen fun v w' => .ok (.value v) w' from by simp [execOp]]
        have hld := run_loadCells_list (P := P) w a' (l.map fun b : UInt8 => Value.int .u8 ((b.toNat : Nat) : Int)) hc
        rw [h2, run_convert_bytes_string w t u e (some a') _ cap hs he hd, run_bytesToString w a' _ cap (l.map fun b : UInt8 => ((b.toNat : Nat) : Int)) (by simpa [List.map_map, Function.comp_def] using hld), foldl_push_bytes]
        simp [ByteArray.empty, ByteArray.emptyWithCapacity, Function.comp_def]
        rfl
end
section
variable {P : Program} {s : St} {d : Tmp} {ty : TypeId} {pos : String} {after : Array Edge} {g : Option (Nat × Bool)}
end
end Eng
open Eng
attribute [local irreducible] OpS OpG FC FCr Rel Fl Ef DR Fs
set_option linter.unusedSimpArgs false
set_option maxHeartbeats 0
set_option maxRecDepth 100000

end Go.Proofs.YtmfbcipjknjicaaGreatDoor
