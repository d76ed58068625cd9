/- Maps in a walk: made, looked up, written. No condition. -/
import Derived.Test.YtmfbcipjknjicaaJ6
import Derived.Test.YtmfbcipjknjicaaMp
namespace Go.Proofs.Ytmfbcipjknjicaa
set_option linter.unusedSimpArgs false
set_option linter.unusedVariables false
set_option maxHeartbeats 0
set_option maxRecDepth 100000
namespace Eng
open Go.RowKit
theorem lookup_put {α β : Type} [BEq α] [LawfulBEq α] (l : List (α × β)) (k : α) (v : β) (x : α) : (sput2 l k v).lookup x = if x == k then some v else l.lookup x := by
  have happ : ∀ (l : List (α × β)), (l ++ [(k, v)]).lookup x = (l.lookup x).or (if x == k then some v else none) := by
    intro l
    induction l with
    | nil => simp only [List.nil_append, List.lookup_cons, List.lookup_nil]; split <;> simp_all
    | cons y ys ih =>
      obtain ⟨a, b⟩ := y
      rw [List.cons_append, List.lookup_cons, List.lookup_cons, ih]
      split <;> simp
  have hmap : ∀ (l : List (α × β)), (l.map fun p => if p.1 == k then (k, v) else p).lookup x = if x == k then (if l.any (fun p => p.1 == k) then some v else none) else l.lookup x := by
    intro l
    induction l with
    | nil => simp
    | cons y ys ih =>
      obtain ⟨a, b⟩ := y
      rw [List.map_cons, List.any_cons]
      by_cases ha : a == k
      · have ha' := LawfulBEq.eq_of_beq ha
        subst ha'
        simp only [ha, if_true, Bool.true_or, List.lookup_cons]
        by_cases hx : x == a
        · simp [hx]
        · simp only [hx, if_false, ih]; simp
      · have ha2 : (a == k) = false := by simpa using ha
        rw [show (if (a, b).1 == k then (k, v) else (a, b)) = (a, b) from by simp [ha2], List.lookup_cons, List.lookup_cons, ih]
        by_cases hx : x == k
        · have hx' := LawfulBEq.eq_of_beq hx
          subst hx'
          have : (x == a) = false := by
            cases h : x == a with
            | false => rfl
            | true => have := LawfulBEq.eq_of_beq h; subst this; simp at ha
          rw [this]
          simp only [BEq.rfl, if_true, ha2, Bool.false_or]
        · have hx2 : (x == k) = false := by simpa using hx
          rw [hx2]
          simp
  unfold sput2
  split
  · rename_i h
    rw [hmap, h]; simp
  · rename_i h
    rw [happ]
    by_cases hx : x == k
    · have hx' := LawfulBEq.eq_of_beq hx
      subst hx'
      cases hl : l.lookup x with
      | none => simp
      | some u => exact absurd (List.any_eq_true.2 ⟨_, lookup_mem hl, by simp⟩) h
    · simp [hx]
section
variable {P : Program} {ops : Array Oper} {d : Tmp} {ty : TypeId} {pos : String} {after : Array Edge}
theorem l_makeIB {rest R} {fr : List RV} {O : List Bk} {t} {fr' : Nat → List RV} (hd : d < 1000000000000 ∧ d ∉ RV.namesL fr := by simp [nm]) (hO : d ∉ onames O := by simp [nm, onames]) (e : ∀ b, lset fr d (.v (.map (some b))) = fr' b := by intro b; simp only [lset] <;> rfl)
    (hk : ∀ b, L P ops rest R ⟨fr' b, (d, 0, MIB b []) :: O⟩) : L P ops (⟨some d, .makeMap t none, ty, pos, after, none⟩ :: rest) R ⟨fr, O⟩ :=
  l_opx' rfl (opx_makeMap hd hO) fun b _ => by have := hk b; rw [← e b] at this; exact this
theorem l_makeSI {rest R} {fr : List RV} {O : List Bk} {t} {fr' : Nat → List RV} (hd : d < 1000000000000 ∧ d ∉ RV.namesL fr := by simp [nm]) (hO : d ∉ onames O := by simp [nm, onames]) (e : ∀ b, lset fr d (.v (.map (some b))) = fr' b := by intro b; simp only [lset] <;> rfl)
    (hk : ∀ b, L P ops rest R ⟨fr' b, (d, 0, MSI b []) :: O⟩) : L P ops (⟨some d, .makeMap t none, ty, pos, after, none⟩ :: rest) R ⟨fr, O⟩ :=
  l_opx' rfl (opx_makeMap hd hO) fun b _ => by have := hk b; rw [← e b] at this; exact this
end
section
variable {P : Program} {s : St} {d : Tmp} {ty : TypeId} {pos : String} {after : Array Edge} {g : Option (Nat × Bool)}
theorem ops_getIBv {t x y b n l kt et} {key : Int} {v : Bool} (ho1 : Once l) (hx : s.get x = .v (.map (some b))) (hy : s.get y = RVi key) (ho : olook n s.O = some (0, MIB b l)) (ht : P.underlying t = some (.map kt et)) (hd : P.underlying kt = some (.int .i64)) (hz : zeroOf P et = some (.bool false)) (hv : (l.lookup key).getD false = v) :
    OpS P ⟨some d, .lookup t x y false, ty, pos, after, g⟩ s ⟨lset s.fr d (RVb v), s.O⟩ := by
  subst hv
  exact ops_getIB ho1 hx hy ho ht hd hz
theorem ops_getSIv {t x y b n l kt et} {key : List UInt8} {v : Int} {k : Bool} (ho1 : Once l) (hx : s.get x = .v (.map (some b))) (hy : s.get y = .str key) (ho : olook n s.O = some (0, MSI b l)) (ht : P.underlying t = some (.map kt et)) (hd : P.underlying kt = some .string) (hz : zeroOf P et = some (.int .i64 0)) (hv : (l.lookup key).getD 0 = v) (hk : (l.lookup key).isSome = k) :
    OpS P ⟨some d, .lookup t x y true, ty, pos, after, g⟩ s ⟨lset s.fr d (.tup [RVi v, RVb k]), s.O⟩ := by
  subst hv; subst hk
  exact ops_getSI ho1 hx hy ho ht hd hz
theorem ops_conv8I {x t u k0} {d : Option Tmp} {m : Int} (hx : s.get x = .v (.int k0 m)) (hs : (P.underlying t).isSome = true) (ht : P.underlying u = some (.int .u8)) (h2 : 0 ≤ m ∧ m ≤ 255) : OpS P ⟨d, .convert t u x, ty, pos, after, g⟩ s ⟨sput d (RVy (UInt8.ofNat (m % 256).toNat)) s.fr, s.O⟩ := by
  obtain ⟨k, rfl⟩ : ∃ k : Nat, m = (k : Int) := ⟨m.toNat, by omega⟩
  have := ops_conv8 (P := P) (d := d) (ty := ty) (pos := pos) (after := after) (g := g) (s := s) hx hs ht (by omega)
  rwa [show ((k : Int) % 256).toNat = k by omega]
end
end Eng
end Go.Proofs.Ytmfbcipjknjicaa
