/- The engine, part P: further steps: guards in drawn regions, tests that are told apart, indexes by number, forgetting, freezing, sealing. No condition. -/
import Derived.Test.YtpbokegnbipbjaaEngO
namespace Go.Proofs.Ytpbokegnbipbjaa
namespace Eng
open Go.RowKit

/-- An int as it stands in a slot. -/
abbrev RVi (n : Int) : RV := .v (.int .i64 n)
abbrev RVb (b : Bool) : RV := .v (.bool b)

theorem Fl.plain {P ops RO d op ty pos after s r} (h : ∀ s2 : St, (∀ x ∈ op.operands.toList, s2.get x = s.get x) → (∀ n, RO n = true → olook n s2.O = olook n s.O) → OpS P ⟨d, op, ty, pos, after, none⟩ s2 ⟨sput d r s2.fr, s2.O⟩) : Fl P ops RO ⟨d, op, ty, pos, after, none⟩ s r :=
  fun s2 ha hO => .plain rfl (h s2 ha.1 hO)
theorem Fl.yes {P ops RO d op ty pos after j want t b s r} (hj : gslot ops j = some t) (ht : lget s.fr t = .v (.bool b)) (hb : b = want) (h : ∀ s2 : St, (∀ x ∈ op.operands.toList, s2.get x = s.get x) → (∀ n, RO n = true → olook n s2.O = olook n s.O) → OpS P ⟨d, op, ty, pos, after, some (j, want)⟩ s2 ⟨sput d r s2.fr, s2.O⟩) : Fl P ops RO ⟨d, op, ty, pos, after, some (j, want)⟩ s r :=
  fun s2 ha hO => .yes rfl hj ((ha.2 t (by simpa [grd] using hj)).trans (hb ▸ ht)) (h s2 ha.1 hO)
theorem Fl.no {P ops RO d op ty pos after j want t b s} (hj : gslot ops j = some t) (ht : lget s.fr t = .v (.bool b)) (hb : b = !want) : Fl P ops RO ⟨d, op, ty, pos, after, some (j, want)⟩ s (.v undef) :=
  fun s2 ha _ => .no2 rfl hj ((ha.2 t (by simpa [grd] using hj)).trans ht) (by subst hb; cases want <;> rfl)
theorem Fl.no' {P ops RO d op ty pos after j want t s} (hj : gslot ops j = some t) (ht : lget s.fr t = .v undef) : Fl P ops RO ⟨d, op, ty, pos, after, some (j, want)⟩ s (.v undef) :=
  fun s2 ha _ => .no' rfl hj ((ha.2 t (by simpa [grd] using hj)).trans ht)
theorem Ef.plain {P ops new d op ty pos after s r O'} (h : ∀ s2 : St, (∀ x ∈ op.operands.toList, s2.get x = s.get x) → s2.O = s.O → (∀ m ∈ new, m ∉ RV.namesL s2.fr) → OpS P ⟨d, op, ty, pos, after, none⟩ s2 ⟨sput d r s2.fr, O'⟩) : Ef P ops new ⟨d, op, ty, pos, after, none⟩ s r O' :=
  fun s2 ha hO hn => .plain rfl (h s2 ha.1 hO hn)
theorem Ef.yes {P ops new d op ty pos after j want t b s r O'} (hj : gslot ops j = some t) (ht : lget s.fr t = .v (.bool b)) (hb : b = want) (h : ∀ s2 : St, (∀ x ∈ op.operands.toList, s2.get x = s.get x) → s2.O = s.O → (∀ m ∈ new, m ∉ RV.namesL s2.fr) → OpS P ⟨d, op, ty, pos, after, some (j, want)⟩ s2 ⟨sput d r s2.fr, O'⟩) : Ef P ops new ⟨d, op, ty, pos, after, some (j, want)⟩ s r O' :=
  fun s2 ha hO hn => .yes rfl hj ((ha.2 t (by simpa [grd] using hj)).trans (hb ▸ ht)) (h s2 ha.1 hO hn)
/-- An operation with an effect that its guard forbids. -/
theorem Ef.no {P ops d op ty pos after j want t b s} (hj : gslot ops j = some t) (ht : lget s.fr t = .v (.bool b)) (hb : b = !want) : Ef P ops [] ⟨d, op, ty, pos, after, some (j, want)⟩ s (.v undef) s.O :=
  fun s2 ha hO _ => by rw [← hO]; exact .no2 rfl hj ((ha.2 t (by simpa [grd] using hj)).trans ht) (by subst hb; cases want <;> rfl)
theorem Ef.no' {P ops d op ty pos after j want t s} (hj : gslot ops j = some t) (ht : lget s.fr t = .v undef) : Ef P ops [] ⟨d, op, ty, pos, after, some (j, want)⟩ s (.v undef) s.O :=
  fun s2 ha hO _ => by rw [← hO]; exact .no' rfl hj ((ha.2 t (by simpa [grd] using hj)).trans ht)

/-! A guard, a test that is not decided: both ways. -/
theorem l_c {P ops o rest R fr O j want t b} (hg : o.guard = some (j, want)) (hj : gslot ops j = some t) (_ht : lget fr t = .v (.bool b)) (h1 : b = true → L P ops (o :: rest) R ⟨fr, O⟩) (h2 : b = false → L P ops (o :: rest) R ⟨fr, O⟩) : L P ops (o :: rest) R ⟨fr, O⟩ := by
  have _ := hg; have _ := hj
  cases b
  · exact h2 rfl
  · exact h1 rfl
theorem d_c {P ops RO eff ALL news k o rest R fr O j want t b} (hg : o.guard = some (j, want)) (hj : gslot ops j = some t) (_ht : lget fr t = .v (.bool b)) (h1 : b = true → D P ops RO eff ALL news k (o :: rest) R ⟨fr, O⟩) (h2 : b = false → D P ops RO eff ALL news k (o :: rest) R ⟨fr, O⟩) : D P ops RO eff ALL news k (o :: rest) R ⟨fr, O⟩ := by
  have _ := hg; have _ := hj
  cases b
  · exact h2 rfl
  · exact h1 rfl
theorem w_cd {P c x y R s} {p : Prop} [Decidable p] (hc : s.get c = .v (.bool (decide p))) (ht : p → W P x R s) (hf : ¬ p → W P y R s) : W P (.cond c x y) R s :=
  w_cond hc (fun h => ht (of_decide_eq_true h)) (fun h => hf (of_decide_eq_false h))
theorem w_cn {P c x y R s b} (hc : s.get c = .v (.bool (!b))) (ht : b = false → W P x R s) (hf : b = true → W P y R s) : W P (.cond c x y) R s :=
  w_cond hc (fun h => ht (by simpa using h)) (fun h => hf (by simpa using h))
theorem w_cnd {P c x y R s} {p : Prop} [Decidable p] (hc : s.get c = .v (.bool (!decide p))) (ht : ¬ p → W P x R s) (hf : p → W P y R s) : W P (.cond c x y) R s :=
  w_cond hc (fun h => ht (by simpa using h)) (fun h => hf (by simpa using h))

section
variable {P : Program} {s : St} {d : Option Tmp} {ty : TypeId} {pos : String} {after : Array Edge} {g : Option (Nat × Bool)}
/-- A counter goes up by one, down by one. -/
theorem ops_inc {x t u} {a : Nat} (hx : s.get x = .v (.int .i64 (a : Nat))) (h : a + 1 ≤ 9223372036854775807) : OpS P ⟨d, .binOp .add t x (.const (.int .i64 1)) u, ty, pos, after, g⟩ s ⟨sput d (.v (.int .i64 ((a + 1 : Nat) : Int))) s.fr, s.O⟩ := by
  have := ops_add (P := P) (d := d) (ty := ty) (pos := pos) (after := after) (g := g) (t := t) (u := u) (s := s) (x := x) (y := .const (.int .i64 1)) (m := a) (n := 1) hx rfl (by omega) (by omega)
  rwa [show ((a : Int) + 1) = ((a + 1 : Nat) : Int) by omega] at this
theorem ops_dec {x t u} {a : Nat} (hx : s.get x = .v (.int .i64 (a : Nat))) (h : 1 ≤ a) (h2 : a ≤ 9223372036854775807) : OpS P ⟨d, .binOp .sub t x (.const (.int .i64 1)) u, ty, pos, after, g⟩ s ⟨sput d (.v (.int .i64 ((a - 1 : Nat) : Int))) s.fr, s.O⟩ := by
  have := ops_sub (P := P) (d := d) (ty := ty) (pos := pos) (after := after) (g := g) (t := t) (u := u) (s := s) (x := x) (y := .const (.int .i64 1)) (m := a) (n := 1) hx rfl (by omega) (by omega)
  rwa [show ((a : Int) - 1) = ((a - 1 : Nat) : Int) by omega] at this
theorem ops_addn {x y t u} {a b : Nat} (hx : s.get x = .v (.int .i64 (a : Nat))) (hy : s.get y = .v (.int .i64 (b : Nat))) (h : a + b ≤ 9223372036854775807) : OpS P ⟨d, .binOp .add t x y u, ty, pos, after, g⟩ s ⟨sput d (.v (.int .i64 ((a + b : Nat) : Int))) s.fr, s.O⟩ := by
  have := ops_add (P := P) (d := d) (ty := ty) (pos := pos) (after := after) (g := g) (t := t) (u := u) (s := s) (x := x) (y := y) (m := a) (n := b) hx hy (by omega) (by omega)
  rwa [show ((a : Int) + b) = ((a + b : Nat) : Int) by omega] at this

/-- An element of a frozen slice that is a list's image. -/
theorem ops_idx_map {α : Type} {f : α → RV} {l : List α} {x ix c k} {i : Nat} (hx : s.get x = .sh (l.map f)) (hi : s.get ix = .v (.int k (i : Nat))) (h : i < l.length) (ht : P.underlying c = some (.slice (P.elem c))) (hw : P.cellsOf (P.elem c) = (f l[i]).width) :
    OpS P ⟨d, .indexAddr c x ix, ty, pos, after, g⟩ s ⟨sput d (.psh (f l[i])) s.fr, s.O⟩ :=
  ops_idx_sh hx hi (by simp [h]) ht hw
end

theorem Wk.eq {x y : RV} {l l' : List RV} (e : x = y) (h : Wk l l') : Wk (x :: l) (y :: l') := e ▸ .keep h

end Eng
end Go.Proofs.Ytpbokegnbipbjaa
