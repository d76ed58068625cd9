/- The engine, part D: the operations that leave memory alone; calls. No condition. -/
import Derived.Test.YtpbokegnbipbjaaEngC
import Derived.DataElems
namespace Go.Proofs.Ytpbokegnbipbjaa
namespace Eng
open Go.RowKit

/-- An operation that yields a value and leaves the world. -/
theorem ops_val {P o s rv} (h : ∀ E a w F ρ fp, RelX E s a w F ρ fp → ∃ y, (execOp a.eval o).run P w = .ok (.value y) w ∧ SV w F ρ rv y []) : OpS P o s ⟨sput o.dst rv s.fr, s.O⟩ := by
  rintro E a w ⟨F, ρ, fp, hr⟩ K Q hK
  obtain ⟨y, h1, h2⟩ := h E a w F ρ fp hr
  simp only [Oper.wp, h1, Oper.upon_value]
  exact hK _ _ ⟨F, ρ, fp, hr.put o.dst h2⟩

/-- .. an exact one. -/
theorem ops_exact {P o s z} (h : ∀ E a w F ρ fp, RelX E s a w F ρ fp → (execOp a.eval o).run P w = .ok (.value z) w) : OpS P o s ⟨sput o.dst (.v z) s.fr, s.O⟩ :=
  ops_val fun E a w F ρ fp hr => ⟨z, h E a w F ρ fp hr, .one (.v z)⟩

theorem RelX.ex {E s a w F ρ fp} (h : RelX E s a w F ρ fp) {x z} (hx : s.get x = .v z) : a.eval x = z := by
  have := h.get x
  rw [hx] at this
  exact this.exact

section
variable {P : Program} {s : St} {d : Option Tmp} {ty : TypeId} {pos : String} {after : Array Edge} {g : Option (Nat × Bool)}

theorem ops_move {x} : OpS P ⟨d, .move x, ty, pos, after, g⟩ s ⟨sput d (s.get x) s.fr, s.O⟩ :=
  ops_val fun _ a _ _ _ _ hr => ⟨a.eval x, by simp [execOp], hr.get x⟩
theorem ops_assign {x} : OpS P ⟨d, .assign x, ty, pos, after, g⟩ s ⟨sput d (s.get x) s.fr, s.O⟩ :=
  ops_val fun _ a _ _ _ _ hr => ⟨a.eval x, by simp [execOp], hr.get x⟩

theorem ops_pick {c x y b} (hc : s.get c = .v (.bool b)) : OpS P ⟨d, .pick c x y, ty, pos, after, g⟩ s ⟨sput d (if b then s.get x else s.get y) s.fr, s.O⟩ :=
  ops_val fun _ a _ _ _ _ hr => ⟨if b then a.eval x else a.eval y, by simp [execOp, hr.ex hc, asBool], by cases b <;> simp [hr.get]⟩
theorem ops_pick_t {c x y} (hc : s.get c = .v (.bool true)) : OpS P ⟨d, .pick c x y, ty, pos, after, g⟩ s ⟨sput d (s.get x) s.fr, s.O⟩ := by
  simpa using ops_pick (P := P) (d := d) (ty := ty) (pos := pos) (after := after) (g := g) (x := x) (y := y) hc
theorem ops_pick_f {c x y} (hc : s.get c = .v (.bool false)) : OpS P ⟨d, .pick c x y, ty, pos, after, g⟩ s ⟨sput d (s.get y) s.fr, s.O⟩ := by
  simpa using ops_pick (P := P) (d := d) (ty := ty) (pos := pos) (after := after) (g := g) (x := x) (y := y) hc
/-- Both arms exact. -/
theorem ops_pick_b {c x y b p q} (hc : s.get c = .v (.bool b)) (hx : s.get x = .v (.bool p)) (hy : s.get y = .v (.bool q)) : OpS P ⟨d, .pick c x y, ty, pos, after, g⟩ s ⟨sput d (.v (.bool (if b then p else q))) s.fr, s.O⟩ :=
  ops_exact fun _ a _ _ _ _ hr => by cases b <;> simp [execOp, hr.ex hc, hr.ex hx, hr.ex hy, asBool]

section
variable {x y : Operand} {t u : TypeId} {k : IntKind} {m n : Int} (hx : s.get x = .v (.int k m)) (hy : s.get y = .v (.int k n))
include hx hy
theorem ops_lss : OpS P ⟨d, .binOp .lss t x y u, ty, pos, after, g⟩ s ⟨sput d (.v (.bool (decide (m < n)))) s.fr, s.O⟩ := ops_exact fun _ a _ _ _ _ hr => by simp [execOp, hr.ex hx, hr.ex hy, binOp_lss, eqGuard_lss]
theorem ops_leq : OpS P ⟨d, .binOp .leq t x y u, ty, pos, after, g⟩ s ⟨sput d (.v (.bool (decide (m ≤ n)))) s.fr, s.O⟩ := ops_exact fun _ a _ _ _ _ hr => by simp [execOp, hr.ex hx, hr.ex hy, binOp_leq, eqGuard_leq]
theorem ops_gtr : OpS P ⟨d, .binOp .gtr t x y u, ty, pos, after, g⟩ s ⟨sput d (.v (.bool (decide (n < m)))) s.fr, s.O⟩ := ops_exact fun _ a _ _ _ _ hr => by simp [execOp, hr.ex hx, hr.ex hy, binOp_gtr, eqGuard_gtr]
theorem ops_geq : OpS P ⟨d, .binOp .geq t x y u, ty, pos, after, g⟩ s ⟨sput d (.v (.bool (decide (n ≤ m)))) s.fr, s.O⟩ := ops_exact fun _ a _ _ _ _ hr => by simp [execOp, hr.ex hx, hr.ex hy, binOp_geq, eqGuard_geq]
theorem ops_eqi : OpS P ⟨d, .binOp .eql t x y u, ty, pos, after, g⟩ s ⟨sput d (.v (.bool (decide (m = n)))) s.fr, s.O⟩ := ops_exact fun _ a _ _ _ _ hr => by simp [execOp, hr.ex hx, hr.ex hy, binOp_eql, eqGuard_at_int]; rfl
theorem ops_nei : OpS P ⟨d, .binOp .neq t x y u, ty, pos, after, g⟩ s ⟨sput d (.v (.bool (decide (m ≠ n)))) s.fr, s.O⟩ := ops_exact fun _ a _ _ _ _ hr => by simp [execOp, hr.ex hx, hr.ex hy, binOp_neq, eqGuard_at_int]; rfl
end

section
variable {x y : Operand} {t u : TypeId} {m n : Int} (hx : s.get x = .v (.int .i64 m)) (hy : s.get y = .v (.int .i64 n))
theorem wrap_in {m : Int} (h1 : -9223372036854775808 ≤ m) (h2 : m ≤ 9223372036854775807) : IntKind.i64.wrap m = m := IntWalk.i64_in _ (by omega)
include hx hy
theorem ops_add (h1 : -9223372036854775808 ≤ m + n) (h2 : m + n ≤ 9223372036854775807) : OpS P ⟨d, .binOp .add t x y u, ty, pos, after, g⟩ s ⟨sput d (.v (.int .i64 (m + n))) s.fr, s.O⟩ :=
  ops_exact fun _ a _ _ _ _ hr => by have := wrap_in h1 h2; simp [execOp, hr.ex hx, hr.ex hy, binOp_add, eqGuard_add, Op.intArith, this]
theorem ops_sub (h1 : -9223372036854775808 ≤ m - n) (h2 : m - n ≤ 9223372036854775807) : OpS P ⟨d, .binOp .sub t x y u, ty, pos, after, g⟩ s ⟨sput d (.v (.int .i64 (m - n))) s.fr, s.O⟩ :=
  ops_exact fun _ a _ _ _ _ hr => by have := wrap_in h1 h2; simp [execOp, hr.ex hx, hr.ex hy, binOp_sub, eqGuard_sub, Op.intArith, this]
theorem ops_mul (h1 : -9223372036854775808 ≤ m * n) (h2 : m * n ≤ 9223372036854775807) : OpS P ⟨d, .binOp .mul t x y u, ty, pos, after, g⟩ s ⟨sput d (.v (.int .i64 (m * n))) s.fr, s.O⟩ :=
  ops_exact fun _ a _ _ _ _ hr => by have := wrap_in h1 h2; simp [execOp, hr.ex hx, hr.ex hy, binOp_mul, eqGuard_mul, Op.intArith, this]
end

theorem ops_not {x b} (hx : s.get x = .v (.bool b)) {t} : OpS P ⟨d, .unOp .not t x, ty, pos, after, g⟩ s ⟨sput d (.v (.bool !b)) s.fr, s.O⟩ := ops_exact fun _ a _ _ _ _ hr => by simp [execOp, hr.ex hx, Op.unary]

theorem run_equal_bool {w : World} {t : TypeId} (p q : Bool) (ht : P.underlying t = some .bool) : (Op.equal t (.bool p) (.bool q)).run P w = .ok (p == q) w := by
  unfold Op.equal
  rw [show Op.maxDepth = 9999 + 1 from rfl, Op.equalIn]
  simp [run_underlying ht]
theorem ops_eqb {x y t u p q} (hx : s.get x = .v (.bool p)) (hy : s.get y = .v (.bool q)) (ht : P.underlying t = some .bool) : OpS P ⟨d, .binOp .eql t x y u, ty, pos, after, g⟩ s ⟨sput d (.v (.bool (p == q))) s.fr, s.O⟩ :=
  ops_exact fun _ a w _ _ _ hr => by simp [execOp, hr.ex hx, hr.ex hy, eqGuard_at_bool, binOp, run_equal_bool _ _ ht]
theorem ops_neb {x y t u p q} (hx : s.get x = .v (.bool p)) (hy : s.get y = .v (.bool q)) (ht : P.underlying t = some .bool) : OpS P ⟨d, .binOp .neq t x y u, ty, pos, after, g⟩ s ⟨sput d (.v (.bool (p != q))) s.fr, s.O⟩ :=
  ops_exact fun _ a w _ _ _ hr => by simp [execOp, hr.ex hx, hr.ex hy, eqGuard_at_bool, binOp, run_equal_bool _ _ ht, bne]

/-- A text by its bytes. -/
abbrev RV.str (p : List UInt8) : RV := .v (.string ⟨p.toArray⟩)
theorem toList_str (p : List UInt8) : (⟨p.toArray⟩ : ByteArray).toList = p := by rw [ByteArray.toList_eq]
section
variable {x y : Operand} {t u : TypeId} {p q : List UInt8} (hx : s.get x = .str p) (hy : s.get y = .str q)
include hx hy
theorem ops_eqs : OpS P ⟨d, .binOp .eql t x y u, ty, pos, after, g⟩ s ⟨sput d (.v (.bool (decide (p = q)))) s.fr, s.O⟩ :=
  ops_exact fun _ a w _ _ _ hr => by simp [execOp, hr.ex hx, hr.ex hy, eqGuard_at_string, binOp, Op.stringOp]; rw [Bool.eq_iff_iff]; simp
theorem ops_nes : OpS P ⟨d, .binOp .neq t x y u, ty, pos, after, g⟩ s ⟨sput d (.v (.bool (decide (p ≠ q)))) s.fr, s.O⟩ :=
  ops_exact fun _ a w _ _ _ hr => by simp [execOp, hr.ex hx, hr.ex hy, eqGuard_at_string, binOp, Op.stringOp]; rw [Bool.eq_iff_iff]; simp
theorem ops_lts : OpS P ⟨d, .binOp .lss t x y u, ty, pos, after, g⟩ s ⟨sput d (.v (.bool (Op.bytesLess p q))) s.fr, s.O⟩ :=
  ops_exact fun _ a w _ _ _ hr => by simp [execOp, hr.ex hx, hr.ex hy, eqGuard_at_string, binOp, Op.stringOp]
theorem ops_ges : OpS P ⟨d, .binOp .geq t x y u, ty, pos, after, g⟩ s ⟨sput d (.v (.bool (!Op.bytesLess p q))) s.fr, s.O⟩ :=
  ops_exact fun _ a w _ _ _ hr => by simp [execOp, hr.ex hx, hr.ex hy, eqGuard_at_string, binOp, Op.stringOp]
theorem ops_cat (h : p.length + q.length ≤ 9223372036854775807) : OpS P ⟨d, .binOp .add t x y u, ty, pos, after, g⟩ s ⟨sput d (.str (p ++ q)) s.fr, s.O⟩ :=
  ops_exact fun _ a w _ _ _ hr => by
    have e : ((⟨p.toArray⟩ : ByteArray) ++ ⟨q.toArray⟩) = ⟨(p ++ q).toArray⟩ := by apply ByteArray.ext; simp
    have h1 : ¬ ((((⟨p.toArray⟩ : ByteArray).size + (⟨q.toArray⟩ : ByteArray).size : Nat) : Int) > IntKind.i64.max) := by
      show ¬ (((p.toArray.size + q.toArray.size : Nat) : Int) > _); simp; omega
    simp only [execOp, hr.ex hx, hr.ex hy, eqGuard_add, binOp, Op.stringOp]
    rw [if_neg h1]
    simp [e]
end
/-- A byte of a text. -/
theorem ops_byte {x ix t p k i b} (hx : s.get x = .str p) (hi : s.get ix = .v (.int k (i : Nat))) (hb : p[i]? = some b) (ht : P.underlying t = some .string) :
    OpS P ⟨d, .index t x ix, ty, pos, after, g⟩ s ⟨sput d (.v (.int .u8 b.toNat)) s.fr, s.O⟩ :=
  ops_exact fun _ a w _ _ _ hr => by
    obtain ⟨hlt, e⟩ := List.getElem?_eq_some_iff.1 hb
    simp only [execOp, hr.ex hx, hr.ex hi, Instr.index, asIntOf, Sem.run_bind, run_underlying ht, Sem.run_pure, Result.andThen_ok]
    have h1 : (⟨p.toArray⟩ : ByteArray)[i]? = some b := by
      have hs : i < (⟨p.toArray⟩ : ByteArray).size := by show i < p.toArray.size; simpa using hlt
      rw [getElem?_pos (c := (⟨p.toArray⟩ : ByteArray)) (i := i) hs, ← e]
      rfl
    simp [h1]
theorem ops_lens {x c p} (hx : s.get x = .str p) (ht : P.underlying c = some .string) : OpS P ⟨d, .call ⟨.builtin .len, #[x], #[c]⟩, ty, pos, after, g⟩ s ⟨sput d (.v (.int .i64 p.length)) s.fr, s.O⟩ :=
  ops_exact fun _ a w _ _ _ hr => by
    have e : (⟨p.toArray⟩ : ByteArray).size = p.length := by show p.toArray.size = _; simp
    simp [execOp, resolve, invoke, builtin, Builtin.len_, hr.ex hx, run_underlying ht, goInt, e]
end

/-! Slices. -/

theorem OE.single {w F ρ e y fp} (h : OE w F ρ 1 [e] [y] fp) (hn : e.isAgg = false) : (FE w F 1 [e] [y] ∧ fp = []) ∨
    (∃ b cap ty c k els fp1, e = .ow k els ∧ y = .slice (some ⟨b, 0, none⟩) els.length cap ∧ fp = b :: fp1 ∧ 0 < k ∧ w.heap[b]? = some (.cells c ty (0, 0)) ∧ c.size = cap * k ∧ els.length ≤ cap ∧ cap ≤ maxLen ∧ RV.namesL els = [] ∧ OE w F (fun _ => (none, 0, 0)) k els (c.toList.take (els.length * k)) fp1) ∨
    (∃ n off len, e = .ref n off len ∧ y = .slice ((ρ n).1.map fun b => ⟨b, off * (ρ n).2.1, none⟩) len ((ρ n).2.2 - off) ∧ fp = []) ∨
    (∃ n i j, e = .ptr n i j ∧ y = .pointer ((ρ n).1.map fun b => ⟨b, i * (ρ n).2.1 + j, none⟩) ∧ fp = []) ∨
    (∃ k, e = .ow k [] ∧ y = .slice none 0 0 ∧ fp = [] ∧ 0 < k) := by
  generalize hc : [y] = cs at h
  generalize he : [e] = es at h
  cases h with
  | nil => cases he
  | fz h1 h =>
    simp only [List.cons.injEq] at he
    obtain ⟨rfl, rfl⟩ := he
    cases h
    left
    rw [List.append_nil] at hc
    exact ⟨hc ▸ h1, rfl⟩
  | ow b cap ty c hk hb hs hl hm hcc hnn h1 h =>
    simp only [List.cons.injEq] at he hc
    obtain ⟨rfl, rfl⟩ := he
    cases h
    subst hcc
    exact .inr (.inl ⟨b, cap, ty, c, _, _, _, rfl, hc.1, by simp, hk, hb, hs, hl, hm, hnn, h1⟩)
  | ref n off len h =>
    simp only [List.cons.injEq] at he hc
    obtain ⟨rfl, rfl⟩ := he
    cases h
    exact .inr (.inr (.inl ⟨n, off, len, rfl, hc.1, rfl⟩))
  | ptr n i j h =>
    simp only [List.cons.injEq] at he hc
    obtain ⟨rfl, rfl⟩ := he
    cases h
    exact .inr (.inr (.inr (.inl ⟨n, i, j, rfl, hc.1, rfl⟩)))
  | ownil k hk h =>
    simp only [List.cons.injEq] at he hc
    obtain ⟨rfl, rfl⟩ := he
    cases h
    exact .inr (.inr (.inr (.inr ⟨k, rfl, hc.1, rfl, hk⟩)))
  | agg hl hk h =>
    simp only [List.cons.injEq] at he
    obtain ⟨rfl, rfl⟩ := he
    simp [RV.isAgg] at hn

theorem FE.sh_inv {w F els y} (h : FE w F 1 [.sh els] [y]) : (els = [] ∧ ∃ a cap, y = .slice a 0 cap) ∨ ∃ a cap k cells, y = .slice (some a) els.length cap ∧ 0 < k ∧ F a.block ∧ els.length ≤ maxLen ∧ CellsAt w a cells ∧ FE w F k els cells := by
  generalize hc : [y] = cs at h
  generalize he : [RV.sh els] = es at h
  cases h with
  | nil => cases he
  | v => simp at he
  | any => simp at he
  | shnil a cap h => simp at he hc; left; exact ⟨he.1, a, cap, hc.1⟩
  | sh a cap k hk hF hm hcc h1 h => simp at he hc; obtain ⟨rfl, rfl⟩ := he; exact .inr ⟨a, cap, k, _, hc.1, hk, hF, hm, hcc, h1⟩
  | psh => simp at he
  | agg => simp at he

theorem FE.psh_inv {w F e y} (h : FE w F 1 [.psh e] [y]) : ∃ a k cells, y = .pointer (some a) ∧ 0 < k ∧ F a.block ∧ CellsAt w a cells ∧ FE w F k [e] cells := by
  generalize hc : [y] = cs at h
  generalize he : [RV.psh e] = es at h
  cases h with
  | nil => cases he
  | v => simp at he
  | any => simp at he
  | shnil a cap h => simp at he
  | sh => simp at he
  | psh a k hk hF hcc h1 h => simp at he hc; obtain ⟨rfl, rfl⟩ := he; exact ⟨a, k, _, hc.1, hk, hF, hcc, h1⟩
  | agg => simp at he

/-- What a slot's value is, by the symbolic value's kind. -/
theorem SV.cell {w F ρ e y fp} (h : SV w F ρ e y fp) (h1 : e.isAgg = false) (h2 : ∀ x, e ≠ .v x) (h3 : e ≠ .any) (h4 : ∀ l, e ≠ .tup l) (h5 : ∀ f l, e ≠ .fn f l) : OE w F ρ 1 [e] [y] fp := by
  cases h with
  | tup => exact absurd rfl (h4 _)
  | one h => cases h with
    | any => exact absurd rfl h3
    | v => exact absurd rfl (h2 _)
    | cell _ h => exact h
    | agg => simp [RV.isAgg] at h1
    | fn => exact absurd rfl (h5 _ _)

theorem SV.sh_inv {w F ρ els y fp} (h : SV w F ρ (.sh els) y fp) : fp = [] ∧ ((els = [] ∧ ∃ a cap, y = .slice a 0 cap) ∨ ∃ a cap k cells, y = .slice (some a) els.length cap ∧ 0 < k ∧ F a.block ∧ els.length ≤ maxLen ∧ CellsAt w a cells ∧ FE w F k els cells) := by
  have h1 := h.cell rfl (by simp) (by simp) (by simp) (by simp)
  rcases h1.single rfl with ⟨h2, h3⟩ | ⟨_, _, _, _, _, _, _, e, _⟩ | ⟨_, _, _, e, _⟩ | ⟨_, _, _, e, _⟩ | ⟨_, e, _⟩
  · exact ⟨h3, h2.sh_inv⟩
  all_goals cases e
theorem SV.psh_inv {w F ρ e y fp} (h : SV w F ρ (.psh e) y fp) : fp = [] ∧ ∃ a k cells, y = .pointer (some a) ∧ 0 < k ∧ F a.block ∧ CellsAt w a cells ∧ FE w F k [e] cells := by
  have h1 := h.cell rfl (by simp) (by simp) (by simp) (by simp)
  rcases h1.single rfl with ⟨h2, h3⟩ | ⟨_, _, _, _, _, _, _, e, _⟩ | ⟨_, _, _, e, _⟩ | ⟨_, _, _, e, _⟩ | ⟨_, e, _⟩
  · exact ⟨h3, h2.psh_inv⟩
  all_goals cases e
theorem SV.ref_inv {w F ρ n off len y fp} (h : SV w F ρ (.ref n off len) y fp) : y = .slice ((ρ n).1.map fun b => ⟨b, off * (ρ n).2.1, none⟩) len ((ρ n).2.2 - off) := by
  have h1 := h.cell rfl (by simp) (by simp) (by simp) (by simp)
  rcases h1.single rfl with ⟨h2, h3⟩ | ⟨_, _, _, _, _, _, _, e, _⟩ | ⟨_, _, _, e, h2, _⟩ | ⟨_, _, _, e, _⟩ | ⟨_, e, _⟩
  · cases h2
  · cases e
  · cases e; exact h2
  · cases e
  · cases e
theorem SV.ptr_inv {w F ρ n i j y fp} (h : SV w F ρ (.ptr n i j) y fp) : y = .pointer ((ρ n).1.map fun b => ⟨b, i * (ρ n).2.1 + j, none⟩) := by
  have h1 := h.cell rfl (by simp) (by simp) (by simp) (by simp)
  rcases h1.single rfl with ⟨h2, h3⟩ | ⟨_, _, _, _, _, _, _, e, _⟩ | ⟨_, _, _, e, h2, _⟩ | ⟨_, _, _, e, h2, _⟩ | ⟨_, e, _⟩
  · cases h2
  · cases e
  · cases e
  · cases e; exact h2
  · cases e

/-- How many cells an element takes. -/
def RV.width : RV → Nat | .agg l => l.length | _ => 1

theorem FE.width {w F k e cells} (h : FE w F k [e] cells) : e.width = k := by
  cases h with
  | agg hl hk h => have := hl.length; simp [RV.width]; omega
  | _ => rfl

section
variable {P : Program} {s : St} {d : Option Tmp} {ty : TypeId} {pos : String} {after : Array Edge} {g : Option (Nat × Bool)}

theorem ops_len_sh {x c els} (hx : s.get x = .sh els) (ht : P.underlying c = some (.slice (P.elem c))) : OpS P ⟨d, .call ⟨.builtin .len, #[x], #[c]⟩, ty, pos, after, g⟩ s ⟨sput d (.v (.int .i64 els.length)) s.fr, s.O⟩ :=
  ops_exact fun _ a w F ρ fp hr => by
    have h1 := hr.get x
    rw [hx] at h1
    rcases h1.sh_inv with ⟨_, ⟨rfl, a', cap, h2⟩ | ⟨a', cap, k, cells, h2, _⟩⟩
    · simp [execOp, resolve, invoke, builtin, h2, run_len_slice _ _ _ _ _ _ ht, goInt]
    · simp [execOp, resolve, invoke, builtin, h2, run_len_slice _ _ _ _ _ _ ht, goInt]
theorem ops_len_ref {x c n off len} (hx : s.get x = .ref n off len) (ht : P.underlying c = some (.slice (P.elem c))) : OpS P ⟨d, .call ⟨.builtin .len, #[x], #[c]⟩, ty, pos, after, g⟩ s ⟨sput d (.v (.int .i64 len)) s.fr, s.O⟩ :=
  ops_exact fun _ a w F ρ fp hr => by
    have h1 := hr.get x
    rw [hx] at h1
    simp [execOp, resolve, invoke, builtin, h1.ref_inv, run_len_slice _ _ _ _ _ _ ht, goInt]
theorem ops_len_nil {x c} (hx : s.get x = .v (.slice none 0 0)) (ht : P.underlying c = some (.slice (P.elem c))) : OpS P ⟨d, .call ⟨.builtin .len, #[x], #[c]⟩, ty, pos, after, g⟩ s ⟨sput d (.v (.int .i64 0)) s.fr, s.O⟩ :=
  ops_exact fun _ a w F ρ fp hr => by
    simp [execOp, resolve, invoke, builtin, hr.ex hx, run_len_slice _ _ _ _ _ _ ht, goInt]

theorem run_sizeOf {P : Program} {e : TypeId} {k : Nat} (h : P.cellsOf e = k) (hk : 0 < k) (w : World) : (sizeOf e).run P w = .ok k w := by
  unfold Program.cellsOf at h
  cases hi : P.info? e with
  | none => simp [hi] at h; omega
  | some i => simp [hi] at h; simp [sizeOf, typeInfo, hi, h]

/-- An element of a frozen slice: a pointer to it. -/
theorem ops_idx_sh {x ix c els k i e} (hx : s.get x = .sh els) (hi : s.get ix = .v (.int k (i : Nat))) (he : els[i]? = some e) (ht : P.underlying c = some (.slice (P.elem c))) (hw : P.cellsOf (P.elem c) = e.width) :
    OpS P ⟨d, .indexAddr c x ix, ty, pos, after, g⟩ s ⟨sput d (.psh e) s.fr, s.O⟩ :=
  ops_val fun _ a w F ρ fp hr => by
    have h1 := hr.get x
    rw [hx] at h1
    obtain ⟨hlt, he'⟩ := List.getElem?_eq_some_iff.1 he
    rcases h1.sh_inv with ⟨_, ⟨rfl, _⟩ | ⟨a', cap, k', cells, h2, hk, hF, hm, hc, hf⟩⟩
    · simp at hlt
    · have h3 := hf.at i hlt
      rw [he'] at h3
      have h4 := h3.width
      have h5 := run_sizeOf (P := P) (e := P.elem c) (k := k') (by rw [hw, h4]) hk w
      refine ⟨.pointer (some (a'.add (i * k'))), ?_, ?_⟩
      · simp only [execOp, h2, hr.ex hi, Sem.run_bind, run_indexAt_slice _ _ _ _ _ _ _ ht]
        rw [if_pos (by omega)]
        simp [h5]
      · have hcells : CellsAt w (a'.add (i * k')) ((cells.drop (i * k')).take k') := by
          intro j y hj
          rw [List.getElem?_take] at hj
          split at hj
          · rw [List.getElem?_drop] at hj
            rw [Addr.add_add]
            exact hc _ _ hj
          · cases hj
        have hb : (a'.add (i * k')).block = a'.block := by unfold Addr.add; split <;> rfl
        refine .one (.cell rfl ?_)
        exact OE.of_FE (.psh _ k' hk (by rw [hb]; exact hF) hcells h3 (.nil _))

theorem run_loadVar_cell {P : Program} {w : World} {t : TypeId} {a : Addr} {y : Value} (hs : (P.underlying t).isSome = true) (ht : (P.underlying t).any (fun d => d matches .struct _ | .array _ _) = false) (h : w.cell? a = some y) : (loadVar t a).run P w = .ok y w := by
  obtain ⟨dd, hd⟩ := Option.isSome_iff_exists.1 hs
  simp only [loadVar, isAgg, Sem.run_bind, run_underlying hd]
  rw [hd] at ht
  cases dd <;> simp at ht <;> simp [h]

end
end Eng
end Go.Proofs.Ytpbokegnbipbjaa
