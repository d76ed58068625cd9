/- The engine, part Q: tests that are told apart are written into the frame; loops whose written slots are forgotten by themselves. No condition. -/
import Derived.Test.YtpbokegnbipbjaaEngP
namespace Go.Proofs.Ytpbokegnbipbjaa
namespace Eng
open Go.RowKit

theorem lset_lget : ∀ (fr : List RV) (t : Nat) (r : RV), lget fr t = r → r ≠ .any → lset fr t r = fr
  | [], t, r, h, hr => by simp [lset]
  | x :: xs, 0, r, h, hr => by simp only [lget] at h; subst h; rfl
  | x :: xs, t + 1, r, h, hr => by simp only [lget] at h; simp only [lset]; rw [lset_lget xs t r h hr]

section
variable {P : Program} {ops : Array Oper} {o : Oper} {rest : List Oper} {R : St → Prop} {fr fr1 fr2 : List RV} {O : List Bk} {j : Nat} {want : Bool} {t : Tmp}

theorem l_sp {b : Bool} (hg : o.guard = some (j, want)) (hj : gslot ops j = some t) (ht : lget fr t = .v (.bool b)) (e1 : lset fr t (.v (.bool true)) = fr1) (e2 : lset fr t (.v (.bool false)) = fr2) (h1 : b = true → L P ops (o :: rest) R ⟨fr1, O⟩) (h2 : b = false → L P ops (o :: rest) R ⟨fr2, O⟩) : L P ops (o :: rest) R ⟨fr, O⟩ := by
  have _ := hg; have _ := hj
  subst e1; subst e2
  cases b
  · rw [← lset_lget fr t _ ht (by simp)]; exact h2 rfl
  · rw [← lset_lget fr t _ ht (by simp)]; exact h1 rfl
theorem l_spd {p : Prop} [Decidable p] (hg : o.guard = some (j, want)) (hj : gslot ops j = some t) (ht : lget fr t = .v (.bool (decide p))) (e1 : lset fr t (.v (.bool true)) = fr1) (e2 : lset fr t (.v (.bool false)) = fr2) (h1 : p → L P ops (o :: rest) R ⟨fr1, O⟩) (h2 : ¬ p → L P ops (o :: rest) R ⟨fr2, O⟩) : L P ops (o :: rest) R ⟨fr, O⟩ :=
  l_sp hg hj ht e1 e2 (fun h => h1 (of_decide_eq_true h)) (fun h => h2 (of_decide_eq_false h))
theorem l_spn {b : Bool} (hg : o.guard = some (j, want)) (hj : gslot ops j = some t) (ht : lget fr t = .v (.bool (!b))) (e1 : lset fr t (.v (.bool true)) = fr1) (e2 : lset fr t (.v (.bool false)) = fr2) (h1 : b = false → L P ops (o :: rest) R ⟨fr1, O⟩) (h2 : b = true → L P ops (o :: rest) R ⟨fr2, O⟩) : L P ops (o :: rest) R ⟨fr, O⟩ :=
  l_sp hg hj ht e1 e2 (fun h => h1 (by simpa using h)) (fun h => h2 (by simpa using h))
theorem l_spnd {p : Prop} [Decidable p] (hg : o.guard = some (j, want)) (hj : gslot ops j = some t) (ht : lget fr t = .v (.bool (!decide p))) (e1 : lset fr t (.v (.bool true)) = fr1) (e2 : lset fr t (.v (.bool false)) = fr2) (h1 : ¬ p → L P ops (o :: rest) R ⟨fr1, O⟩) (h2 : p → L P ops (o :: rest) R ⟨fr2, O⟩) : L P ops (o :: rest) R ⟨fr, O⟩ :=
  l_sp hg hj ht e1 e2 (fun h => h1 (by simpa using h)) (fun h => h2 (by simpa using h))

variable {RO : Nat → Bool} {eff : Nat → Bool} {ALL : List Nat} {news : List (List Nat)} {k : Nat}
theorem d_sp {b : Bool} (hg : o.guard = some (j, want)) (hj : gslot ops j = some t) (ht : lget fr t = .v (.bool b)) (e1 : lset fr t (.v (.bool true)) = fr1) (e2 : lset fr t (.v (.bool false)) = fr2) (h1 : b = true → D P ops RO eff ALL news k (o :: rest) R ⟨fr1, O⟩) (h2 : b = false → D P ops RO eff ALL news k (o :: rest) R ⟨fr2, O⟩) : D P ops RO eff ALL news k (o :: rest) R ⟨fr, O⟩ := by
  have _ := hg; have _ := hj
  subst e1; subst e2
  cases b
  · rw [← lset_lget fr t _ ht (by simp)]; exact h2 rfl
  · rw [← lset_lget fr t _ ht (by simp)]; exact h1 rfl
theorem d_spd {p : Prop} [Decidable p] (hg : o.guard = some (j, want)) (hj : gslot ops j = some t) (ht : lget fr t = .v (.bool (decide p))) (e1 : lset fr t (.v (.bool true)) = fr1) (e2 : lset fr t (.v (.bool false)) = fr2) (h1 : p → D P ops RO eff ALL news k (o :: rest) R ⟨fr1, O⟩) (h2 : ¬ p → D P ops RO eff ALL news k (o :: rest) R ⟨fr2, O⟩) : D P ops RO eff ALL news k (o :: rest) R ⟨fr, O⟩ :=
  d_sp hg hj ht e1 e2 (fun h => h1 (of_decide_eq_true h)) (fun h => h2 (of_decide_eq_false h))
theorem d_spn {b : Bool} (hg : o.guard = some (j, want)) (hj : gslot ops j = some t) (ht : lget fr t = .v (.bool (!b))) (e1 : lset fr t (.v (.bool true)) = fr1) (e2 : lset fr t (.v (.bool false)) = fr2) (h1 : b = false → D P ops RO eff ALL news k (o :: rest) R ⟨fr1, O⟩) (h2 : b = true → D P ops RO eff ALL news k (o :: rest) R ⟨fr2, O⟩) : D P ops RO eff ALL news k (o :: rest) R ⟨fr, O⟩ :=
  d_sp hg hj ht e1 e2 (fun h => h1 (by simpa using h)) (fun h => h2 (by simpa using h))
theorem d_spnd {p : Prop} [Decidable p] (hg : o.guard = some (j, want)) (hj : gslot ops j = some t) (ht : lget fr t = .v (.bool (!decide p))) (e1 : lset fr t (.v (.bool true)) = fr1) (e2 : lset fr t (.v (.bool false)) = fr2) (h1 : ¬ p → D P ops RO eff ALL news k (o :: rest) R ⟨fr1, O⟩) (h2 : p → D P ops RO eff ALL news k (o :: rest) R ⟨fr2, O⟩) : D P ops RO eff ALL news k (o :: rest) R ⟨fr, O⟩ :=
  d_sp hg hj ht e1 e2 (fun h => h1 (by simpa using h)) (fun h => h2 (by simpa using h))
end

/-- The slots that code writes. -/
def wr : Code → List Nat
  | .seq x y => wr x ++ wr y
  | .block _ c => wr c
  | .loop c => wr c
  | .scope c => wr c
  | .cond _ x y => wr x ++ wr y
  | .region _ ops _ => ops.toList.filterMap (·.dst)
  | _ => []
def forget : List Nat → List RV → List RV
  | [], fr => fr
  | t :: l, fr => lset (forget l fr) t .any
def puts : List (Nat × RV) → List RV → List RV
  | [], fr => fr
  | (t, r) :: l, fr => lset (puts l fr) t r

theorem w_loopm {P c R fr O} {ι : Type} (u : ι → List (Nat × RV)) (Oi : ι → List Bk) (C : ι → Prop) (μ : ι → Nat) (i0 : ι) {fr' : ι → List RV} {ws : List Nat} {fr0 : List RV} (hw : wr c = ws) (h00 : forget ws fr = fr0) (e : ∀ i, puts (u i) fr0 = fr' i) (h0 : C i0) (hs : LE ⟨fr, O⟩ ⟨fr' i0, Oi i0⟩)
    (round : ∀ i, C i → W P c (RT (RN (fun i => ⟨fr' i, Oi i⟩) C μ i) R) ⟨fr' i, Oi i⟩) : W P (.loop c) R ⟨fr, O⟩ := by
  have _ := hw; have _ := h00; have _ := e
  exact w_loop (fun i => ⟨fr' i, Oi i⟩) C μ i0 h0 hs round
/-- The same, the named blocks untouched. -/
theorem w_loopk {P c R fr O} {ι : Type} (u : ι → List (Nat × RV)) (C : ι → Prop) (μ : ι → Nat) (i0 : ι) {fr' : ι → List RV} {ws : List Nat} {fr0 : List RV} (hw : wr c = ws) (h00 : forget ws fr = fr0) (e : ∀ i, puts (u i) fr0 = fr' i) (h0 : C i0) (hs : LE ⟨fr, O⟩ ⟨fr' i0, O⟩)
    (round : ∀ i, C i → W P c (RT (RN (fun i => ⟨fr' i, O⟩) C μ i) R) ⟨fr' i, O⟩) : W P (.loop c) R ⟨fr, O⟩ :=
  w_loopm u (fun _ => O) C μ i0 hw h00 e h0 hs round
end Eng
end Go.Proofs.Ytpbokegnbipbjaa
