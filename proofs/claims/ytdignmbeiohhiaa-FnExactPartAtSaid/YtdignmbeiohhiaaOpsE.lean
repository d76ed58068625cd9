/- Further rules of the engine: guards that are not decided, in regions that draw their order (orders by masks). No condition. -/
import Derived.Test.YtdignmbeiohhiaaOpsN
namespace Go.Proofs.Ytdignmbeiohhiaa
namespace Eng
open Go.RowKit
section
variable {P : Program} {ops : Array Oper} {o : Oper} {rest : List Oper} {R : St → Prop} {fr fr1 fr2 : List RV} {O : List Bk} {j : Nat} {want : Bool} {t : Tmp} {rd : Nat → List Nat} {sw : Nat → Nat → Bool} {eff : Nat → Bool} {ALL : List Nat} {news : List (List Nat)} {k : Nat} {d : Option Tmp} {op : Op} {ty : TypeId} {pos : String} {after : Array Edge} {s : St}
theorem e_g (h : D2 P ops rd sw eff ALL news k (⟨d, op, ty, pos, after, some (j, want)⟩ :: rest) R s) : D2 P ops rd sw eff ALL news k (⟨d, op, ty, pos, after, some (j, want)⟩ :: rest) R s := h
theorem e_sp {b : Bool} (hg : o.guard = some (j, want)) (hj : gslot ops j = some t) (ht : lget fr t = .v (.bool b)) (e1 : lset fr t (.v (.bool true)) = fr1 := by simp only [nz, nf, nl, nb, nr, ng, nq, nu, reduceIte, Nat.reduceEqDiff, Nat.reduceAdd]; rfl) (e2 : lset fr t (.v (.bool false)) = fr2 := by simp only [nz, nf, nl, nb, nr, ng, nq, nu, reduceIte, Nat.reduceEqDiff, Nat.reduceAdd]; rfl) (h1 : b = true → D2 P ops rd sw eff ALL news k (o :: rest) R ⟨fr1, O⟩) (h2 : b = false → D2 P ops rd sw eff ALL news k (o :: rest) R ⟨fr2, O⟩) : D2 P ops rd sw eff ALL news k (o :: rest) R ⟨fr, O⟩ := by
  have _ := hg; have _ := hj
  subst e1; subst e2
  cases b
  · rw [← lset_lget fr t _ ht (by simp)]; exact h2 rfl
  · rw [← lset_lget fr t _ ht (by simp)]; exact h1 rfl
theorem e_spd {p : Prop} [Decidable p] (hg : o.guard = some (j, want)) (hj : gslot ops j = some t) (ht : lget fr t = .v (.bool (decide p))) (e1 : lset fr t (.v (.bool true)) = fr1 := by simp only [nz, nf, nl, nb, nr, ng, nq, nu, reduceIte, Nat.reduceEqDiff, Nat.reduceAdd]; rfl) (e2 : lset fr t (.v (.bool false)) = fr2 := by simp only [nz, nf, nl, nb, nr, ng, nq, nu, reduceIte, Nat.reduceEqDiff, Nat.reduceAdd]; rfl) (h1 : p → D2 P ops rd sw eff ALL news k (o :: rest) R ⟨fr1, O⟩) (h2 : ¬ p → D2 P ops rd sw eff ALL news k (o :: rest) R ⟨fr2, O⟩) : D2 P ops rd sw eff ALL news k (o :: rest) R ⟨fr, O⟩ :=
  e_sp hg hj ht e1 e2 (fun h => h1 (of_decide_eq_true h)) (fun h => h2 (of_decide_eq_false h))
theorem e_spn {b : Bool} (hg : o.guard = some (j, want)) (hj : gslot ops j = some t) (ht : lget fr t = .v (.bool (!b))) (e1 : lset fr t (.v (.bool true)) = fr1 := by simp only [nz, nf, nl, nb, nr, ng, nq, nu, reduceIte, Nat.reduceEqDiff, Nat.reduceAdd]; rfl) (e2 : lset fr t (.v (.bool false)) = fr2 := by simp only [nz, nf, nl, nb, nr, ng, nq, nu, reduceIte, Nat.reduceEqDiff, Nat.reduceAdd]; rfl) (h1 : b = false → D2 P ops rd sw eff ALL news k (o :: rest) R ⟨fr1, O⟩) (h2 : b = true → D2 P ops rd sw eff ALL news k (o :: rest) R ⟨fr2, O⟩) : D2 P ops rd sw eff ALL news k (o :: rest) R ⟨fr, O⟩ :=
  e_sp hg hj ht e1 e2 (fun h => h1 (by simpa using h)) (fun h => h2 (by simpa using h))
theorem e_spnd {p : Prop} [Decidable p] (hg : o.guard = some (j, want)) (hj : gslot ops j = some t) (ht : lget fr t = .v (.bool (!decide p))) (e1 : lset fr t (.v (.bool true)) = fr1 := by simp only [nz, nf, nl, nb, nr, ng, nq, nu, reduceIte, Nat.reduceEqDiff, Nat.reduceAdd]; rfl) (e2 : lset fr t (.v (.bool false)) = fr2 := by simp only [nz, nf, nl, nb, nr, ng, nq, nu, reduceIte, Nat.reduceEqDiff, Nat.reduceAdd]; rfl) (h1 : ¬ p → D2 P ops rd sw eff ALL news k (o :: rest) R ⟨fr1, O⟩) (h2 : p → D2 P ops rd sw eff ALL news k (o :: rest) R ⟨fr2, O⟩) : D2 P ops rd sw eff ALL news k (o :: rest) R ⟨fr, O⟩ :=
  e_sp hg hj ht e1 e2 (fun h => h1 (by simpa using h)) (fun h => h2 (by simpa using h))
end
end Eng
end Go.Proofs.Ytdignmbeiohhiaa
