/- What can be reached in a loop. For all good loops, in plain lists. -/
import Derived.Test.YtmalajoglcpijaaJoinP
namespace Go.Proofs.Ytmalajoglcpijaa
set_option linter.unusedSimpArgs false

/-- Where one may go, by either side. -/
def sucI (L R : List (List Int)) (x : Int) : List Int := L.getD x.toNat [] ++ R.getD x.toNat []
inductive Reach (L R : List (List Int)) (a : Int) : Int → Prop
  | base : Reach L R a a
  | step {x y} (h : Reach L R a x) (hy : y ∈ sucI L R x) : Reach L R a y
theorem suc_in {L R : List (List Int)} (g : GoodI L R) {x y : Int} (h : y ∈ sucI L R x) : 0 ≤ y ∧ y < L.length := by
  rcases List.mem_append.1 h with h | h
  · exact g.inL.at_ h
  · have := g.inR.at_ h; exact this
theorem reach_in {L R : List (List Int)} (g : GoodI L R) {a : Int} (ha : 0 ≤ a ∧ a < L.length) {x : Int} (h : Reach L R a x) : 0 ≤ x ∧ x < L.length := by
  induction h with
  | base => exact ha
  | step _ hy _ => exact suc_in g hy
/-- A list of numbers below n, none twice, isn't longer than n. -/
theorem nodup_len {n : Nat} {l : List Int} (hd : l.Nodup) (hi : ∀ x ∈ l, 0 ≤ x ∧ x < n) : l.length ≤ n := by
  have h1 : (l.map Int.toNat).Nodup := by
    rw [List.Nodup, List.pairwise_map]
    refine hd.imp_of_mem fun {a b} ha hb hne e => hne ?_
    have := hi a ha
    have := hi b hb
    omega
  have h2 : (l.map Int.toNat).length ≤ (List.range n).length := h1.length_le_of_subset (fun x hx => by
    obtain ⟨y, hy, rfl⟩ := List.mem_map.1 hx
    have := hi y hy
    rw [List.mem_range]; omega)
  simpa using h2
/-- The list of what can be reached: increasing. -/
def IsRch (L R : List (List Int)) (a : Int) (l : List Int) : Prop := SI l ∧ ∀ x, x ∈ l ↔ Reach L R a x
theorem isRch_eq {L R a l m} (h1 : IsRch L R a l) (h2 : IsRch L R a m) : l = m := si_eq l m h1.1 h2.1 fun x => by rw [h1.2, h2.2]
/-- A list that holds the start, holds only what can be reached, and is closed. -/
theorem reach_all {L R : List (List Int)} {a : Int} {l : List Int} (ha : a ∈ l) (hc : ∀ x ∈ l, ∀ y ∈ sucI L R x, y ∈ l) : ∀ x, Reach L R a x → x ∈ l := by
  intro x h
  induction h with
  | base => exact ha
  | step _ hy ih => exact hc _ ih _ hy
theorem si_nodup {l : List Int} (h : SI l) : l.Nodup := List.Pairwise.imp (fun h => by omega) h
theorem nodup_si {l : List Int} (h : l.Nodup) : SI (srtI l) := by
  have h1 := srtI_le l
  have h2 : (srtI l).Nodup := (List.mergeSort_perm l _).nodup_iff.2 h
  exact (h1.and h2).imp fun ⟨a, b⟩ => by omega
section
open Classical
noncomputable def rchL (L R : List (List Int)) (a : Int) : List Int := ((List.range L.length).filter fun i : Nat => decide (Reach L R a (i : Int))).map fun i : Nat => (i : Int)
theorem rchL_is {L R : List (List Int)} (g : GoodI L R) {a : Int} (ha : 0 ≤ a ∧ a < L.length) : IsRch L R a (rchL L R a) := by
  refine ⟨?_, fun x => ?_⟩
  · unfold rchL SI
    rw [List.pairwise_map]
    exact (List.pairwise_lt_range.filter _).imp fun h => by omega
  · unfold rchL
    rw [List.mem_map]
    constructor
    · rintro ⟨i, hi, rfl⟩
      simpa using (List.mem_filter.1 hi).2
    · intro h
      have := reach_in g ha h
      refine ⟨x.toNat, List.mem_filter.2 ⟨List.mem_range.2 (by omega), ?_⟩, by omega⟩
      rw [decide_eq_true_eq, Int.toNat_of_nonneg this.1]
      exact h
end
end Go.Proofs.Ytmalajoglcpijaa
