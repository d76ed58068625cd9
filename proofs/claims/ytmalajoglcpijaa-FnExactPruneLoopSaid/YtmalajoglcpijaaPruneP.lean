/- Places renamed by where they stand in a list. In plain lists. -/
import Derived.Test.YtmalajoglcpijaaReachP
namespace Go.Proofs.Ytmalajoglcpijaa
set_option linter.unusedSimpArgs false

/-- Where places stand in a list. -/
def plcs (W ps : List Int) : List Int := ps.map fun p => ((W.idxOf p : Nat) : Int)
theorem plcs_succ {W ps : List Int} {i : Nat} (h : i < ps.length) : plcs W (ps.take (i + 1)) = plcs W (ps.take i) ++ [((W.idxOf ps[i] : Nat) : Int)] := by
  unfold plcs
  rw [List.take_succ_eq_append_getElem h, List.map_append]; rfl
theorem idx_iff {W : List Int} (hd : W.Nodup) {k : Nat} (hk : k < W.length) {p : Int} (hp : p ∈ W) : W[k] = p ↔ W.idxOf p = k := by
  constructor
  · rintro rfl
    exact hd.idxOf_getElem k hk
  · rintro rfl
    exact List.getElem_idxOf (List.idxOf_lt_length_iff.2 hp)
/-- The names that the first k of a list get. -/
def nmTo (W : List Int) (n : Nat) : Nat → List Int
  | 0 => List.replicate n 0
  | k + 1 => (nmTo W n k).set (W.getD k 0).toNat ((k : Nat) : Int)
theorem nmTo_len (W n) : ∀ k, (nmTo W n k).length = n
  | 0 => by simp [nmTo]
  | k + 1 => by rw [nmTo, List.length_set, nmTo_len W n k]
theorem nmTo_at {W : List Int} {n : Nat} (hd : W.Nodup) (hi : ∀ x ∈ W, 0 ≤ x ∧ x < n) : ∀ (k : Nat), k ≤ W.length → ∀ j (hj : j < W.length), j < k → (nmTo W n k).getD W[j].toNat 0 = ((j : Nat) : Int)
  | 0, _, j, _, h => by omega
  | k + 1, hk, j, hj, hjk => by
    have hkl : k < W.length := by omega
    have e : W.getD k 0 = W[k] := by simp [List.getD_eq_getElem?_getD, hkl]
    have hb := hi _ (List.getElem_mem hj)
    have hb2 := hi _ (List.getElem_mem hkl)
    rw [nmTo, e, List.getD_eq_getElem?_getD, List.getElem?_set]
    by_cases hjk2 : j = k
    · subst hjk2
      rw [if_pos rfl, if_pos (by rw [nmTo_len]; omega)]; rfl
    · have hne : W[k].toNat ≠ W[j].toNat := fun h => hjk2 ((List.getElem_inj hd).1 (by omega : W[j] = W[k]))
      rw [if_neg hne, ← List.getD_eq_getElem?_getD]
      exact nmTo_at hd hi k (by omega) j hj (by omega)
theorem nm_idx {W : List Int} {n : Nat} (hd : W.Nodup) (hi : ∀ x ∈ W, 0 ≤ x ∧ x < n) {p : Int} (hp : p ∈ W) : (nmTo W n W.length).getD p.toNat 0 = ((W.idxOf p : Nat) : Int) := by
  have h := List.idxOf_lt_length_iff.2 hp
  have := nmTo_at hd hi W.length (Nat.le_refl _) (W.idxOf p) h h
  rw [List.getElem_idxOf h] at this
  exact this
end Go.Proofs.Ytmalajoglcpijaa
