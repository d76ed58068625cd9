/- A place holds out against itself; the first place that is the same as one. For all good loops, in plain lists. -/
import Derived.Test.YtmalajoglcpijaaJoinP
namespace Go.Proofs.Ytmalajoglcpijaa
set_option linter.unusedSimpArgs false

theorem half_div {u v m b : Nat} (hv : v < m) (hb : b < 2) : (2 * (u * m + v) + b) / 2 / m = u := by
  have : (2 * (u * m + v) + b) / 2 = u * m + v := by omega
  rw [this, Nat.mul_comm, Nat.mul_add_div (by omega), Nat.div_eq_of_lt hv, Nat.add_zero]
theorem half_mod {u v m b : Nat} (hv : v < m) (hb : b < 2) : (2 * (u * m + v) + b) / 2 % m = v := by
  have : (2 * (u * m + v) + b) / 2 = u * m + v := by omega
  rw [this, Nat.mul_comm, Nat.mul_add_mod, Nat.mod_eq_of_lt hv]
section
variable {gL gR : List (List Int)}
theorem diag_no (g : GoodI gL gR) : ∀ (t u : Nat), u < gL.length → ((fin (nxtJ gL gR gL gR) (nJ gL gL)).getD (2 * (u * gL.length + u) + 1) (0, 0)).1 = 2 → ((fin (nxtJ gL gR gL gR) (nJ gL gL)).getD (2 * (u * gL.length + u) + 1) (0, 0)).2 ≤ t → False := by
  have ha := nxtJ_alt g g
  have hin : ∀ {u v}, u < gL.length → v < gL.length → ∀ b, b < 2 → 2 * (u * gL.length + v) + b < nJ gL gL := fun hu hv b hb => by
    have := mul_lt hu hv
    unfold nJ; omega
  intro t
  induction t with
  | zero =>
    intro u hu h2 ht
    have hi := hin hu hu 1 (by omega)
    have h1 : ((fin (nxtJ gL gR gL gR) (nJ gL gL)).getD (2 * (u * gL.length + u) + 1) (0, 0)).1 = mv (2 * (u * gL.length + u) + 1) := by rw [h2]; unfold mv; omega
    obtain ⟨⟨k, hk, hk1⟩, _⟩ := fin_win ha hi h1
    have hw := fin_wf (nxtJ gL gR gL gR) (nJ gL gL) k
    rw [hk1] at hw
    rcases hw with hw | hw
    · have := congrArg Prod.fst hw; unfold mv at this; simp at this
    · omega
  | succ t ih =>
    intro u hu h2 ht
    have hi := hin hu hu 1 (by omega)
    have h1 : ((fin (nxtJ gL gR gL gR) (nJ gL gL)).getD (2 * (u * gL.length + u) + 1) (0, 0)).1 = mv (2 * (u * gL.length + u) + 1) := by rw [h2]; unfold mv; omega
    obtain ⟨⟨k, hk, hk1⟩, _⟩ := fin_win ha hi h1
    have hk2 := (kk_mem g g hi).1 hk
    rw [kkJ, if_neg (by omega), half_div hu (by omega), half_mod hu (by omega), List.mem_append, List.mem_map, List.mem_map] at hk2
    have key : ∀ x y : Nat, x < gL.length → y < gL.length → k = 2 * (x * gL.length + y) → ∀ z : Nat, z < gL.length → (2 * (z * gL.length + z) + 1) ∈ kkJ gL gR gL gR k → False := by
      intro x y hx hy ek z hz hm
      have hkn : k < nJ gL gL := by rw [ek]; exact hin hx hy 0 (by omega)
      have hkm : mv k = 1 := by unfold mv; omega
      have h3 : ((fin (nxtJ gL gR gL gR) (nJ gL gL)).getD k (0, 0)).1 = 3 - mv k := by
        rw [hk1, hkm]; dsimp only; unfold mv; omega
      have h4 := (fin_lose ha hkn h3).1 _ ((kk_mem g g hkn).2 hm)
      have e1 : ((fin (nxtJ gL gR gL gR) (nJ gL gL)).getD k (0, 0)).2 ≤ t := by rw [hk1]; dsimp only; omega
      exact ih z hz (by unfold mv at h4; omega) (by omega)
    rcases hk2 with ⟨x, hx, rfl⟩ | ⟨y, hy, rfl⟩
    · have b := g.inR.at_ hx
      have bl : x.toNat < gL.length := by have := g.lenR; omega
      refine key x.toNat u bl hu rfl x.toNat bl ?_
      rw [show 2 * (x.toNat * gL.length + u) = 2 * (x.toNat * gL.length + u) + 0 from rfl, kkJ, if_pos (by omega), half_div hu (by omega), half_mod hu (by omega), List.mem_append, List.mem_map, List.mem_map]
      exact .inr ⟨x, hx, rfl⟩
    · have b := g.inL.at_ hy
      have bl : y.toNat < gL.length := by omega
      refine key u y.toNat hu bl rfl y.toNat bl ?_
      rw [show 2 * (u * gL.length + y.toNat) = 2 * (u * gL.length + y.toNat) + 0 from rfl, kkJ, if_pos (by omega), half_div bl (by omega), half_mod bl (by omega), List.mem_append, List.mem_map, List.mem_map]
      exact .inl ⟨y, hy, rfl⟩
end
/-- The first place from v on, k at most. -/
def firstP (p : Nat → Bool) : Nat → Nat → Nat
  | 0, v => v
  | k + 1, v => if p v then v else firstP p k (v + 1)
theorem firstP_yes {p : Nat → Bool} {v : Nat} (h : p v = true) (k : Nat) : firstP p k v = v := by
  cases k with
  | zero => rfl
  | succ k => rw [firstP, if_pos h]
theorem firstP_no {p : Nat → Bool} {u v : Nat} (h : p v = false) (hu : p u = true) (hv : v ≤ u) : v < u ∧ firstP p (u - v) v = firstP p (u - (v + 1)) (v + 1) := by
  have hlt : v < u := by
    rcases Nat.lt_or_ge v u with h' | h'
    · exact h'
    · obtain rfl : v = u := by omega
      rw [h] at hu; cases hu
  refine ⟨hlt, ?_⟩
  rw [show u - v = (u - (v + 1)) + 1 by omega, firstP, if_neg (by rw [h]; decide)]
theorem firstP_le {p : Nat → Bool} : ∀ (k v : Nat), firstP p k v ≤ v + k
  | 0, v => Nat.le_refl _
  | k + 1, v => by
    rw [firstP]
    split
    · omega
    · have := firstP_le (p := p) k (v + 1); omega
/-- Whether two places are the same by what is held. -/
def alk (H : List Bool) (m u v : Nat) : Bool := H.getD (2 * (u * m + v) + 1) false && H.getD (2 * (v * m + u) + 1) false
def alkL (H : List Bool) (m n : Nat) : List Nat := (List.range n).map fun u => firstP (alk H m u) u 0
end Go.Proofs.Ytmalajoglcpijaa
