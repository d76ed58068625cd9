/- Boxes of heaps in plain lists: their positions, sums with them, signs, classes. -/
import Derived.Test.YtmfbcipjknjicaaGreatDoorJ23
namespace Go.Proofs.YtmfbcipjknjicaaGreatDoor
set_option linter.unusedSimpArgs false
set_option linter.unusedVariables false

def lstB (s : Nat) : Nat → Nat → List (List Int)
  | 0, _ => [[]]
  | k + 1, n => (List.range (s + 1 - n)).flatMap fun j => (lstB s k (n + j)).map fun l => ((n + j : Nat) : Int) :: l
def lstT (s k n j : Nat) : List (List Int) := (List.range j).flatMap fun j => (lstB s k (n + j)).map fun l => ((n + j : Nat) : Int) :: l
theorem lstT_succ (s k n j : Nat) : lstT s k n (j + 1) = lstT s k n j ++ (lstB s k (n + j)).map fun l => ((n + j : Nat) : Int) :: l := by simp [lstT, List.range_succ]
theorem lstB_succ (s k n : Nat) : lstB s (k + 1) n = lstT s k n (s + 1 - n) := rfl
theorem lstB_mem {s : Nat} : ∀ {k n : Nat} {l : List Int}, l ∈ lstB s k n → l.length = k ∧ (∀ x ∈ l, (n : Int) ≤ x ∧ x ≤ s) ∧ l.Pairwise (· ≤ ·)
  | 0, n, l, h => by
    rw [lstB, List.mem_singleton] at h
    subst h; simp
  | k + 1, n, l, h => by
    rw [lstB, List.mem_flatMap] at h
    obtain ⟨j, hj, h⟩ := h
    have hj := List.mem_range.1 hj
    obtain ⟨r, hr, rfl⟩ := List.mem_map.1 h
    obtain ⟨h1, h2, h3⟩ := lstB_mem hr
    refine ⟨by simp [h1], fun x hx => ?_, List.pairwise_cons.2 ⟨fun x hx => (h2 x hx).1, h3⟩⟩
    rcases List.mem_cons.1 hx with rfl | hx
    · omega
    · have := h2 x hx; omega
theorem lstT_len {s k n : Nat} (h : ∀ m, (lstB s k m).length ≤ 7 ^ k) : ∀ j, (lstT s k n j).length ≤ j * 7 ^ k
  | 0 => by simp [lstT]
  | j + 1 => by
    have := lstT_len (n := n) h j
    have h2 := h (n + j)
    rw [lstT_succ, List.length_append, List.length_map, Nat.add_mul]; omega
theorem lstB_len {s : Nat} (hs : s ≤ 6) : ∀ k n : Nat, (lstB s k n).length ≤ 7 ^ k
  | 0, n => by simp [lstB]
  | k + 1, n => by
    have := lstT_len (n := n) (lstB_len hs k) (s + 1 - n)
    rw [lstB_succ, Nat.pow_succ, Nat.mul_comm]
    exact Nat.le_trans this (Nat.mul_le_mul_right _ (by omega))
def posT (s j : Nat) : List (List Int) := (List.range j).flatMap fun k => lstB s k 1
def posB (s m : Nat) : List (List Int) := posT s (m + 1)
theorem posT_succ (s j : Nat) : posT s (j + 1) = posT s j ++ lstB s j 1 := by simp [posT, List.range_succ]
theorem posB_mem {s m : Nat} {l : List Int} (h : l ∈ posB s m) : l.length ≤ m ∧ (∀ x ∈ l, 0 < x ∧ x ≤ s) ∧ l.Pairwise (· ≤ ·) := by
  unfold posB posT at h
  obtain ⟨k, hk, h⟩ := List.mem_flatMap.1 h
  have hk := List.mem_range.1 hk
  obtain ⟨h1, h2, h3⟩ := lstB_mem h
  exact ⟨by omega, fun x hx => by have := h2 x hx; omega, h3⟩
theorem posT_len {s : Nat} (hs : s ≤ 6) : ∀ j, j ≤ 7 → (posT s j).length ≤ j * 117649
  | 0, _ => by simp [posT]
  | j + 1, hj => by
    have h1 := posT_len hs j (by omega)
    have h2 := lstB_len hs j 1
    have h3 : 7 ^ j ≤ 7 ^ 6 := Nat.pow_le_pow_right (by omega) (by omega)
    rw [posT_succ, List.length_append]; omega
theorem posB_zero (s m : Nat) : ∃ r, posB s m = [] :: r := by
  have e : ∀ j, ∃ r, posT s (j + 1) = [] :: r := by
    intro j
    induction j with
    | zero => exact ⟨[], by simp [posT, lstB]⟩
    | succ j ih =>
      obtain ⟨r, hr⟩ := ih
      exact ⟨r ++ lstB s (j + 1) 1, by rw [posT_succ, hr]; rfl⟩
  exact e m
theorem sum_bd {s : Int} : ∀ {l : List Int}, (∀ x ∈ l, 0 < x ∧ x ≤ s) → 0 ≤ l.sum ∧ l.sum ≤ s * l.length
  | [], _ => by simp
  | x :: xs, h => by
    have h1 := sum_bd (l := xs) fun y hy => h y (by simp [hy])
    have h2 := h x (by simp)
    simp only [List.sum_cons, List.length_cons]
    have : s * ((xs.length + 1 : Nat) : Int) = s * xs.length + s := by rw [Int.natCast_add, Int.mul_add]; simp
    rw [this]; omega
def goodB (s m : Int) : Bool := decide (1 ≤ s) && decide (1 ≤ m) && decide (s ≤ 6) && decide (m ≤ 6) && decide (s * m ≤ 6)
theorem goodB_nat {s m : Int} (h : goodB s m = true) : ∃ a b : Nat, s = a ∧ m = b ∧ 1 ≤ a ∧ 1 ≤ b ∧ a ≤ 6 ∧ b ≤ 6 ∧ a * b ≤ 6 := by
  simp only [goodB, Bool.and_eq_true, decide_eq_true_eq] at h
  obtain ⟨⟨⟨⟨h1, h2⟩, h3⟩, h4⟩, h5⟩ := h
  refine ⟨s.toNat, m.toNat, by omega, by omega, by omega, by omega, by omega, by omega, ?_⟩
  have e : ((s.toNat * m.toNat : Nat) : Int) = s * m := by rw [Int.natCast_mul, Int.toNat_of_nonneg (by omega), Int.toNat_of_nonneg (by omega)]
  omega
def togH (h p : List Int) : List Int := srtI (fillH (h ++ p))
theorem fillH_app (h p : List Int) : fillH (h ++ p) = fillH h ++ fillH p := by unfold fillH; rw [List.filter_append]
theorem togH_nil {h : List Int} (hs : h.Pairwise (· ≤ ·)) : togH h [] = fillH h := by
  unfold togH
  rw [List.append_nil]
  exact (srtI_of (List.Perm.refl _) (by unfold fillH; exact hs.filter _)).symm
theorem togH_vld {h p : List Int} {s m : Nat} (hg : ghp h = true) (hp : p ∈ posB s m) (hs : h.sum + ((s * m : Nat) : Int) ≤ 20) : vld (togH h p) 0 0 := by
  obtain ⟨p1, p2, p3⟩ := posB_mem hp
  simp only [ghp, Bool.and_eq_true, decide_eq_true_eq] at hg
  obtain ⟨h1, h2⟩ := ghpF_pos hg.2
  have hps := sum_bd p2
  have hfp : fillH p = p := fillH_id fun x hx => (p2 x hx).1
  refine ⟨⟨fun x hx => ?_, srtI_le _⟩, ?_, .inl ⟨rfl, rfl⟩⟩
  · rw [togH, srtI_mem] at hx
    exact fillH_pos x hx
  · rw [togH, srtI_sum, fillH_app, List.sum_append, sum_fill h fun x hx => (h1 x hx).1, hfp]
    have : ((s * p.length : Nat) : Int) ≤ ((s * m : Nat) : Int) := by
      have := Nat.mul_le_mul_left s p1
      omega
    have e : (s : Int) * (p.length : Int) = ((s * p.length : Nat) : Int) := by rw [Int.natCast_mul]
    omega
def sgnP (c : List Int) (l : List (List Int)) (h : List Int) : List Bool := l.map fun p => decide (mv c (togH h p) 0 0 ≠ 0)
def sgnB (c : List Int) (s m : Nat) (h : List Int) : List Bool := sgnP c (posB s m) h
theorem sgnB_len (c : List Int) (s m : Nat) (h : List Int) : (sgnB c s m h).length = (posB s m).length := by simp [sgnB, sgnP]
def fstB {α : Type} (P : α → Bool) : List α → Nat → Int
  | [], _ => -1
  | x :: xs, i => if P x = true then i else fstB P xs (i + 1)
def clsB (c : List Int) (s m : Nat) (h : List Int) : Int := fstB (fun p => decide (sgnB c s m p = sgnB c s m h)) (posB s m) 0
theorem ghp_pos {s m : Nat} {p : List Int} (hm : m ≤ 20) (hs : s ≤ 300) (hp : p ∈ posB s m) : ghp p = true := by
  obtain ⟨p1, p2, p3⟩ := posB_mem hp
  have hg : ∀ (l : List Int) (a : Int), (∀ x ∈ l, 0 < x ∧ x ≤ s) → l.Pairwise (· ≤ ·) → (∀ x ∈ l, a ≤ x) → ghpF a l = true := by
    intro l
    induction l with
    | nil => intro a _ _ _; rfl
    | cons x xs ih =>
      intro a k1 k2 k3
      rw [List.pairwise_cons] at k2
      have q1 := k1 x (by simp)
      have q2 := k3 x (by simp)
      simp only [ghpF, Bool.and_eq_true, Bool.not_eq_true', decide_eq_false_iff_not]
      exact ⟨⟨by omega, by omega⟩, ih x (fun y hy => k1 y (by simp [hy])) k2.2 k2.1⟩
  unfold ghp
  rw [decide_eq_true (by omega), hg p 0 p2 p3 fun x hx => by have := p2 x hx; omega]; rfl
end Go.Proofs.YtmfbcipjknjicaaGreatDoor
/- The program's winning moves of misere play. For all arguments. -/
namespace Go.Proofs.YtmfbcipjknjicaaGreatDoor
open Eng
attribute [local irreducible] OpS OpG FC FCr Rel Fl Ef DR Fs
attribute [local simp] RV.fzR_names
set_option linter.unusedSimpArgs false
set_option linter.unusedVariables false
set_option maxHeartbeats 0
set_option maxRecDepth 100000

theorem nx_all {c : List Int} (hc : gcode c = true) : ∃ nx : List Int → Nat → Nat → Mem → Mem, ∀ p t o m, vld p t o → memOk c m → memOk c (nx p t o m) ∧ VC c p t o m (nx p t o m) := by
  classical
  refine ⟨fun p t' o' m => if H : ∃ m', memOk c m' ∧ VC c p t' o' m m' then H.choose else m, fun p t' o' m h1 h3 => ?_⟩
  have H := value_all c hc _ p t' o' m h1 (Nat.lt_succ_self _) h3
  dsimp only
  rw [dif_pos H]
  exact H.choose_spec
end Go.Proofs.YtmfbcipjknjicaaGreatDoor
