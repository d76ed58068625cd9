/- Lists of ints marked and looked at again, as the drawn laws do it. For all lists of the lengths that the theorem names. -/
import Derived.Test.YtpcckakchpblcaaGreatDoorJoinS
import Derived.Test.YtpcckakchpblcaaGreatDoorLoops
namespace Go.Proofs.YtpcckakchpblcaaGreatDoor
open Eng
attribute [local irreducible] OpS OpG FC FCr Rel Fl Ef DR Fs
set_option linter.unusedSimpArgs false
set_option maxHeartbeats 0
set_option maxRecDepth 100000

/-- The numbers from k on, n of them. -/
def fromN (k n : Nat) : List Int := (List.range n).map fun j => ((k + j : Nat) : Int)
theorem fromN_length (k n : Nat) : (fromN k n).length = n := by simp [fromN]
/-- A list whose first i numbers are marked. -/
def markI (k : Nat) (l : List Int) (i : Nat) : List Int := fromN k i ++ l.drop i
theorem markI_length {k : Nat} {l : List Int} {i : Nat} (h : i ≤ l.length) : (markI k l i).length = l.length := by simp [markI, fromN_length]; omega
theorem markI_zero (k : Nat) (l : List Int) : markI k l 0 = l := by simp [markI, fromN]
theorem markI_all (k : Nat) (l : List Int) (i : Nat) (h : l.length ≤ i) (h2 : i ≤ l.length) : markI k l i = fromN k l.length := by
  obtain rfl : i = l.length := by omega
  simp [markI]
theorem markI_set {k : Nat} {l : List Int} {i : Nat} (h : i < l.length) : (markI k l i).set i ((k + i : Nat) : Int) = markI k l (i + 1) := by
  unfold markI
  rw [List.set_append_right _ _ (by simp [fromN_length]), fromN_length, Nat.sub_self, List.drop_eq_getElem_cons h, List.set_cons_zero]
  simp [fromN, List.range_succ]
theorem map_at {α : Type} {f : α → RV} {l : List α} {i : Nat} (h : i < l.length) : (l.map f)[i]? = some (f l[i]) := by simp [h]

theorem map_ne {α : Type} {f : α → RV} {l : List α} {i : Nat} (h : i < l.length) : l.map f ≠ [] := by
  intro e; have := congrArg List.length e; simp at this; subst this; simp at h

/-- Whether a list holds the numbers from k on. -/
def heldI (k : Nat) : List Int → Bool
  | [] => true
  | x :: xs => if x ≠ (k : Int) then false else heldI (k + 1) xs
theorem heldI_fromN (k n : Nat) : heldI k (fromN k n) = true := by
  induction n generalizing k with
  | zero => rfl
  | succ n ih =>
    have e : fromN k (n + 1) = (k : Int) :: fromN (k + 1) n := by
      simp only [fromN, List.range_succ_eq_map, List.map_cons, List.map_map]
      congr 1
      apply List.map_congr_left
      intro j _
      simp; omega
    rw [e, heldI, if_neg (by simp)]
    exact ih (k + 1)

/-- Rows marked one behind the other, the first i of them. -/
def markR (k : Nat) : List (List Int) → Nat → List (List Int)
  | [], _ => []
  | r :: rs, 0 => r :: rs
  | r :: rs, i + 1 => fromN k r.length :: markR (k + r.length) rs i
def lens : List (List Int) → Nat → Nat
  | [], _ => 0
  | _ :: _, 0 => 0
  | r :: rs, i + 1 => r.length + lens rs i
theorem markR_length (k : Nat) (L : List (List Int)) (i : Nat) : (markR k L i).length = L.length := by
  induction L generalizing k i with
  | nil => cases i <;> rfl
  | cons r rs ih => cases i <;> simp [markR, ih]
theorem markR_zero (k : Nat) (L : List (List Int)) : markR k L 0 = L := by cases L <;> rfl
theorem lens_zero (L : List (List Int)) : lens L 0 = 0 := by cases L <;> rfl
theorem markR_at {k : Nat} {L : List (List Int)} {i : Nat} (h : i < L.length) : (markR k L i)[i]? = some L[i] := by
  induction L generalizing k i with
  | nil => simp at h
  | cons r rs ih =>
    cases i with
    | zero => rfl
    | succ i => simp [markR]; simpa using ih (k := k + r.length) (i := i) (by simpa using h)
theorem markR_set {k : Nat} {L : List (List Int)} {i : Nat} (h : i < L.length) : (markR k L i).set i (fromN (k + lens L i) L[i].length) = markR k L (i + 1) := by
  induction L generalizing k i with
  | nil => simp at h
  | cons r rs ih =>
    cases i with
    | zero => simp [markR, lens, markR_zero]
    | succ i =>
      simp only [markR, List.set_cons_succ, lens, List.getElem_cons_succ]
      rw [← ih (k := k + r.length) (i := i) (by simpa using h), Nat.add_assoc]
theorem lens_succ {L : List (List Int)} {i : Nat} (h : i < L.length) : lens L (i + 1) = lens L i + L[i].length := by
  induction L generalizing i with
  | nil => simp at h
  | cons r rs ih =>
    cases i with
    | zero => simp [lens, lens_zero]
    | succ i => simp only [lens, List.getElem_cons_succ]; have := ih (i := i) (by simpa using h); omega
theorem lens_le {L : List (List Int)} {i : Nat} (h : i ≤ L.length) : lens L i ≤ lens L L.length := by
  induction L generalizing i with
  | nil => simp [lens]
  | cons r rs ih =>
    cases i with
    | zero => simp [lens]
    | succ i => simp only [lens, List.length_cons]; have := ih (i := i) (by simpa using h); omega

/-- Whether rows hold the numbers from k on. -/
def heldR (k : Nat) : List (List Int) → Bool
  | [] => true
  | r :: rs => if heldI k r = false then false else heldR (k + r.length) rs
/-- Whether a loop's lists hold the numbers from k on. -/
def heldLp (k : Nat) (L R : List (List Int)) : Bool := heldR k L && heldR (k + lens L L.length) R
theorem lens_szSS (l : List (List Int)) (left : Int) (h0 : 0 ≤ left) (h : 0 ≤ szSS l left) : (lens l l.length : Int) + szSS l left = left := by
  induction l generalizing left with
  | nil => simp [lens, szSS]
  | cons r rs ih =>
    simp only [szSS] at h ⊢
    split at h
    · omega
    · rename_i hh
      rw [if_neg hh]
      have := ih (left - r.length) (by omega) h
      simp only [lens, List.length_cons]
      omega
theorem lens_szLp {L R : List (List Int)} {left : Int} (h : 0 ≤ szLp L R left) : (lens L L.length : Int) + lens R R.length ≤ left := by
  unfold szLp at h
  split at h
  · omega
  · split at h
    · omega
    · rename_i h1 h2
      have hl1 : ¬ left - L.length < 0 := by
        intro hh
        rw [szSSr, if_pos hh] at h1
        omega
      have e1 : szSSr L left = szSS L (left - L.length) := by rw [szSSr, if_neg hl1]
      have hl2 : ¬ szSSr L left - R.length < 0 := by
        intro hh
        have : szSSr R (szSSr L left) = -1 := by rw [szSSr, if_pos hh]
        omega
      have e2 : szSSr R (szSSr L left) = szSS R (szSSr L left - R.length) := by rw [szSSr, if_neg hl2]
      have h3 := lens_szSS L (left - L.length) (by omega) (by rw [← e1]; omega)
      have h4 := lens_szSS R (szSSr L left - R.length) (by omega) (by rw [← e2]; omega)
      rw [← e1] at h3
      rw [← e2] at h4
      omega
theorem markR_all (k : Nat) (L : List (List Int)) : lens (markR k L L.length) (markR k L L.length).length = lens L L.length ∧ heldR k (markR k L L.length) = true := by
  induction L generalizing k with
  | nil => exact ⟨rfl, rfl⟩
  | cons r rs ih =>
    have h := ih (k + r.length)
    simp only [List.length_cons, markR, lens, fromN_length, heldR, heldI_fromN]
    exact ⟨by omega, by simpa using h.2⟩
theorem heldLp_marked (k : Nat) (L R : List (List Int)) : heldLp k (markR k L L.length) (markR (k + lens L L.length) R R.length) = true := by
  simp only [heldLp, (markR_all k L).1, (markR_all k L).2, (markR_all (k + lens L L.length) R).2, Bool.and_self]
theorem lens_le_mul (L : List (List Int)) (n : Nat) (h : ∀ r ∈ L, r.length ≤ n) : lens L L.length ≤ L.length * n := by
  induction L with
  | nil => simp [lens]
  | cons r rs ih =>
    have := ih fun r hr => h r (by simp [hr])
    have := h r (by simp)
    simp only [lens, List.length_cons, Nat.add_mul]
    omega
theorem szLp_le (L R : List (List Int)) {left : Int} (h0 : 0 ≤ left) : szLp L R left ≤ left := by
  have a := szSSr_le L left
  have b := szSSr_le R (szSSr L left)
  unfold szLp
  split
  · omega
  · split <;> omega
end Go.Proofs.YtpcckakchpblcaaGreatDoor
/- The drawn law of JoinLoops answers true. For all loops. -/
namespace Go.Proofs.YtpcckakchpblcaaGreatDoor
open Eng
attribute [local irreducible] OpS OpG FC FCr Rel Fl Ef DR Fs
attribute [local simp] RV.fzR_names
set_option linter.unusedSimpArgs false
set_option maxHeartbeats 0
set_option maxRecDepth 100000

theorem jo_small (gL gR hL hR : List (List Int)) : (joA gL gR hL hR).length ≤ 36 ∧ (joB gL gR hL hR).length ≤ 36 ∧ lens (joA gL gR hL hR) (joA gL gR hL hR).length ≤ 864 ∧ lens (joB gL gR hL hR) (joB gL gR hL hR).length ≤ 864 := by
  cases ho : joOk gL gR hL hR with
  | false =>
    obtain ⟨a, b⟩ := jo_no ho
    rw [a, b]; simp [lens]
  | true =>
    obtain ⟨a, b⟩ := jo_yes ho
    rw [a, b]
    unfold joOk at ho
    simp only [Bool.and_eq_true] at ho
    have g := goodI ho.2
    have h1 := g.len
    have h2 := g.lenR
    have a1 := lens_le_mul (jn gL hL) 24 g.lL
    have b1 := lens_le_mul (jn gR hR) 24 g.lR
    omega
end Go.Proofs.YtpcckakchpblcaaGreatDoor
