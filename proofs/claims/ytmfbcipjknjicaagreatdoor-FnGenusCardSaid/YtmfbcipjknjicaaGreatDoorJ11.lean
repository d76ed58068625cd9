/- A number put to its place in a rising list, as the reference does it. For all lists. -/
import Derived.Test.YtmfbcipjknjicaaGreatDoorCur
namespace Go.Proofs.YtmfbcipjknjicaaGreatDoor
set_option linter.unusedSectionVars false
variable [One Bool]
open Eng
attribute [local irreducible] OpS OpG FC FCr Rel Fl Ef DR Fs
set_option linter.unusedSimpArgs false
set_option maxHeartbeats 0
set_option maxRecDepth 100000

end Go.Proofs.YtmfbcipjknjicaaGreatDoor
/- Numbers in order, each once: by sorting and leaving out what stands there twice; by putting one by one. In plain lists. -/
namespace Go.Proofs.YtmfbcipjknjicaaGreatDoor
set_option linter.unusedSectionVars false
variable [One Bool]
set_option linter.unusedSimpArgs false

def srtI (l : List Int) : List Int := l.mergeSort fun x y => decide (x ≤ y)
theorem srtI_len (l : List Int) : (srtI l).length = l.length := List.length_mergeSort l
theorem srtI_mem (l : List Int) (x : Int) : x ∈ srtI l ↔ x ∈ l := List.mem_mergeSort
theorem srtI_le (l : List Int) : (srtI l).Pairwise (· ≤ ·) := by
  have := List.pairwise_mergeSort (le := fun x y : Int => decide (x ≤ y)) (fun a b c h1 h2 => by simp at *; omega) (fun a b => by simp; omega) l
  exact this.imp (by intro a b h; simpa using h)
end Go.Proofs.YtmfbcipjknjicaaGreatDoor
/- Lists of heaps in order, each once: by sorting and leaving out, by putting one by one. In plain lists. -/
namespace Go.Proofs.YtmfbcipjknjicaaGreatDoor
set_option linter.unusedSectionVars false
variable [One Bool]
set_option linter.unusedSimpArgs false

def lexc : List Int → List Int → Int
  | [], [] => 0
  | [], _ :: _ => -1
  | _ :: _, [] => 1
  | x :: xs, y :: ys => if x < y then -1 else if y < x then 1 else lexc xs ys
theorem lexc_zero : ∀ {a b : List Int}, lexc a b = 0 ↔ a = b
  | [], [] => by simp [lexc]
  | [], _ :: _ => by simp [lexc]
  | _ :: _, [] => by simp [lexc]
  | x :: xs, y :: ys => by
    rw [lexc]
    split
    · rename_i h; simp; intro e; omega
    · split
      · rename_i h; simp; intro e; omega
      · rename_i h1 h2
        have : x = y := by omega
        rw [lexc_zero (a := xs), List.cons.injEq]; simp [this]
theorem lexc_neg : ∀ (a b : List Int), lexc b a = - lexc a b
  | [], [] => by simp [lexc]
  | [], _ :: _ => by simp [lexc]
  | _ :: _, [] => by simp [lexc]
  | x :: xs, y :: ys => by
    rw [lexc, lexc, lexc_neg xs ys]
    by_cases h1 : x < y
    · rw [if_pos h1, if_neg (by omega), if_pos h1]; rfl
    · by_cases h2 : y < x
      · rw [if_pos h2, if_neg h1, if_pos h2]
      · rw [if_neg h2, if_neg h1, if_neg h1, if_neg h2]
theorem lexc_trans : ∀ {a b c : List Int}, lexc a b < 0 → lexc b c < 0 → lexc a c < 0
  | [], [], c, h, _ => by simp [lexc] at h
  | [], y :: ys, [], _, h2 => by simp [lexc] at h2
  | [], _ :: _, _ :: _, _, _ => by simp [lexc]
  | _ :: _, [], _, h, _ => by simp [lexc] at h
  | x :: xs, y :: ys, [], _, h2 => by simp [lexc] at h2
  | x :: xs, y :: ys, z :: zs, h1, h2 => by
    rw [lexc] at h1 h2 ⊢
    split at h1
    · split at h2
      · rw [if_pos (by omega)]; omega
      · split at h2
        · omega
        · rw [if_pos (by omega)]; omega
    · split at h1
      · omega
      · split at h2
        · rw [if_pos (by omega)]; omega
        · split at h2
          · omega
          · rw [if_neg (by omega), if_neg (by omega)]; exact lexc_trans h1 h2
def cmpH (a b : List Int) : Int := if a.length < b.length then -1 else if b.length < a.length then 1 else lexc a b
theorem cmpH_zero {a b : List Int} : cmpH a b = 0 ↔ a = b := by
  unfold cmpH
  split
  · simp; rintro rfl; omega
  · split
    · simp; rintro rfl; omega
    · exact lexc_zero
theorem cmpH_neg (a b : List Int) : cmpH b a = - cmpH a b := by
  unfold cmpH
  by_cases h1 : a.length < b.length
  · rw [if_pos h1, if_neg (by omega), if_pos h1]; rfl
  · by_cases h2 : b.length < a.length
    · rw [if_pos h2, if_neg h1, if_pos h2]
    · rw [if_neg h2, if_neg h1, if_neg h1, if_neg h2]; exact lexc_neg a b
theorem cmpH_trans {a b c : List Int} (h1 : cmpH a b < 0) (h2 : cmpH b c < 0) : cmpH a c < 0 := by
  unfold cmpH at *
  split at h1
  · split at h2
    · rw [if_pos (by omega)]; omega
    · split at h2
      · omega
      · rw [if_pos (by omega)]; omega
  · split at h1
    · omega
    · split at h2
      · rw [if_pos (by omega)]; omega
      · split at h2
        · omega
        · rw [if_neg (by omega), if_neg (by omega)]; exact lexc_trans h1 h2
abbrev SH (l : List (List Int)) : Prop := l.Pairwise fun a b => cmpH a b < 0
theorem sh_eq : ∀ (l m : List (List Int)), SH l → SH m → (∀ x, x ∈ l ↔ x ∈ m) → l = m
  | [], [], _, _, _ => rfl
  | [], y :: ys, _, _, h => by have := (h y).2 (by simp); cases this
  | x :: xs, [], _, _, h => by have := (h x).1 (by simp); cases this
  | x :: xs, y :: ys, h1, h2, h => by
    rw [SH, List.pairwise_cons] at h1 h2
    have hxy : x = y := by
      rcases List.mem_cons.1 ((h x).1 (by simp)) with e | hx
      · exact e
      · rcases List.mem_cons.1 ((h y).2 (by simp)) with e | hy
        · exact e.symm
        · have a := h2.1 x hx
          have b := h1.1 y hy
          rw [cmpH_neg] at a; omega
    subst hxy
    have hne : ∀ l : List (List Int), (∀ a' ∈ l, cmpH x a' < 0) → x ∉ l := fun l hl hx => by
      have := hl x hx
      rw [cmpH_zero.2 rfl] at this; omega
    rw [sh_eq xs ys h1.2 h2.2 fun z => ?_]
    constructor
    · intro hz
      rcases List.mem_cons.1 ((h z).1 (List.mem_cons_of_mem _ hz)) with e | hz'
      · subst e; exact absurd hz (hne xs h1.1)
      · exact hz'
    · intro hz
      rcases List.mem_cons.1 ((h z).2 (List.mem_cons_of_mem _ hz)) with e | hz'
      · subst e; exact absurd hz (hne ys h2.1)
      · exact hz'
def putH (x : List Int) : List (List Int) → List (List Int)
  | [] => [x]
  | y :: ys => if cmpH y x < 0 then y :: putH x ys else if y = x then y :: ys else x :: y :: ys
theorem putH_iff {x z : List Int} {l : List (List Int)} : z ∈ putH x l ↔ z = x ∨ z ∈ l := by
  induction l with
  | nil => simp [putH]
  | cons y ys ih =>
    rw [putH]
    split
    · rw [List.mem_cons, ih, List.mem_cons]
      constructor
      · rintro (h | h | h)
        · exact .inr (.inl h)
        · exact .inl h
        · exact .inr (.inr h)
      · rintro (h | h | h)
        · exact .inr (.inl h)
        · exact .inl h
        · exact .inr (.inr h)
    · split
      · rename_i _ e
        rw [List.mem_cons]
        constructor
        · exact fun h => .inr h
        · rintro (h | h)
          · exact .inl (h.trans e.symm)
          · exact h
      · rw [List.mem_cons]
theorem putH_len (x : List Int) (l : List (List Int)) : (putH x l).length ≤ l.length + 1 := by
  induction l with
  | nil => simp [putH]
  | cons y ys ih => rw [putH]; split <;> (try split) <;> simp <;> omega
theorem putH_sh {x : List Int} : ∀ {l : List (List Int)}, SH l → SH (putH x l)
  | [], _ => by simp [putH, SH]
  | y :: ys, h => by
    rw [SH, List.pairwise_cons] at h
    rw [putH]
    split
    · rename_i hlt
      refine List.pairwise_cons.2 ⟨fun z hz => ?_, putH_sh h.2⟩
      rcases putH_iff.1 hz with rfl | hz
      · exact hlt
      · exact h.1 z hz
    · split
      · exact List.pairwise_cons.2 h
      · rename_i h1 h2
        have hlt : cmpH x y < 0 := by
          rw [cmpH_neg]
          have : cmpH y x ≠ 0 := fun e => h2 (cmpH_zero.1 e)
          omega
        refine List.pairwise_cons.2 ⟨fun z hz => ?_, List.pairwise_cons.2 h⟩
        rcases List.mem_cons.1 hz with rfl | hz
        · exact hlt
        · exact cmpH_trans hlt (h.1 z hz)
theorem putH_take {x : List Int} {l : List (List Int)} {k : Nat} (h : l.take k ++ putH x (l.drop k) = putH x l) (hk : k < l.length) (hx : cmpH l[k] x < 0) : l.take (k + 1) ++ putH x (l.drop (k + 1)) = putH x l := by
  rw [← h, List.drop_eq_getElem_cons hk, putH, if_pos hx, List.take_succ_eq_append_getElem hk, List.append_assoc]; rfl
def putHs (l : List (List Int)) (m : List (List Int)) : List (List Int) := l.foldl (fun m x => putH x m) m
theorem putHs_iff {z : List Int} : ∀ {l m : List (List Int)}, z ∈ putHs l m ↔ z ∈ l ∨ z ∈ m
  | [], m => by simp [putHs]
  | x :: xs, m => by
    have := putHs_iff (z := z) (l := xs) (m := putH x m)
    rw [putHs] at this ⊢
    rw [List.foldl_cons, this, putH_iff, List.mem_cons]
    constructor
    · rintro (h | h | h)
      · exact .inl (.inr h)
      · exact .inl (.inl h)
      · exact .inr h
    · rintro ((h | h) | h)
      · exact .inr (.inl h)
      · exact .inl h
      · exact .inr (.inr h)
theorem putHs_sh : ∀ {l m : List (List Int)}, SH m → SH (putHs l m)
  | [], m, h => h
  | x :: xs, m, h => putHs_sh (l := xs) (putH_sh h)
theorem putHs_app (l m z : List (List Int)) : putHs (l ++ m) z = putHs m (putHs l z) := by simp [putHs]
theorem putHs_len : ∀ (l m : List (List Int)), (putHs l m).length ≤ l.length + m.length
  | [], m => by simp [putHs]
  | x :: xs, m => by
    have := putHs_len xs (putH x m)
    have h2 := putH_len x m
    rw [putHs] at this ⊢
    rw [List.foldl_cons, List.length_cons]; omega
def ordH (l : List (List Int)) : List (List Int) := putHs l []
theorem ordH_sh (l : List (List Int)) : SH (ordH l) := putHs_sh (by simp [SH])
theorem ordH_iff {z : List Int} {l : List (List Int)} : z ∈ ordH l ↔ z ∈ l := by simp [ordH, putHs_iff]
theorem ordH_len (l : List (List Int)) : (ordH l).length ≤ l.length := by have := putHs_len l []; simpa [ordH] using this
theorem ordH_of {l m : List (List Int)} (h : SH m) (h2 : ∀ x, x ∈ m ↔ x ∈ l) : m = ordH l := sh_eq _ _ h (ordH_sh l) fun x => by rw [h2, ordH_iff]
def ddToH (l : List (List Int)) : Nat → List (List Int)
  | 0 => []
  | j + 1 => if 0 < j ∧ l.getD j [] = l.getD (j - 1) [] then ddToH l j else ddToH l j ++ [l.getD j []]
def ddH (l : List (List Int)) : List (List Int) := ddToH l l.length
theorem ddToH_sh {l : List (List Int)} (h : l.Pairwise fun a b => cmpH a b ≤ 0) : ∀ j, j ≤ l.length → SH (ddToH l j) ∧ (∀ x ∈ ddToH l j, x ∈ l ∧ (0 < j → cmpH x (l.getD (j - 1) []) ≤ 0)) ∧ (∀ i, i < j → l.getD i [] ∈ ddToH l j)
  | 0, _ => ⟨by simp [ddToH, SH], by simp [ddToH], fun i hi => by omega⟩
  | j + 1, hj => by
    obtain ⟨h1, h2, h3⟩ := ddToH_sh h j (by omega)
    have hjl : j < l.length := by omega
    have ej : l.getD j [] = l[j] := by simp [List.getD_eq_getElem?_getD, hjl]
    have hle : 0 < j → cmpH (l.getD (j - 1) []) (l.getD j []) ≤ 0 := fun h0 => by
      have e1 : l.getD (j - 1) [] = l[j - 1]'(by omega) := by simp [List.getD_eq_getElem?_getD, show j - 1 < l.length by omega]
      rw [e1, ej]
      exact List.pairwise_iff_getElem.1 h (j - 1) j (by omega) hjl (by omega)
    rw [ddToH]
    split
    · rename_i hc
      refine ⟨h1, fun x hx => ⟨(h2 x hx).1, fun _ => ?_⟩, fun i hi => ?_⟩
      · have := (h2 x hx).2 hc.1
        rw [Nat.add_sub_cancel, hc.2]; exact this
      · by_cases hij : i < j
        · exact h3 i hij
        · have : i = j := by omega
          subst this
          rw [hc.2]; exact h3 _ (by omega)
    · rename_i hc
      have hstep : ∀ x ∈ ddToH l j, cmpH x (l.getD j []) < 0 := fun x hx => by
        have h0 : 0 < j := by
          rcases Nat.eq_zero_or_pos j with rfl | h0
          · simp [ddToH] at hx
          · exact h0
        have ha := (h2 x hx).2 h0
        have hb := hle h0
        have hne : l.getD j [] ≠ l.getD (j - 1) [] := fun e => hc ⟨h0, e⟩
        have hb' : cmpH (l.getD (j - 1) []) (l.getD j []) < 0 := by
          have : cmpH (l.getD (j - 1) []) (l.getD j []) ≠ 0 := fun e => hne (cmpH_zero.1 e).symm
          omega
        rcases Int.lt_or_eq_of_le ha with ha | ha
        · exact cmpH_trans ha hb'
        · rw [cmpH_zero.1 ha]; exact hb'
      refine ⟨List.pairwise_append.2 ⟨h1, by simp, fun a ha b hb => by simp at hb; subst hb; exact hstep a ha⟩, fun x hx => ?_, fun i hi => ?_⟩
      · rw [Nat.add_sub_cancel]
        rcases List.mem_append.1 hx with hx | hx
        · exact ⟨(h2 x hx).1, fun _ => Int.le_of_lt (hstep x hx)⟩
        · have hx := List.mem_singleton.1 hx; subst hx
          exact ⟨by rw [ej]; exact List.getElem_mem _, fun _ => by rw [cmpH_zero.2 rfl]; omega⟩
      · by_cases hij : i < j
        · exact List.mem_append_left _ (h3 i hij)
        · have : i = j := by omega
          subst this; simp
theorem ddH_ord {l s : List (List Int)} (hs : s.Pairwise fun a b => cmpH a b ≤ 0) (hp : ∀ x, x ∈ s ↔ x ∈ l) : ddH s = ordH l := by
  obtain ⟨h1, h2, h3⟩ := ddToH_sh hs s.length (Nat.le_refl _)
  refine ordH_of h1 fun x => ?_
  rw [← hp]
  constructor
  · exact fun hx => (h2 x hx).1
  · intro hx
    obtain ⟨i, hi, rfl⟩ := List.mem_iff_getElem.1 hx
    have := h3 i hi
    rwa [List.getD_eq_getElem?_getD, List.getElem?_eq_getElem hi, Option.getD_some] at this
def srtH (l : List (List Int)) : List (List Int) := l.mergeSort fun x y => decide (cmpH x y ≤ 0)
theorem srtH_len (l : List (List Int)) : (srtH l).length = l.length := List.length_mergeSort l
theorem srtH_mem (l : List (List Int)) (x : List Int) : x ∈ srtH l ↔ x ∈ l := List.mem_mergeSort
theorem srtH_le (l : List (List Int)) : (srtH l).Pairwise fun a b => cmpH a b ≤ 0 := by
  have := List.pairwise_mergeSort (le := fun x y : List Int => decide (cmpH x y ≤ 0)) (fun a b c h1 h2 => by
    simp only [decide_eq_true_eq] at *
    rcases Int.lt_or_eq_of_le h1 with h1 | h1
    · rcases Int.lt_or_eq_of_le h2 with h2 | h2
      · exact Int.le_of_lt (cmpH_trans h1 h2)
      · rw [← cmpH_zero.1 h2]; exact Int.le_of_lt h1
    · rw [cmpH_zero.1 h1]; exact h2) (fun a b => by
    simp only [Bool.or_eq_true, decide_eq_true_eq]
    have := cmpH_neg a b
    omega) l
  exact this.imp (by intro a b h; simpa using h)
theorem dd_srtH (l : List (List Int)) : ddH (srtH l) = ordH l := ddH_ord (srtH_le l) fun x => srtH_mem l x
theorem srtH_of : ∀ {l m : List (List Int)}, m.Perm l → (m.Pairwise fun a b => cmpH a b ≤ 0) → m = srtH l := by
  intro l m hp hm
  have h2 := srtH_le l
  have hp2 : m.Perm (srtH l) := hp.trans (List.mergeSort_perm l _).symm
  generalize srtH l = s at *
  clear hp
  induction m generalizing s with
  | nil => exact (hp2.symm.eq_nil).symm
  | cons x xs ih =>
    cases s with
    | nil => exact absurd hp2.eq_nil (by simp)
    | cons y ys =>
      rw [List.pairwise_cons] at hm h2
      have hxy : x = y := by
        rcases List.mem_cons.1 (hp2.mem_iff.1 (List.mem_cons_self ..)) with e | hx
        · exact e
        · rcases List.mem_cons.1 (hp2.mem_iff.2 (List.mem_cons_self ..)) with e | hy
          · exact e.symm
          · have a := h2.1 x hx
            have b := hm.1 y hy
            have := cmpH_neg x y
            exact cmpH_zero.1 (by omega)
      subst hxy
      rw [ih hm.2 _ h2.2 (List.Perm.cons_inv hp2)]
end Go.Proofs.YtmfbcipjknjicaaGreatDoor
