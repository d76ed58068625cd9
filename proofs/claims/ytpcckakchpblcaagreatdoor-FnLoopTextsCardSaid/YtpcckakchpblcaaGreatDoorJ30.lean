/- Numbers in order, each once: by sorting and leaving out what stands there twice; by putting one by one. In plain lists. -/
import Derived.Test.YtpcckakchpblcaaGreatDoorLaySortI
import Derived.Test.YtpcckakchpblcaaGreatDoorPut
import Derived.Test.YtpcckakchpblcaaGreatDoorSortE
namespace Go.Proofs.YtpcckakchpblcaaGreatDoor
set_option linter.unusedSimpArgs false

/-- What stands ahead of a place, without what stands there twice in a row. -/
def ddTo (l : List Int) : Nat → List Int
  | 0 => []
  | j + 1 => if 0 < j ∧ l.getD j 0 = l.getD (j - 1) 0 then ddTo l j else ddTo l j ++ [l.getD j 0]
def dd (l : List Int) : List Int := ddTo l l.length
theorem ddTo_len (l : List Int) : ∀ j, (ddTo l j).length ≤ j
  | 0 => by simp [ddTo]
  | j + 1 => by have := ddTo_len l j; rw [ddTo]; split <;> simp <;> omega
theorem dd_len (l : List Int) : (dd l).length ≤ l.length := ddTo_len l _
def srtI (l : List Int) : List Int := l.mergeSort fun x y => decide (x ≤ y)
theorem srtI_len (l : List Int) : (srtI l).length = l.length := List.length_mergeSort l
theorem srtI_mem (l : List Int) (x : Int) : x ∈ srtI l ↔ x ∈ l := List.mem_mergeSort
theorem srtI_le (l : List Int) : (srtI l).Pairwise (· ≤ ·) := by
  have := List.pairwise_mergeSort (le := fun x y : Int => decide (x ≤ y)) (fun a b c h1 h2 => by simp at *; omega) (fun a b => by simp; omega) l
  exact this.imp (by intro a b h; simpa using h)
/-- Strictly rising numbers. -/
abbrev SI (l : List Int) : Prop := l.Pairwise (· < ·)
theorem ddTo_si {l : List Int} (h : l.Pairwise (· ≤ ·)) : ∀ j, j ≤ l.length → SI (ddTo l j) ∧ (∀ x ∈ ddTo l j, x ∈ l ∧ (0 < j → x ≤ l.getD (j - 1) 0)) ∧ (∀ i, i < j → l.getD i 0 ∈ ddTo l j)
  | 0, _ => ⟨by simp [ddTo], by simp [ddTo], fun i hi => by omega⟩
  | j + 1, hj => by
    obtain ⟨h1, h2, h3⟩ := ddTo_si h j (by omega)
    have hjl : j < l.length := by omega
    have ej : l.getD j 0 = l[j] := by simp [List.getD_eq_getElem?_getD, hjl]
    have hle : 0 < j → l.getD (j - 1) 0 ≤ l.getD j 0 := fun h0 => by
      have e1 : l.getD (j - 1) 0 = l[j - 1]'(by omega) := by simp [List.getD_eq_getElem?_getD, show j - 1 < l.length by omega]
      rw [e1, ej]
      exact List.pairwise_iff_getElem.1 h (j - 1) j (by omega) hjl (by omega)
    rw [ddTo]
    split
    · rename_i hc
      refine ⟨h1, fun x hx => ⟨(h2 x hx).1, fun _ => ?_⟩, fun i hi => ?_⟩
      · have := (h2 x hx).2 hc.1
        rw [Nat.add_sub_cancel]; omega
      · by_cases hij : i < j
        · exact h3 i hij
        · obtain rfl : i = j := by omega
          rw [hc.2]; exact h3 (i - 1) (by omega)
    · rename_i hc
      refine ⟨?_, fun x hx => ?_, fun i hi => ?_⟩
      · rw [SI, List.pairwise_append]
        refine ⟨h1, by simp, fun a ha b hb => ?_⟩
        rw [List.mem_singleton.1 hb]
        by_cases h0 : 0 < j
        · have a1 := (h2 a ha).2 h0
          have a2 := hle h0
          have a3 : l.getD j 0 ≠ l.getD (j - 1) 0 := fun e => hc ⟨h0, e⟩
          omega
        · have : j = 0 := by omega
          subst this
          simp [ddTo] at ha
      · rcases List.mem_append.1 hx with hx | hx
        · refine ⟨(h2 x hx).1, fun _ => ?_⟩
          rw [Nat.add_sub_cancel]
          by_cases h0 : 0 < j
          · have a1 := (h2 x hx).2 h0
            have := hle h0
            omega
          · have : j = 0 := by omega
            subst this
            simp [ddTo] at hx
        · rw [List.mem_singleton.1 hx, ej]
          exact ⟨List.getElem_mem _, fun _ => by rw [Nat.add_sub_cancel, ej]; omega⟩
      · by_cases hij : i < j
        · exact List.mem_append.2 (.inl (h3 i hij))
        · obtain rfl : i = j := by omega
          simp
theorem dd_si {l : List Int} (h : l.Pairwise (· ≤ ·)) : SI (dd l) := (ddTo_si h _ (Nat.le_refl _)).1
theorem dd_mem {l : List Int} (h : l.Pairwise (· ≤ ·)) (x : Int) : x ∈ dd l ↔ x ∈ l := by
  obtain ⟨_, h2, h3⟩ := ddTo_si h l.length (Nat.le_refl _)
  refine ⟨fun hx => (h2 x hx).1, fun hx => ?_⟩
  obtain ⟨i, hi, rfl⟩ := List.getElem_of_mem hx
  have := h3 i hi
  rwa [show l.getD i 0 = l[i] by simp [List.getD_eq_getElem?_getD, hi]] at this
theorem si_eq : ∀ (l m : List Int), SI l → SI m → (∀ k, k ∈ l ↔ k ∈ m) → l = m
  | [], [], _, _, _ => rfl
  | [], y :: m, _, _, h => absurd ((h y).2 (by simp)) (by simp)
  | x :: l, [], _, _, h => absurd ((h x).1 (by simp)) (by simp)
  | x :: l, y :: m, h1, h2, h => by
    rw [SI, List.pairwise_cons] at h1 h2
    have e : x = y := by
      rcases List.mem_cons.1 ((h x).1 (by simp)) with e | hx
      · exact e
      · rcases List.mem_cons.1 ((h y).2 (by simp)) with e | hy
        · exact e.symm
        · have a1 := h1.1 y hy
          have a2 := h2.1 x hx
          omega
    subst e
    rw [si_eq l m h1.2 h2.2 fun k => ?_]
    constructor
    · intro hk
      rcases List.mem_cons.1 ((h k).1 (by simp [hk])) with rfl | hm
      · have := h1.1 k hk; omega
      · exact hm
    · intro hk
      rcases List.mem_cons.1 ((h k).2 (by simp [hk])) with rfl | hm
      · have := h2.1 k hk; omega
      · exact hm
/-- Numbers put to their places one by one. -/
def putIs : List Int → List Int → List Int
  | [], acc => acc
  | x :: xs, acc => putIs xs (putI x acc)
theorem putIs_append (a b acc : List Int) : putIs (a ++ b) acc = putIs b (putIs a acc) := by
  induction a generalizing acc with
  | nil => rfl
  | cons x xs ih => exact ih _
theorem putI_iff (n y : Int) (l : List Int) : y ∈ putI n l ↔ y = n ∨ y ∈ l := by
  refine ⟨putI_mem, ?_⟩
  induction l with
  | nil => simp [putI]
  | cons x xs ih =>
    simp only [putI]
    split
    · rintro (h | h)
      · exact List.mem_cons_of_mem _ (ih (.inl h))
      · rcases List.mem_cons.1 h with rfl | h
        · simp
        · exact List.mem_cons_of_mem _ (ih (.inr h))
    · split
      · rename_i he
        rintro (h | h)
        · rw [h, he]; simp
        · exact h
      · rintro (h | h)
        · rw [h]; simp
        · exact List.mem_cons_of_mem _ h
theorem putI_si {n : Int} {l : List Int} (h : SI l) : SI (putI n l) := by
  induction l with
  | nil => simp [putI, SI]
  | cons x xs ih =>
    simp only [SI, List.pairwise_cons] at h
    simp only [putI]
    split
    · rename_i h1
      simp only [SI, List.pairwise_cons]
      refine ⟨fun y hy => ?_, ih h.2⟩
      rcases putI_mem hy with e | hy
      · omega
      · exact h.1 y hy
    · split
      · simp only [SI, List.pairwise_cons]; exact h
      · rename_i h1 h2
        simp only [SI, List.pairwise_cons]
        refine ⟨fun y hy => ?_, h⟩
        rcases List.mem_cons.1 hy with rfl | hy
        · omega
        · have := h.1 y hy; omega
theorem putIs_iff (a acc : List Int) (y : Int) : y ∈ putIs a acc ↔ y ∈ a ∨ y ∈ acc := by
  induction a generalizing acc with
  | nil => simp [putIs]
  | cons x xs ih =>
    rw [putIs, ih, putI_iff, List.mem_cons]
    constructor
    · rintro (h | h | h)
      · exact .inl (.inr h)
      · exact .inl (.inl h)
      · exact .inr h
    · rintro ((h | h) | h)
      · exact .inr (.inl h)
      · exact .inl h
      · exact .inr (.inr h)
theorem putIs_si (a acc : List Int) (h : SI acc) : SI (putIs a acc) := by
  induction a generalizing acc with
  | nil => exact h
  | cons x xs ih => exact ih _ (putI_si h)
theorem putIs_dd (l : List Int) : putIs l [] = dd (srtI l) := by
  refine si_eq _ _ (putIs_si l [] (by simp [SI])) (dd_si (srtI_le l)) fun k => ?_
  rw [putIs_iff, dd_mem (srtI_le l), srtI_mem]
  simp
theorem putIs_len (a acc : List Int) : (putIs a acc).length ≤ a.length + acc.length := by
  induction a generalizing acc with
  | nil => simp [putIs]
  | cons x xs ih => have := ih (putI x acc); have := putI_len x acc; rw [putIs]; simp; omega
end Go.Proofs.YtpcckakchpblcaaGreatDoor
/- The library's sort of whole numbers. For all lists of the lengths that the theorem names. -/
namespace Go.Proofs.YtpcckakchpblcaaGreatDoor
open Eng Go.Sort
attribute [local irreducible] OpS OpG FC FCr Rel Fl Ef DR Fs
set_option linter.unusedSimpArgs false
set_option maxHeartbeats 0
set_option maxRecDepth 100000

theorem sortI_ok (l : List Int) (hlen : l.length ≤ 1099511627776) : FC Tryz.prog 56 [.ref 1000000000000 0 l.length] [(1000000000000, 1, l.map RVi)] (fun rv O => rv = .tup [] ∧ O = [(1000000000000, 1, (srtI l).map RVi)]) := by
  cases l with
  | nil =>
    have e : srtI [] = [] := List.eq_nil_of_length_eq_zero (srtI_len [])
    rw [e]
    exact fc_of_sort0 (fun p cap w => shelf_slices_Sort_int_none p cap w)
  | cons x l => exact fc_of_sort RVi (Value.int .i64) (fun _ => rfl) (fun _ => rfl) srtI srtI_len (fun blk off cap ss w h1 h2 h3 => shelf_slices_Sort_int blk off cap ss w h1 h2 h3) (x :: l) (by simp) (by simp only [List.length_cons] at hlen ⊢; omega)
end Go.Proofs.YtpcckakchpblcaaGreatDoor
