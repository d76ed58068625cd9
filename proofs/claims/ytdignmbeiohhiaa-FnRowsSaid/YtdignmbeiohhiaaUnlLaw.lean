/- UnlikeRows: the reference and the program tell the same keys; its drawn law. For all rows of the lengths that texts have. -/
import Derived.Test.YtdignmbeiohhiaaRwLaws
import Derived.Test.YtdignmbeiohhiaaUnlike
namespace Go.Proofs.Ytdignmbeiohhiaa
open Eng
attribute [local irreducible] OpS OpG FC FCr Rel Fl Ef DR Fs
set_option linter.unusedSimpArgs false
set_option maxHeartbeats 0
set_option maxRecDepth 100000

theorem bl_iff (p q : List UInt8) : bl p q = true ↔ p < q := by
  induction p generalizing q with
  | nil => cases q with
    | nil => simp [bl_nil]
    | cons b q => simp [bl_nc]
  | cons a p ih => cases q with
    | nil => simp [bl_nil]
    | cons b q =>
      rw [bl_cc, List.cons_lt_cons_iff]
      simp [ih]
theorem le_bl (p q : List UInt8) : decide (p ≤ q) = !bl q p := by
  have h : p ≤ q ↔ ¬ q < p := Iff.rfl
  by_cases hb : bl q p = true
  · have := (bl_iff q p).1 hb
    rw [hb]
    simp [h, this]
  · have h2 : ¬ q < p := fun e => hb ((bl_iff q p).2 e)
    have h3 : bl q p = false := by simpa using hb
    rw [h3]
    simp [h, h2]
theorem srtS_mem (l : List (List UInt8)) (k : List UInt8) : k ∈ srtS l ↔ k ∈ l := List.mem_mergeSort
theorem srtS_sk {l : List (List UInt8)} (h : l.Nodup) : SK (srtS l) := by
  have e : (fun x y : List UInt8 => decide (x ≤ y)) = fun x y => !bl y x := by funext x y; exact le_bl x y
  have h1 : (srtS l).Pairwise fun a b => (!bl b a) = true := by
    unfold srtS
    rw [e]
    refine List.pairwise_mergeSort (fun a b c h1 h2 => ?_) (fun a b => ?_) l
    · have h1 : bl b a = false := by simpa using h1
      have h2 : bl c b = false := by simpa using h2
      cases h3 : bl c a with
      | false => rfl
      | true =>
        rcases bl_tri b a h1 with e | e
        · subst e; rw [h2] at h3; cases h3
        · rw [bl_trans h3 e] at h2; cases h2
    · cases h3 : bl b a with
      | false => rfl
      | true => rw [bl_asymm h3]; rfl
  have h2 : (srtS l).Nodup := (List.mergeSort_perm l _).nodup_iff.2 h
  refine List.Pairwise.imp₂ ?_ h1 h2
  intro a b h3 h4
  have h3 : bl b a = false := by simpa using h3
  rcases bl_tri b a h3 with e | e
  · exact absurd e.symm h4
  · exact e

theorem putRw_keys (k : List UInt8) (acc : List Rw) (x : List UInt8) : x ∈ keysOf (putRw (k, []) acc) ↔ x = k ∨ x ∈ keysOf acc := by
  induction acc with
  | nil => simp [putRw, keysOf]
  | cons q qs ih =>
    simp only [putRw]
    split
    · simp only [keysOf, List.map_cons, List.mem_cons] at ih ⊢
      rw [ih]
      constructor
      · rintro (h | h | h)
        · exact .inr (.inl h)
        · exact .inl h
        · exact .inr (.inr h)
      · rintro (h | h | h)
        · exact .inr (.inl h)
        · exact .inl h
        · exact .inr (.inr h)
    · split
      · rename_i h2
        simp only [keysOf, List.map_cons, List.mem_cons]
        rw [h2]
        constructor
        · rintro (h | h)
          · exact .inl h
          · exact .inr (.inr h)
        · rintro (h | h | h)
          · exact .inl h
          · exact .inl h
          · exact .inr h
      · simp [keysOf]
theorem putKs_keys (ks : List (List UInt8)) (acc : List Rw) (x : List UInt8) : x ∈ keysOf (putKs ks acc) ↔ x ∈ ks ∨ x ∈ keysOf acc := by
  induction ks generalizing acc with
  | nil => simp [putKs]
  | cons k ks ih =>
    rw [putKs, ih, putRw_keys, List.mem_cons]
    constructor
    · rintro (h | h | h)
      · exact .inl (.inr h)
      · exact .inl (.inl h)
      · exact .inr h
    · rintro ((h | h) | h)
      · exact .inr (.inl h)
      · exact .inl h
      · exact .inr (.inr h)
theorem putKs_sk (ks : List (List UInt8)) (acc : List Rw) (h : SK (keysOf acc)) : SK (keysOf (putKs ks acc)) := by
  induction ks generalizing acc with
  | nil => exact h
  | cons k ks ih => exact ih _ (putRw_sk h)

theorem onl_mem (a l : List Rw) (k : List UInt8) : k ∈ onl a l ↔ ∃ r ∈ l, r.1 = k ∧ wrth a r.1 = none := by
  induction l with
  | nil => simp [onl]
  | cons r rs ih =>
    rw [onl]
    split
    · rename_i h
      rw [List.mem_cons, ih]
      constructor
      · rintro (e | ⟨q, hq, h2⟩)
        · exact ⟨r, by simp, e.symm, fnd_neg.1 h⟩
        · exact ⟨q, by simp [hq], h2⟩
      · rintro ⟨q, hq, h2, h3⟩
        rcases List.mem_cons.1 hq with rfl | hq
        · exact .inl h2.symm
        · exact .inr ⟨q, hq, h2, h3⟩
    · rename_i h
      rw [ih]
      constructor
      · rintro ⟨q, hq, h2⟩
        exact ⟨q, by simp [hq], h2⟩
      · rintro ⟨q, hq, h2, h3⟩
        rcases List.mem_cons.1 hq with rfl | hq
        · exact absurd (fnd_neg.2 h3) h
        · exact ⟨q, hq, h2, h3⟩
theorem onl_sub (a l : List Rw) : (onl a l).Sublist (keysOf l) := by
  induction l with
  | nil => simp [onl, keysOf]
  | cons r rs ih =>
    rw [onl, keysOf, List.map_cons]
    split
    · exact ih.cons_cons _
    · exact ih.cons _
theorem unlike_same (a b : List Rw) : unlikeI a b = unlikeS a b := by
  unfold unlikeI unlikeS
  cases ea : goodRs a with
  | false => rfl
  | true =>
  cases eb : goodRs b with
  | false => rfl
  | true =>
    rw [if_neg (by simp), if_neg (by simp), if_neg (by simp), if_neg (by simp)]
    congr 1
    have sa := goodRs_srt ea
    have sb := goodRs_srt eb
    have nd : (unl b true a ++ onl a b).Nodup := by
      refine List.nodup_append.2 ⟨(unl_sub b true a).nodup (sk_nodup (srt_sk sa)), (onl_sub a b).nodup (sk_nodup (srt_sk sb)), ?_⟩
      intro x hx y hy e
      subst e
      obtain ⟨r, hr, h1, _⟩ := (unl_mem _ _ _ _).1 hx
      obtain ⟨q, hq, h2, h3⟩ := (onl_mem _ _ _).1 hy
      exact wrth_none h3 r hr (by rw [h1, h2])
    refine sk_eq _ _ (srtS_sk nd) (putKs_sk _ _ (by simp [keysOf, SK])) fun k => ?_
    rw [srtS_mem, putKs_keys, List.mem_append, List.mem_append]
    simp only [keysOf, List.map_nil, List.not_mem_nil, or_false]
    constructor
    · rintro (h | h)
      · exact .inl h
      · obtain ⟨r, hr, h1, h2⟩ := (onl_mem _ _ _).1 h
        exact .inr ((unl_mem _ _ _ _).2 ⟨r, hr, h1, by rw [unlC, h2]⟩)
    · rintro (h | h)
      · exact .inl h
      · obtain ⟨r, hr, h1, h2⟩ := (unl_mem _ _ _ _).1 h
        cases hw : wrth a r.1 with
        | none => exact .inr ((onl_mem _ _ _).2 ⟨r, hr, h1, hw⟩)
        | some w =>
          obtain ⟨q, hq, h3, h4⟩ := wrth_some hw
          refine .inl ((unl_mem _ _ _ _).2 ⟨q, hq, by rw [h3, h1], ?_⟩)
          rw [unlC, h3, wrth_of_mem sb hr]
          rw [unlC, hw] at h2
          simp only [decide_eq_true_eq] at h2 ⊢
          rw [h4]
          exact fun e => h2 e.symm
theorem unlikeI_len (a b : List Rw) : ((unlikeI a b).getD []).length ≤ 120 := by
  unfold unlikeI
  split
  · simp
  · split
    · simp
    · rename_i h1 h2
      have := goodRs_len (by simpa using h1)
      have := goodRs_len (by simpa using h2)
      have := unl_len b true a
      have := onl_len a b
      simp only [Option.getD_some, srtS_len, List.length_append]
      omega
end Go.Proofs.Ytdignmbeiohhiaa
