/- Rows put together: what is found in them, what is unlike. No program in sight. -/
import Derived.Test.YtdignmbeiohhiaaRowsP
namespace Go.Proofs.Ytdignmbeiohhiaa
open Eng
set_option linter.unusedSimpArgs false
set_option maxHeartbeats 0
set_option maxRecDepth 100000

/-- Keys in which two tables differ: alone in one, or of another worth. -/
theorem unlike_mem {a b : List Rw} (sa : Srt a) (sb : Srt b) (k : List UInt8) : k ∈ unl b true a ++ onl a b ↔ wrth a k ≠ wrth b k := by
  have ha : ∀ w, wrth a k = some w ↔ (k, w) ∈ a := fun w => wrth_iff sa
  have hb : ∀ w, wrth b k = some w ↔ (k, w) ∈ b := fun w => wrth_iff sb
  rw [List.mem_append]
  constructor
  · rintro (h | h) e
    · obtain ⟨r, hr, h1, h2⟩ := (unl_mem _ _ _ _).1 h
      have : wrth a k = some r.2 := by rw [← h1]; exact wrth_of_mem sa hr
      rw [this] at e
      rw [unlC, h1, ← e] at h2
      simp at h2
    · obtain ⟨r, hr, h1, h2⟩ := (onl_mem _ _ _).1 h
      have : wrth b k = some r.2 := by rw [← h1]; exact wrth_of_mem sb hr
      rw [this, ← h1, h2] at e
      cases e
  · intro hne
    cases hw : wrth a k with
    | some w =>
      refine .inl ((unl_mem _ _ _ _).2 ⟨(k, w), (ha w).1 hw, rfl, ?_⟩)
      unfold unlC
      cases hv : wrth b (k, w).1 with
      | none => rfl
      | some v =>
        show decide (v ≠ w) = true
        rw [decide_eq_true_iff]
        rintro rfl
        exact hne (by rw [hw, show wrth b k = some v from hv])
    | none =>
      cases hv : wrth b k with
      | none => exact absurd (by rw [hw, hv]) hne
      | some v => exact .inr ((onl_mem _ _ _).2 ⟨(k, v), (hb v).1 hv, rfl, hw⟩)
theorem unlike_nd {a b : List Rw} (sa : Srt a) (sb : Srt b) : (unl b true a ++ onl a b).Nodup := by
  refine List.nodup_append.2 ⟨(unl_sub b true a).nodup (sk_nodup (srt_sk sa)), (onl_sub a b).nodup (sk_nodup (srt_sk sb)), ?_⟩
  intro x hx y hy e
  subst e
  obtain ⟨r, hr, h1, _⟩ := (unl_mem _ _ _ _).1 hx
  obtain ⟨q, hq, h2, h3⟩ := (onl_mem _ _ _).1 hy
  exact wrth_none h3 r hr (by rw [h1, h2])
theorem unlikeI_sym {a b : List Rw} (ea : goodRs a = true) (eb : goodRs b = true) : ∃ u, unlikeI a b = some u ∧ unlikeI b a = some u ∧ (unl b false a).length ≤ u.length ∧ u.length ≤ 120 := by
  have sa := goodRs_srt ea
  have sb := goodRs_srt eb
  have h1 : unlikeI a b = some (srtS (unl b true a ++ onl a b)) := by unfold unlikeI; rw [if_neg (by rw [ea]; simp), if_neg (by rw [eb]; simp)]
  have h2 : unlikeI b a = some (srtS (unl a true b ++ onl b a)) := by unfold unlikeI; rw [if_neg (by rw [eb]; simp), if_neg (by rw [ea]; simp)]
  have hl := unlikeI_len a b
  refine ⟨_, h1, ?_, ?_, by rw [h1] at hl; exact hl⟩
  · rw [h2]
    congr 1
    refine sk_eq _ _ (srtS_sk (unlike_nd sb sa)) (srtS_sk (unlike_nd sa sb)) fun k => ?_
    rw [srtS_mem, srtS_mem, unlike_mem sb sa, unlike_mem sa sb]
    exact ⟨fun h e => h e.symm, fun h e => h e.symm⟩
  · rw [srtS_len, List.length_append]
    have key : ∀ l : List Rw, (unl b false l).length ≤ (unl b true l).length := by
      intro l
      induction l with
      | nil => simp [unl]
      | cons r rs ih =>
        rw [unl, unl]
        by_cases h : unlC b false r = true
        · have h3 : unlC b true r = true := by
            unfold unlC at h ⊢
            cases hw : wrth b r.1 with
            | none => rfl
            | some w => rw [hw] at h; exact h
          rw [if_pos h, if_pos h3]; simp; omega
        · rw [if_neg h]
          split
          · simp; omega
          · exact ih
    have := key a
    omega
/-- What is told of tables that were put together. -/
theorem mrg_told {a b : List Rw} (h : mrgOk a b = true) : goodRs a = true ∧ goodRs b = true ∧ goodRs (mrg a b) = true ∧ (∀ r ∈ b, findRw (mrg a b) r.1 = some r.2) ∧
    (∀ r ∈ a, ∃ w, findRw (mrg a b) r.1 = some w ∧ findRw b r.1 = none ∧ w = r.2 ∨ findRw (mrg a b) r.1 = some w ∧ findRw b r.1 = some w) := by
  unfold mrgOk at h
  simp only [Bool.and_eq_true] at h
  obtain ⟨⟨ea, eb⟩, hd⟩ := h
  have sa := goodRs_srt ea
  have sb := goodRs_srt eb
  have hM : goodRs (mrg a b) = true := by rw [goodRs_mrg ea eb]; exact hd
  have hb : ∀ r ∈ b, wrth (mrg a b) r.1 = some r.2 := by
    intro r hr
    obtain ⟨i, hi, rfl⟩ := List.getElem_of_mem hr
    have e : b = b.take i ++ b[i] :: b.drop (i + 1) := by rw [← List.drop_eq_getElem_cons hi, List.take_append_drop]
    have e2 : mrg a b = mrg (putRw b[i] (mrg a (b.take i))) (b.drop (i + 1)) := by
      have : mrg a b = mrg a (b.take i ++ b[i] :: b.drop (i + 1)) := congrArg (mrg a) e
      rw [this]
      unfold mrg
      rw [List.foldl_append, List.foldl_cons]
    have s1 := mrg_srt sa (b.take i)
    rw [e2, mrg_wrth (srt_put _ s1) _ fun q hq h1 => ?_]
    · exact wrth_of_mem (srt_put _ s1) ((putRw_iff s1).2 (.inl rfl))
    · obtain ⟨j, hj, rfl⟩ := List.getElem_of_mem hq
      rw [List.length_drop] at hj
      rw [List.getElem_drop] at h1
      have := sb i (i + 1 + j) (by omega) (by omega)
      rw [h1, bl_irr] at this; cases this
  refine ⟨ea, eb, hM, fun r hr => by rw [findRw_good hM]; exact hb r hr, fun r hr => ?_⟩
  rw [findRw_good hM, findRw_good eb]
  cases hw : wrth b r.1 with
  | none =>
    refine ⟨r.2, .inl ⟨?_, rfl, rfl⟩⟩
    rw [mrg_wrth sa b fun q hq e => wrth_none hw q hq e]
    exact wrth_of_mem sa hr
  | some w =>
    have hm := (wrth_iff sb).1 hw
    exact ⟨w, .inr ⟨hb _ hm, rfl⟩⟩
end Go.Proofs.Ytdignmbeiohhiaa
