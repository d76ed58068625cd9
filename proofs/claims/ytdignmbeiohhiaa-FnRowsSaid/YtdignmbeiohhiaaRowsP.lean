/- What is put is found; what is dropped is gone; a table is read as it was written. No program in sight. -/
import Derived.Test.YtdignmbeiohhiaaDrop
import Derived.Test.YtdignmbeiohhiaaMrgP
import Derived.Test.YtdignmbeiohhiaaReadRw
namespace Go.Proofs.Ytdignmbeiohhiaa
open Eng
set_option linter.unusedSimpArgs false
set_option maxHeartbeats 0
set_option maxRecDepth 100000

theorem posB_app {b : UInt8} {a s : List UInt8} (h : b ∉ a) : posB b (a ++ b :: s) = a.length := by
  induction a with
  | nil => simp [posB]
  | cons c a ih =>
    have hc : c ≠ b := fun e => h (by simp [e])
    rw [List.cons_append, posB, if_neg hc, ih fun e => h (by simp [e])]; rfl
theorem pl_no {b : UInt8} (hb : b.toNat < 32) : ∀ {s : List UInt8}, pl s = true → b ∉ s := by
  intro s
  induction s with
  | nil => intro _ h; cases h
  | cons c s ih =>
    intro hs hm
    rw [pl] at hs
    split at hs
    · cases hs
    · rename_i hc
      rcases List.mem_cons.1 hm with rfl | hm
      · exact hc (.inl hb)
      · exact ih hs hm
theorem goodRw_txt {r : Rw} (h : goodRw r = true) : (61 : UInt8) ∉ r.1 ∧ (10 : UInt8) ∉ r.1 ∧ (10 : UInt8) ∉ r.2 := by
  unfold goodRw at h
  split at h
  · cases h
  · rename_i h1
    split at h
    · cases h
    · rename_i h2
      have p1 : pl r.1 = true := by
        unfold okTxt at h1
        split at h1
        · simp at h1
        · simpa using h1
      have p2 : pl r.2 = true := by
        unfold okTxt at h2
        split at h2
        · simp at h2
        · simpa using h2
      exact ⟨by simpa using h, pl_no (by decide) p1, pl_no (by decide) p2⟩
theorem read_back : ∀ {l : List Rw}, (∀ r ∈ l, goodRw r = true) → linesRw (spl 10 [] (txtRs l)) = some l
  | [], _ => lines_nil
  | r :: rs, h => by
    obtain ⟨h1, h2, h3⟩ := goodRw_txt (h r (by simp))
    have ih := read_back (l := rs) fun q hq => h q (by simp [hq])
    have hp : posB 10 (txtRs (r :: rs)) = (r.1 ++ 61 :: r.2).length := by
      have e : txtRs (r :: rs) = (r.1 ++ 61 :: r.2) ++ 10 :: txtRs rs := by simp [txtRs]
      rw [e, posB_app]
      intro hm
      rcases List.mem_append.1 hm with hm | hm
      · exact h2 hm
      · rcases List.mem_cons.1 hm with hm | hm
        · cases hm
        · exact h3 hm
    have e : txtRs (r :: rs) = (r.1 ++ 61 :: r.2) ++ 10 :: txtRs rs := by simp [txtRs]
    have hl : lineRw (r.1 ++ 61 :: r.2) = some r := by
      unfold lineRw
      rw [posB_app h1, if_pos (by simp)]
      simp
    rw [lines_some _ (by rw [hp, e]; simp), hp, e, List.take_left, hl]
    have hd : ((r.1 ++ 61 :: r.2) ++ 10 :: txtRs rs).drop ((r.1 ++ 61 :: r.2).length + 1) = txtRs rs := by
      have key : ∀ (A X : List UInt8), (A ++ 10 :: X).drop (A.length + 1) = X := fun A X => by
        rw [List.drop_append, List.drop_eq_nil_of_le (by omega), List.nil_append, show A.length + 1 - A.length = 1 by omega]; rfl
      exact key _ _
    rw [hd, ih]; rfl
theorem rows_back {l : List Rw} {s : List UInt8} (h : rowsTxt l = some s) : readRw s = some l := by
  unfold rowsTxt at h
  split at h
  · cases h
  · rename_i hg
    have hg : goodRs l = true := by simpa using hg
    split at h
    · cases h
    · rename_i hlen
      cases h
      unfold readRw
      rw [if_neg hlen, read_back (chk_good (goodRs_chk hg))]
      simp [hg]
theorem findRw_good {l : List Rw} (h : goodRs l = true) (k : List UInt8) : findRw l k = wrth l k := by
  unfold findRw wrth; rw [if_neg (by rw [h]; simp)]
theorem mem_keysW (w : List UInt8) : ∀ {l : List Rw} {r : Rw}, r ∈ l → r.2 = w → r.1 ∈ keysW w l
  | q :: qs, r, h, e => by
    rw [keysW]
    rcases List.mem_cons.1 h with rfl | h
    · rw [if_pos e]; simp
    · have := mem_keysW w h e
      split
      · simp [this]
      · exact this
/-- What is told of a row that was put. -/
theorem put_told {l : List Rw} {r : Rw} (h : putOk l r = true) : goodRs (putRw r l) = true ∧ findRw (putRw r l) r.1 = some r.2 ∧ (∃ less, dropRw (putRw r l) r.1 = some less ∧ less.length + 1 = (putRw r l).length ∧ (∀ q ∈ less, q ∈ putRw r l) ∧ findRw less r.1 = none) ∧
    (∃ keys, rowsW (putRw r l) r.2 = some keys ∧ r.1 ∈ keys ∧ keys.length ≤ (putRw r l).length) ∧ ∀ q ∈ l, q.1 ≠ r.1 → findRw (putRw r l) q.1 = some q.2 := by
  unfold putOk at h
  simp only [Bool.and_eq_true] at h
  obtain ⟨⟨hg, hr⟩, hd⟩ := h
  have hA : goodRs (putRw r l) = true := by rw [goodRs_put hg hr]; exact hd
  have hs := goodRs_srt hg
  have hsA := srt_put r hs
  have hm : r ∈ putRw r l := (putRw_iff hs).2 (.inl rfl)
  have hf : findRw (putRw r l) r.1 = some r.2 := by rw [findRw_good hA]; exact wrth_of_mem hsA hm
  refine ⟨hA, hf, ?_, ⟨_, by unfold rowsW; rw [if_neg (by rw [hA]; simp)], mem_keysW _ hm rfl, keysW_len _ _⟩, fun q hq hne => ?_⟩
  · have hw := wrth_of_mem hsA hm
    have hb := fnd_bounds (putRw r l) r.1
    have hn : ¬ fnd (putRw r l) r.1 < 0 := fun e => by unfold wrth at hw; rw [if_pos e] at hw; cases hw
    obtain ⟨i, hi⟩ : ∃ i : Nat, fnd (putRw r l) r.1 = i := ⟨(fnd (putRw r l) r.1).toNat, by omega⟩
    have hil : i < (putRw r l).length := by omega
    obtain ⟨j, hj, h1, h2⟩ := fndFrom_some (putRw r l) 0 i hi
    have hji : i = j := by omega
    subst hji
    refine ⟨(putRw r l).take i ++ (putRw r l).drop (i + 1), ?_, by simp; omega, ?_, ?_⟩
    · unfold dropRw
      rw [if_neg (by rw [hA]; simp), if_neg hn, hi, Int.toNat_natCast]
    · intro q hq
      rcases List.mem_append.1 hq with hq | hq
      · exact List.mem_of_mem_take hq
      · exact List.mem_of_mem_drop hq
    · unfold findRw
      split
      · rfl
      · have hno : ∀ q ∈ (putRw r l).take i ++ (putRw r l).drop (i + 1), q.1 ≠ r.1 := by
          intro q hq e
          rcases List.mem_append.1 hq with hq | hq
          · obtain ⟨k, hk, rfl⟩ := List.getElem_of_mem hq
            rw [List.length_take] at hk
            rw [List.getElem_take] at e
            have := hsA k i hil (by omega)
            rw [e, h2, bl_irr] at this; cases this
          · obtain ⟨k, hk, rfl⟩ := List.getElem_of_mem hq
            rw [List.length_drop] at hk
            rw [List.getElem_drop] at e
            have := hsA i (i + 1 + k) (by omega) (by omega)
            rw [e, h2, bl_irr] at this; cases this
        generalize (putRw r l).take i ++ (putRw r l).drop (i + 1) = M at *
        cases hwM : wrth M r.1 with
        | none => unfold wrth at hwM; exact hwM
        | some w =>
          obtain ⟨q, hq, e, _⟩ := wrth_some hwM
          exact absurd e (hno q hq)
  · rw [findRw_good hA]
    exact wrth_of_mem hsA ((putRw_iff hs).2 (.inr ⟨hq, hne⟩))
end Go.Proofs.Ytdignmbeiohhiaa
