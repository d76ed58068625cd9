/- A turned loop is solved the other way round; a place without moves is lost at once. For all loops. -/
import Derived.Test.YtmplelnodamedaaOut
import Derived.Test.YtmplelnodamedaaPlay
namespace Go.Proofs.Ytmplelnodamedaa
set_option linter.unusedSimpArgs false

/-- The other player's state. -/
def oth (j : Nat) : Nat := if j % 2 = 0 then j + 1 else j - 1
theorem oth_par (j : Nat) : oth j % 2 ≠ j % 2 ∧ oth j / 2 = j / 2 := by unfold oth; split <;> omega
theorem oth_lt {j n : Nat} (h : j < 2 * n) : oth j < 2 * n := by have := oth_par j; omega
theorem mv_oth (j : Nat) : mv (oth j) = 3 - mv j := by have := oth_par j; unfold mv; omega
def swp (p : Int × Int) : Int × Int := (if p.1 = 0 then 0 else 3 - p.1, p.2)
theorem nxt_oth {L R : List (List Nat)} (hi : Inside L R) {j : Nat} (h : j < 2 * L.length) : (nxtOf R L).getD (oth j) [] = ((nxtOf L R).getD j []).map oth := by
  have h2 : oth j < 2 * R.length := by have := hi.1; have := oth_lt h; omega
  have hp := oth_par j
  rw [nxtOf, nxtOf, nxtTo_at R L _ _ h2, nxtTo_at L R _ _ h, hp.2]
  by_cases c : j % 2 = 0
  · rw [if_pos c, if_neg (by omega), List.map_map]
    refine List.map_congr_left fun x _ => ?_
    simp only [Function.comp, oth]
    rw [if_neg (by omega)]; omega
  · rw [if_neg c, if_pos (by omega), List.map_map]
    refine List.map_congr_left fun x _ => ?_
    simp only [Function.comp, oth]
    rw [if_pos (by omega)]
theorem rounds_oth {L R : List (List Nat)} (hi : Inside L R) : ∀ (t j : Nat), j < 2 * L.length → (rounds (nxtOf R L) (2 * R.length) t).getD (oth j) (0, 0) = swp ((rounds (nxtOf L R) (2 * L.length) t).getD j (0, 0)) := by
  intro t
  induction t with
  | zero =>
    intro j h
    have h2 : oth j < 2 * R.length := by have := hi.1; have := oth_lt h; omega
    simp [rounds, swp, h, h2]
  | succ t ih =>
    intro j h
    have h2 : oth j < 2 * R.length := by have := hi.1; have := oth_lt h; omega
    rw [rounds_succ_at h2, rounds_succ_at h, pick1_eq _ _ (wf_rounds _ _ t), pick1_eq _ _ (wf_rounds _ _ t), ih j h, mv_oth, nxt_oth hi h]
    have hw := wf_rounds (nxtOf L R) (2 * L.length) t
    have hwj := hw j
    have h12 := mv12 j
    have hkey : ∀ k ∈ (nxtOf L R).getD j [], (rounds (nxtOf R L) (2 * R.length) t).getD (oth k) (0, 0) = swp ((rounds (nxtOf L R) (2 * L.length) t).getD k (0, 0)) := fun k hk => ih k (nxtOf_alt hi j k hk).1
    have hwon : won (rounds (nxtOf R L) (2 * R.length) t) (3 - mv j) (((nxtOf L R).getD j []).map oth) = won (rounds (nxtOf L R) (2 * L.length) t) (mv j) ((nxtOf L R).getD j []) := by
      rw [Bool.eq_iff_iff, won_iff, won_iff]
      constructor
      · rintro ⟨k, hk, h3⟩
        obtain ⟨q, hq, rfl⟩ := List.mem_map.1 hk
        refine ⟨q, hq, ?_⟩
        rw [hkey q hq] at h3
        have := hw q
        simp only [swp] at h3
        split at h3 <;> omega
      · rintro ⟨q, hq, h3⟩
        refine ⟨oth q, List.mem_map.2 ⟨q, hq, rfl⟩, ?_⟩
        rw [hkey q hq]
        simp only [swp]
        split <;> omega
    have hlost : lostAll (rounds (nxtOf R L) (2 * R.length) t) (3 - mv j) (((nxtOf L R).getD j []).map oth) = lostAll (rounds (nxtOf L R) (2 * L.length) t) (mv j) ((nxtOf L R).getD j []) := by
      rw [Bool.eq_iff_iff, lost_iff, lost_iff]
      constructor
      · intro hall q hq
        have h3 := hall (oth q) (List.mem_map.2 ⟨q, hq, rfl⟩)
        rw [hkey q hq] at h3
        have := hw q
        simp only [swp] at h3
        split at h3 <;> omega
      · intro hall k hk
        obtain ⟨q, hq, rfl⟩ := List.mem_map.1 hk
        have h3 := hall q hq
        rw [hkey q hq]
        simp only [swp]
        split <;> omega
    rw [hwon, hlost]
    generalize (rounds (nxtOf L R) (2 * L.length) t).getD j (0, 0) = r at *
    generalize won (rounds (nxtOf L R) (2 * L.length) t) (mv j) ((nxtOf L R).getD j []) = b1 at *
    generalize lostAll (rounds (nxtOf L R) (2 * L.length) t) (mv j) ((nxtOf L R).getD j []) = b2 at *
    by_cases c1 : r.1 = 0
    · have e1 : (swp r).1 = 0 := by simp [swp, c1]
      have n1 : ¬ (swp r).1 ≠ 0 := fun h => h e1
      have n2 : ¬ r.1 ≠ 0 := fun h => h c1
      have n3 : ¬ mv j = 0 := by omega
      have n4 : ¬ 3 - mv j = 0 := by omega
      rw [if_neg n1, if_neg n2]
      cases b1 with
      | true => simp only [if_true, Option.map_some, Option.getD_some, swp, if_neg n3]
      | false =>
        cases b2 with
        | true => simp only [if_true, Bool.false_eq_true, if_false, Option.map_some, Option.getD_some, swp, if_neg n4]
        | false => rfl
    · have e1 : (swp r).1 ≠ 0 := by
        rcases hwj with h | h
        · rw [h] at c1; exact absurd rfl c1
        · simp only [swp, if_neg c1]; omega
      rw [if_pos e1, if_pos c1]; rfl
theorem fin_oth {L R : List (List Nat)} (hi : Inside L R) {j : Nat} (h : j < 2 * L.length) : (fin (nxtOf R L) (2 * R.length)).getD (oth j) (0, 0) = swp ((fin (nxtOf L R) (2 * L.length)).getD j (0, 0)) := by
  have := rounds_oth hi (2 * L.length + 1) j h
  unfold fin
  rw [hi.1] at this ⊢
  exact this
/-- Without a move one loses at once. -/
theorem fin_stuck {nxt n j} (h : j < n) (he : nxt.getD j [] = []) : (fin nxt n).getD j (0, 0) = (3 - mv j, 0) := by
  have h12 := mv12 j
  by_cases h0 : ((fin nxt n).getD j (0, 0)).1 = 0
  · obtain ⟨⟨k, hk, _⟩, _⟩ := fin_draw h h0
    rw [he] at hk; cases hk
  · obtain ⟨t, ht, h1, hp⟩ := fin_pick h h0
    have hz : t = 0 := by
      rcases Nat.eq_zero_or_pos t with h2 | h2
      · exact h2
      · exfalso
        have ho := fin_open (nxt := nxt) h (t := 0) (by omega) (by right; rw [h1]; exact_mod_cast h2)
        have e : (rounds nxt n 0).getD j (0, 0) = (0, 0) := by simp [rounds, h]
        have w0 : won (rounds nxt n 0) (mv j) [] = false := rfl
        have l0 : lostAll (rounds nxt n 0) (mv j) [] = true := rfl
        rw [pick1_eq nxt j (wf_rounds nxt n 0), he, e, w0, l0, if_neg (by simp), if_neg (by simp), if_pos rfl] at ho
        cases ho
    subst hz
    have e : (rounds nxt n 0).getD j (0, 0) = (0, 0) := by simp [rounds, h]
    have w0 : won (rounds nxt n 0) (mv j) [] = false := rfl
    have l0 : lostAll (rounds nxt n 0) (mv j) [] = true := rfl
    rw [pick1_eq nxt j (wf_rounds nxt n 0), he, e, w0, l0, if_neg (by simp), if_neg (by simp), if_pos rfl] at hp
    exact (congrArg Prod.snd (Option.some.inj hp)).symm
theorem inside_turn {L R : List (List Nat)} (h : Inside L R) : Inside R L := ⟨h.1.symm, fun l hl k hk => by rw [h.1]; exact h.2.2 l hl k hk, fun l hl k hk => by rw [h.1]; exact h.2.1 l hl k hk⟩
/-- Who wins in a turned loop. -/
theorem winner_turn {L R : List (List Int)} (hg : goodLp L R = true) (hg2 : goodLp R L = true) (a : Int) (left : Bool) : winner R L a (!left) = if winner L R a left = 0 then 0 else 3 - winner L R a left := by
  have g := goodN hg
  have ho : okAt R L a = okAt L R a := by unfold okAt; rw [hg, hg2, g.lenR]
  unfold winner
  rw [ho]
  cases hq : okAt L R a with
  | false => rfl
  | true =>
    obtain ⟨_, b1, b2⟩ := okAt_good hq
    rw [if_pos rfl, if_pos rfl]
    have hs : stN a.toNat left < 2 * (toN L).length := by rw [toN_len]; unfold stN; split <;> omega
    have e : stN a.toNat (!left) = oth (stN a.toNat left) := by
      cases left
      · simp only [stN, oth, Bool.not_false, if_true, Bool.false_eq_true, if_false]; rw [if_neg (by omega)]; omega
      · simp only [stN, oth, Bool.not_true, if_true, Bool.false_eq_true, if_false]; rw [if_pos (by omega)]
    have := fin_oth g.inside hs
    rw [toN_len, toN_len] at this
    unfold finG nxtG
    rw [e, this]
    rfl
end Go.Proofs.Ytmplelnodamedaa
