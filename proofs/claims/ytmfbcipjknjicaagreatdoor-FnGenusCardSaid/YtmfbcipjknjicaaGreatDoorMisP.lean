/- Octal games in plain lists: moves of a heap, positions behind a move, misere values by the least number that is left out. -/
import Derived.Test.YtmfbcipjknjicaaGreatDoorJ11
namespace Go.Proofs.YtmfbcipjknjicaaGreatDoor
set_option linter.unusedSectionVars false
variable [One Bool]
set_option linter.unusedSimpArgs false
set_option linter.unusedVariables false

/-! The least number that is not in a list. -/
theorem nodup_sub_len {α : Type} [DecidableEq α] : ∀ {l m : List α}, l.Nodup → (∀ x ∈ l, x ∈ m) → l.length ≤ m.length
  | [], m, _, _ => by simp
  | x :: xs, m, h, hs => by
    rw [List.nodup_cons] at h
    have hx := hs x (by simp)
    have h1 := nodup_sub_len (m := m.erase x) h.2 fun y hy => by
      have hne : y ≠ x := by rintro rfl; exact h.1 hy
      exact (List.mem_erase_of_ne hne).2 (hs y (by simp [hy]))
    rw [List.length_erase_of_mem hx] at h1
    have : 0 < m.length := List.length_pos_of_mem hx
    simp only [List.length_cons]; omega
theorem below_len {l : List Int} {k : Nat} (h : ∀ j : Nat, j < k → (j : Int) ∈ l) : k ≤ l.length := by
  have hn : ((List.range k).map fun j : Nat => (j : Int)).Nodup := by
    rw [List.nodup_iff_pairwise_ne]
    refine List.pairwise_map.2 ?_
    refine (List.nodup_iff_pairwise_ne.1 List.nodup_range).imp ?_
    intro a b hab e; exact hab (by omega)
  have := nodup_sub_len hn (m := l) fun x hx => by
    obtain ⟨j, hj, rfl⟩ := List.mem_map.1 hx
    exact h j (List.mem_range.1 hj)
  simpa using this
def mexF (l : List Int) : Nat → Nat → Nat
  | 0, n => n
  | f + 1, n => if (n : Int) ∈ l then mexF l f (n + 1) else n
def mexL (l : List Int) : Nat := mexF l (l.length + 1) 0
theorem mexF_ok (l : List Int) : ∀ (f n : Nat), (∀ j : Nat, j < n → (j : Int) ∈ l) → l.length < n + f → ((mexF l f n : Nat) : Int) ∉ l ∧ ∀ j : Nat, j < mexF l f n → (j : Int) ∈ l
  | 0, n, h, hl => by have := below_len h; omega
  | f + 1, n, h, hl => by
    rw [mexF]
    split
    · rename_i hn
      refine mexF_ok l f (n + 1) (fun j hj => ?_) (by omega)
      by_cases e : j = n
      · subst e; exact hn
      · exact h j (by omega)
    · rename_i hn
      exact ⟨hn, h⟩
theorem mexL_not (l : List Int) : ((mexL l : Nat) : Int) ∉ l := (mexF_ok l _ 0 (by omega) (by omega)).1
theorem mexL_below (l : List Int) : ∀ j : Nat, j < mexL l → (j : Int) ∈ l := (mexF_ok l _ 0 (by omega) (by omega)).2
theorem mexL_eq {l : List Int} {n : Nat} (h : (n : Int) ∉ l) (h2 : ∀ j : Nat, j < n → (j : Int) ∈ l) : mexL l = n := by
  rcases Nat.lt_trichotomy (mexL l) n with h3 | h3 | h3
  · exact absurd (h2 _ h3) (mexL_not l)
  · exact h3
  · exact absurd (mexL_below l _ h3) h
theorem mexL_congr {l m : List Int} (h : ∀ x, x ∈ l ↔ x ∈ m) : mexL l = mexL m := mexL_eq (by rw [h]; exact mexL_not m) fun j hj => by rw [h]; exact mexL_below m j hj
theorem mexL_le (l : List Int) : mexL l ≤ l.length := below_len (mexL_below l)
def mexO (l : List Int) : Int := if l = [] then 1 else (mexL l : Nat)
theorem mexO_congr {l m : List Int} (h : ∀ x, x ∈ l ↔ x ∈ m) : mexO l = mexO m := by
  have e : l = [] ↔ m = [] := by
    rw [List.eq_nil_iff_forall_not_mem, List.eq_nil_iff_forall_not_mem]
    simp only [h]
  unfold mexO
  by_cases hl : l = []
  · rw [if_pos hl, if_pos (e.1 hl)]
  · rw [if_neg hl, if_neg (fun h => hl (e.2 h)), mexL_congr h]
theorem mexO_nn (l : List Int) : 0 ≤ mexO l ∧ mexO l ≤ l.length + 1 := by
  unfold mexO
  have := mexL_le l
  split <;> omega

/-! Moves. -/
def gcode (c : List Int) : Bool := decide (1 ≤ c.length) && decide (c.length ≤ 6) && decide (c.getD (c.length - 1) 0 ≠ 0) && c.all fun d => decide (0 ≤ d) && decide (d ≤ 7)
theorem gcode_len {c : List Int} (h : gcode c = true) : 1 ≤ c.length ∧ c.length ≤ 6 := by
  simp only [gcode, Bool.and_eq_true, decide_eq_true_eq] at h; exact h.1.1
theorem gcode_at {c : List Int} (h : gcode c = true) {d : Int} (hd : d ∈ c) : 0 ≤ d ∧ d ≤ 7 := by
  simp only [gcode, Bool.and_eq_true, decide_eq_true_eq, List.all_eq_true] at h; exact h.2 d hd
def splT (r : Int) (n : Nat) : List (List Int) := (List.range n).map fun a : Nat => [(a : Int) + 1, r - (a + 1)]
def spl2 (r : Int) : List (List Int) := splT r (r / 2).toNat
theorem splT_succ (r : Int) (n : Nat) : splT r (n + 1) = splT r n ++ [[(n : Int) + 1, r - (n + 1)]] := by simp [splT, List.range_succ]
def mvB (d r : Int) : List (List Int) := (if d % 2 = 1 ∧ r = 0 then [[]] else []) ++ (if d / 2 % 2 = 1 ∧ 0 < r then [[r]] else [])
def mvAt (c : List Int) (n : Int) (j : Nat) : List (List Int) := if n - j - 1 < 0 then [] else mvB (c.getD j 0) (n - j - 1) ++ (if c.getD j 0 / 4 % 2 = 1 then spl2 (n - j - 1) else [])
def rawT (c : List Int) (n : Int) (k : Nat) : List (List Int) := (List.range k).flatMap (mvAt c n)
theorem rawT_succ (c : List Int) (n : Int) (k : Nat) : rawT c n (k + 1) = rawT c n k ++ mvAt c n k := by simp [rawT, List.range_succ]
theorem rawT_stop {c : List Int} {n : Int} {k : Nat} (h : n - k - 1 < 0) : ∀ j, k ≤ j → rawT c n j = rawT c n k
  | 0, hj => by have : k = 0 := by omega
                rw [this]
  | j + 1, hj => by
    by_cases e : k = j + 1
    · rw [e]
    · rw [rawT_succ, rawT_stop h j (by omega), mvAt, if_pos (by omega), List.append_nil]
def hms (c : List Int) (n : Int) : List (List Int) := ordH (rawT c n c.length)
theorem mvB_mem {d r : Int} {m : List Int} (hr : 0 ≤ r) (h : m ∈ mvB d r) : (∀ x ∈ m, 0 < x) ∧ m.sum = r ∧ m.length ≤ 2 := by
  unfold mvB at h
  rcases List.mem_append.1 h with h | h
  · split at h
    · rename_i hc
      simp at h; subst h; simp [hc.2]
    · cases h
  · split at h
    · rename_i hc
      simp at h; subst h; simp [hc.2]
    · cases h
theorem spl2_mem {r : Int} {m : List Int} (hr : 0 ≤ r) (h : m ∈ spl2 r) : (∀ x ∈ m, 0 < x) ∧ m.sum = r ∧ m.length ≤ 2 := by
  unfold spl2 splT at h
  obtain ⟨a, ha, rfl⟩ := List.mem_map.1 h
  have ha := List.mem_range.1 ha
  refine ⟨fun x hx => ?_, by simp; omega, by simp⟩
  simp only [List.mem_cons, List.not_mem_nil, or_false] at hx
  omega
theorem mvAt_mem {c : List Int} {n : Int} {j : Nat} {m : List Int} (h : m ∈ mvAt c n j) : (∀ x ∈ m, 0 < x) ∧ 0 ≤ m.sum ∧ m.sum < n ∧ m.length ≤ 2 := by
  unfold mvAt at h
  split at h
  · cases h
  · rename_i hr
    have hr : 0 ≤ n - j - 1 := by omega
    rcases List.mem_append.1 h with h | h
    · obtain ⟨h1, h2, h3⟩ := mvB_mem hr h
      exact ⟨h1, by omega, by omega, h3⟩
    · split at h
      · obtain ⟨h1, h2, h3⟩ := spl2_mem hr h
        exact ⟨h1, by omega, by omega, h3⟩
      · cases h
theorem hms_mem {c : List Int} {n : Int} {m : List Int} (h : m ∈ hms c n) : (∀ x ∈ m, 0 < x) ∧ 0 ≤ m.sum ∧ m.sum < n ∧ m.length ≤ 2 := by
  rw [hms, ordH_iff, rawT] at h
  obtain ⟨j, _, hj⟩ := List.mem_flatMap.1 h
  exact mvAt_mem hj
theorem splT_len (r : Int) (n : Nat) : (splT r n).length = n := by simp [splT]
theorem mvAt_len (c : List Int) (n : Int) (j : Nat) (hn : n ≤ 300) : (mvAt c n j).length ≤ 152 := by
  unfold mvAt
  split
  · simp
  · have h1 : (mvB (c.getD j 0) (n - j - 1)).length ≤ 2 := by unfold mvB; split <;> split <;> simp
    have h2 : (if c.getD j 0 / 4 % 2 = 1 then spl2 (n - j - 1) else []).length ≤ 150 := by
      split
      · rw [spl2, splT_len]; omega
      · simp
    rw [List.length_append]; omega
theorem rawT_len (c : List Int) (n : Int) (hn : n ≤ 300) : ∀ k, (rawT c n k).length ≤ 152 * k
  | 0 => by simp [rawT]
  | k + 1 => by have := rawT_len c n hn k; have := mvAt_len c n k hn; rw [rawT_succ, List.length_append]; omega
theorem hms_len {c : List Int} {n : Int} (hn : n ≤ 300) (hc : c.length ≤ 6) : (hms c n).length ≤ 912 := by
  have h1 := ordH_len (rawT c n c.length)
  have h2 := rawT_len c n hn c.length
  have : 152 * c.length ≤ 152 * 6 := Nat.mul_le_mul_left _ hc
  unfold hms; omega

/-! Positions. -/
theorem sum_perm {l m : List Int} (h : l.Perm m) : l.sum = m.sum := by
  induction h with
  | nil => rfl
  | cons x _ ih => simp [ih]
  | swap x y l => simp; omega
  | trans _ _ h1 h2 => exact h1.trans h2
theorem srtI_perm (l : List Int) : (srtI l).Perm l := List.mergeSort_perm l _
theorem srtI_sum (l : List Int) : (srtI l).sum = l.sum := sum_perm (srtI_perm l)
theorem le_perm_eq : ∀ {l m : List Int}, l.Perm m → l.Pairwise (· ≤ ·) → m.Pairwise (· ≤ ·) → l = m
  | [], m, h, _, _ => (h.symm.eq_nil).symm
  | x :: xs, [], h, _, _ => absurd h.eq_nil (by simp)
  | x :: xs, y :: ys, h, h1, h2 => by
    rw [List.pairwise_cons] at h1 h2
    have hxy : x = y := by
      rcases List.mem_cons.1 (h.mem_iff.1 (List.mem_cons_self ..)) with e | hx
      · exact e
      · rcases List.mem_cons.1 (h.mem_iff.2 (List.mem_cons_self ..)) with e | hy
        · exact e.symm
        · have a := h2.1 x hx
          have b := h1.1 y hy
          omega
    subst hxy
    rw [le_perm_eq (List.Perm.cons_inv h) h1.2 h2.2]
theorem srtI_of {l m : List Int} (h : m.Perm l) (h2 : m.Pairwise (· ≤ ·)) : m = srtI l := le_perm_eq (h.trans (srtI_perm l).symm) h2 (srtI_le l)
def posH (h : List Int) : Prop := (∀ x ∈ h, 0 < x) ∧ h.Pairwise (· ≤ ·)
theorem sum_nn : ∀ {h : List Int}, (∀ x ∈ h, 0 < x) → (h.length : Int) ≤ h.sum ∧ ∀ x ∈ h, x ≤ h.sum
  | [], _ => by simp
  | x :: xs, h => by
    have h1 := sum_nn (h := xs) fun y hy => h y (by simp [hy])
    have h2 := h x (by simp)
    simp only [List.length_cons, List.sum_cons, List.mem_cons]
    refine ⟨by omega, ?_⟩
    rintro y (rfl | hy)
    · omega
    · have := h1.2 y hy; omega
def aftH (h : List Int) (i : Nat) (m : List Int) : List Int := srtI (h.take i ++ h.drop (i + 1) ++ m)
theorem aft_pos {h : List Int} {i : Nat} {m : List Int} (hh : posH h) (hm : ∀ x ∈ m, 0 < x) : posH (aftH h i m) := by
  refine ⟨fun x hx => ?_, srtI_le _⟩
  rw [aftH, srtI_mem] at hx
  rcases List.mem_append.1 hx with hx | hx
  · rcases List.mem_append.1 hx with hx | hx
    · exact hh.1 x (List.mem_of_mem_take hx)
    · exact hh.1 x (List.mem_of_mem_drop hx)
  · exact hm x hx
theorem aft_sum {h : List Int} {i : Nat} {m : List Int} (hi : i < h.length) : (aftH h i m).sum = h.sum - h[i] + m.sum := by
  have : h.sum = (h.take i).sum + (h[i] + (h.drop (i + 1)).sum) := by
    have e : h = h.take i ++ h[i] :: h.drop (i + 1) := by rw [← List.drop_eq_getElem_cons hi, List.take_append_drop]
    have e2 := congrArg List.sum e
    rwa [List.sum_append, List.sum_cons] at e2
  rw [aftH, srtI_sum, List.sum_append, List.sum_append]; omega
theorem aft_len {h : List Int} {i : Nat} {m : List Int} (hi : i < h.length) : (aftH h i m).length = h.length - 1 + m.length := by
  rw [aftH, srtI_len]; simp; omega
def visAt (c h : List Int) (j : Nat) : List (List Int) := if 0 < j ∧ h.getD j 0 = h.getD (j - 1) 0 then [] else (hms c (h.getD j 0)).map (aftH h j)
def visT (c h : List Int) (i : Nat) : List (List Int) := (List.range i).flatMap (visAt c h)
theorem visT_succ (c h : List Int) (i : Nat) : visT c h (i + 1) = visT c h i ++ visAt c h i := by simp [visT, List.range_succ]
def vis (c h : List Int) : List (List Int) := visT c h h.length
theorem vis_mem {c h p : List Int} (hh : posH h) (hp : p ∈ vis c h) : posH p ∧ p.sum < h.sum ∧ p.length ≤ h.length + 1 := by
  unfold vis visT at hp
  obtain ⟨j, hj, hp⟩ := List.mem_flatMap.1 hp
  have hj := List.mem_range.1 hj
  unfold visAt at hp
  split at hp
  · cases hp
  · obtain ⟨m, hm, rfl⟩ := List.mem_map.1 hp
    obtain ⟨h1, h2, h3, h4⟩ := hms_mem hm
    have e : h.getD j 0 = h[j] := by simp [List.getD_eq_getElem?_getD, hj]
    rw [e] at h3
    refine ⟨aft_pos hh h1, ?_, ?_⟩
    · rw [aft_sum hj]; omega
    · rw [aft_len hj]; omega
theorem vis_iff {c h p : List Int} (hh : h.Pairwise (· ≤ ·)) : p ∈ vis c h ↔ ∃ i, ∃ hi : i < h.length, ∃ m ∈ hms c h[i], p = aftH h i m := by
  unfold vis visT
  rw [List.mem_flatMap]
  constructor
  · rintro ⟨j, hj, hp⟩
    have hj := List.mem_range.1 hj
    unfold visAt at hp
    split at hp
    · cases hp
    · obtain ⟨m, hm, rfl⟩ := List.mem_map.1 hp
      have e : h.getD j 0 = h[j] := by simp [List.getD_eq_getElem?_getD, hj]
      exact ⟨j, hj, m, e ▸ hm, rfl⟩
  · rintro ⟨i, hi, m, hm, rfl⟩
    -- the first of the like heaps
    have key : ∀ i, (hi : i < h.length) → (m ∈ hms c h[i]) → ∃ j, j < h.length ∧ aftH h i m ∈ visAt c h j := by
      intro i
      induction i with
      | zero =>
        intro hi hm
        refine ⟨0, hi, ?_⟩
        have e : h.getD 0 0 = h[0] := by simp [List.getD_eq_getElem?_getD, hi]
        rw [visAt, if_neg (by omega), e]
        exact List.mem_map.2 ⟨m, hm, rfl⟩
      | succ i ih =>
        intro hi hm
        have e : h.getD (i + 1) 0 = h[i + 1] := by simp [List.getD_eq_getElem?_getD, hi]
        have e2 : h.getD i 0 = h[i] := by simp [List.getD_eq_getElem?_getD, show i < h.length by omega]
        by_cases heq : h[i + 1] = h[i]
        · obtain ⟨j, hj, hp⟩ := ih (by omega) (by rw [← heq]; exact hm)
          refine ⟨j, hj, ?_⟩
          have : aftH h (i + 1) m = aftH h i m := by
            unfold aftH
            congr 2
            rw [List.take_succ_eq_append_getElem (show i < h.length by omega), List.drop_eq_getElem_cons hi, List.append_assoc]
            rw [heq]; rfl
          rwa [this]
        · refine ⟨i + 1, hi, ?_⟩
          rw [visAt, if_neg (by rw [Nat.add_sub_cancel, e, e2]; exact fun h => heq h.2), e]
          exact List.mem_map.2 ⟨m, hm, rfl⟩
    obtain ⟨j, hj, hp⟩ := key i hi hm
    exact ⟨j, List.mem_range.2 hj, hp⟩

/-! Values. -/
def mvalF (c : List Int) : Nat → List Int → Nat → Nat → Int
  | 0, _, _, _ => 0
  | f + 1, h, t, o => mexO ((vis c h).map (fun p => mvalF c f p t o) ++ (if 0 < t then [mvalF c f h (t - 1) o, mvalF c f h (t - 1) (o + 1)] else []) ++ (if 0 < o then [mvalF c f h t (o - 1)] else []))
def msH (h : List Int) (t o : Nat) : Nat := h.sum.toNat + 2 * t + o
theorem mvalF_eq (c : List Int) : ∀ (f f' : Nat) (h : List Int) (t o : Nat), posH h → msH h t o < f → msH h t o < f' → mvalF c f h t o = mvalF c f' h t o
  | 0, _, _, _, _, _, hf, _ => by omega
  | _ + 1, 0, _, _, _, _, _, hf => by omega
  | f + 1, f' + 1, h, t, o, hh, h1, h2 => by
    rw [mvalF, mvalF]
    unfold msH at h1 h2
    have hs := sum_nn hh.1
    congr 2
    · congr 1
      · apply List.map_congr_left
        intro p hp
        obtain ⟨a, b, _⟩ := vis_mem hh hp
        have hps := sum_nn a.1
        exact mvalF_eq c f f' p t o a (by unfold msH; omega) (by unfold msH; omega)
      · split
        · rw [mvalF_eq c f f' h (t - 1) o hh (by unfold msH; omega) (by unfold msH; omega), mvalF_eq c f f' h (t - 1) (o + 1) hh (by unfold msH; omega) (by unfold msH; omega)]
        · rfl
    · split
      · rw [mvalF_eq c f f' h t (o - 1) hh (by unfold msH; omega) (by unfold msH; omega)]
      · rfl
def mv (c h : List Int) (t o : Nat) : Int := mvalF c (msH h t o + 1) h t o
def optM (c h : List Int) (t o : Nat) : List Int := (vis c h).map (fun p => mv c p t o) ++ (if 0 < t then [mv c h (t - 1) o, mv c h (t - 1) (o + 1)] else []) ++ (if 0 < o then [mv c h t (o - 1)] else [])
theorem mv_eq {c h : List Int} {t o : Nat} (hh : posH h) : mv c h t o = mexO (optM c h t o) := by
  have hs := sum_nn hh.1
  rw [mv, mvalF, optM]
  congr 2
  · congr 1
    · apply List.map_congr_left
      intro p hp
      obtain ⟨a, b, _⟩ := vis_mem hh hp
      have hps := sum_nn a.1
      exact mvalF_eq c _ _ p t o a (by unfold msH; omega) (by unfold msH; omega)
    · split
      · rw [mv, mv, mvalF_eq c _ (msH h (t - 1) o + 1) h (t - 1) o hh (by unfold msH; omega) (by omega), mvalF_eq c _ (msH h (t - 1) (o + 1) + 1) h (t - 1) (o + 1) hh (by unfold msH; omega) (by omega)]
      · rfl
  · split
    · rw [mv, mvalF_eq c _ (msH h t (o - 1) + 1) h t (o - 1) hh (by unfold msH; omega) (by omega)]
    · rfl
theorem mv_nn {c h : List Int} {t o : Nat} (hh : posH h) : 0 ≤ mv c h t o := by rw [mv_eq hh]; exact (mexO_nn _).1
end Go.Proofs.YtmfbcipjknjicaaGreatDoor
