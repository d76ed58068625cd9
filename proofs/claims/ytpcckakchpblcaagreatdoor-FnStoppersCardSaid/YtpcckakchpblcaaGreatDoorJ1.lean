/- What a solved graph tells of the next states: winners, numbers of turns, the move that is chosen. For all graphs whose successors are states of the other player. -/
import Derived.Test.YtpcckakchpblcaaGreatDoorSolve
namespace Go.Proofs.YtpcckakchpblcaaGreatDoor
set_option linter.unusedSimpArgs false

theorem rounds_succ_at {nxt n t j} (h : j < n) : (rounds nxt n (t + 1)).getD j (0, 0) = ((pick1 nxt (rounds nxt n t) t j).map (·.2)).getD ((rounds nxt n t).getD j (0, 0)) := by
  rw [rounds, rnd_at (by rw [rounds_len]; exact h)]
theorem rounds_keep {nxt n t j} (h : j < n) (h1 : ((rounds nxt n t).getD j (0, 0)).1 ≠ 0) : ∀ m, (rounds nxt n (t + m)).getD j (0, 0) = (rounds nxt n t).getD j (0, 0) := by
  intro m
  induction m with
  | zero => rfl
  | succ m ih =>
    rw [← Nat.add_assoc, rounds_succ_at h, pick1_eq nxt j (wf_rounds nxt n (t + m)), ih, if_pos h1]; rfl
theorem rounds_back {nxt n t j} (h : j < n) : ∀ m, ((rounds nxt n (t + m)).getD j (0, 0)).1 ≠ 0 → ((rounds nxt n (t + m)).getD j (0, 0)).2 < t → (rounds nxt n t).getD j (0, 0) = (rounds nxt n (t + m)).getD j (0, 0) := by
  intro m
  induction m with
  | zero => intro _ _; rfl
  | succ m ih =>
    intro h1 h2
    rw [← Nat.add_assoc, rounds_succ_at h, pick1_eq nxt j (wf_rounds nxt n (t + m))] at h1 h2 ⊢
    split at h1
    · rename_i c
      rw [if_pos c] at h2 ⊢
      exact ih h1 h2
    · rename_i c
      rw [if_neg c] at h2 ⊢
      split at h1
      · rename_i c2; rw [if_pos c2] at h2; simp only [Option.map_some, Option.getD_some] at h2; omega
      · rename_i c2
        rw [if_neg c2] at h2 ⊢
        split at h1
        · rename_i c3; rw [if_pos c3] at h2; simp only [Option.map_some, Option.getD_some] at h2; omega
        · exact absurd h1 c
/-- Where the rounds stand, by what they come to. -/
theorem rounds_at {nxt n j} (h : j < n) (t : Nat) (ht : t ≤ n + 1) : (rounds nxt n t).getD j (0, 0) = if ((fin nxt n).getD j (0, 0)).1 ≠ 0 ∧ ((fin nxt n).getD j (0, 0)).2 < t then (fin nxt n).getD j (0, 0) else (0, 0) := by
  obtain ⟨m, hm⟩ := Nat.exists_eq_add_of_le ht
  split
  · rename_i c
    rw [fin, hm] at c ⊢
    exact rounds_back h m c.1 c.2
  · rename_i c
    rcases wf_rounds nxt n t j with hw | hw
    · exact hw
    · exfalso
      have hk := rounds_keep (nxt := nxt) h (t := t) (by omega) m
      rw [fin, hm, hk] at c
      exact c ⟨by omega, hw.2.2⟩
theorem fin_open {nxt n j} (h : j < n) {t : Nat} (ht : t ≤ n) (h1 : ((fin nxt n).getD j (0, 0)).1 = 0 ∨ (t : Int) < ((fin nxt n).getD j (0, 0)).2) : pick1 nxt (rounds nxt n t) t j = none := by
  have e := rounds_succ_at (nxt := nxt) (t := t) h
  rw [rounds_at h (t + 1) (by omega), rounds_at h t (by omega)] at e
  have e1 : ¬ (((fin nxt n).getD j (0, 0)).1 ≠ 0 ∧ ((fin nxt n).getD j (0, 0)).2 < t) := by omega
  have e2 : ¬ (((fin nxt n).getD j (0, 0)).1 ≠ 0 ∧ ((fin nxt n).getD j (0, 0)).2 < (t + 1 : Nat)) := by omega
  rw [if_neg e1, if_neg e2] at e
  have h12 := mv12 j
  cases hp : pick1 nxt (rounds nxt n t) t j with
  | none => rfl
  | some p =>
    rw [hp] at e
    simp only [Option.map_some, Option.getD_some] at e
    rw [pick1_eq nxt j (wf_rounds nxt n t)] at hp
    grind
theorem fin_pick {nxt n j} (h : j < n) (h1 : ((fin nxt n).getD j (0, 0)).1 ≠ 0) : ∃ t : Nat, t ≤ n ∧ ((fin nxt n).getD j (0, 0)).2 = t ∧ pick1 nxt (rounds nxt n t) t j = some (j, (fin nxt n).getD j (0, 0)) := by
  have hw := fin_wf nxt n j
  rcases hw with hw | hw
  · rw [hw] at h1; exact absurd rfl h1
  · obtain ⟨t, ht⟩ := Int.eq_ofNat_of_zero_le hw.2.1
    have htn : t ≤ n := by omega
    refine ⟨t, htn, ht, ?_⟩
    have e := rounds_succ_at (nxt := nxt) (t := t) h
    rw [rounds_at h (t + 1) (by omega), rounds_at h t (by omega)] at e
    rw [if_pos (by omega), if_neg (by omega)] at e
    cases hp : pick1 nxt (rounds nxt n t) t j with
    | none => rw [hp] at e; simp only [Option.map_none, Option.getD_none] at e; rw [e] at h1; exact absurd rfl h1
    | some p =>
      rw [hp] at e
      simp only [Option.map_some, Option.getD_some] at e
      have := pick1_fst hp
      rw [e, ← this]

theorem won_iff {res m ks} : won res m ks = true ↔ ∃ k ∈ ks, (res.getD k (0, 0)).1 = m := by simp [won]
theorem lost_iff {res m ks} : lostAll res m ks = true ↔ ∀ k ∈ ks, (res.getD k (0, 0)).1 = 3 - m := by simp [lostAll]

/-- A state that nobody wins. -/
theorem fin_draw {nxt n j} (h : j < n) (h1 : ((fin nxt n).getD j (0, 0)).1 = 0) : (∃ k ∈ nxt.getD j [], ((fin nxt n).getD k (0, 0)).1 = 0) ∧ ∀ k ∈ nxt.getD j [], ((fin nxt n).getD k (0, 0)).1 ≠ mv j := by
  have hn := fin_nil nxt n
  simp only [picks, List.filterMap_eq_nil_iff, List.mem_range] at hn
  have := hn j h
  rw [pick1_eq nxt j (fin_wf nxt n), if_neg (by simpa using h1)] at this
  have h2 : ¬ won (fin nxt n) (mv j) (nxt.getD j []) = true := by intro c; rw [if_pos c] at this; cases this
  rw [if_neg h2] at this
  have h3 : ¬ lostAll (fin nxt n) (mv j) (nxt.getD j []) = true := by intro c; rw [if_pos c] at this; cases this
  rw [won_iff] at h2
  rw [lost_iff] at h3
  have h4 : ∀ k ∈ nxt.getD j [], ((fin nxt n).getD k (0, 0)).1 ≠ mv j := fun k hk hc => h2 ⟨k, hk, hc⟩
  refine ⟨?_, h4⟩
  simp only [Classical.not_forall] at h3
  obtain ⟨k, hk, hk2⟩ := h3
  refine ⟨k, hk, ?_⟩
  have := h4 k hk
  have := mv12 j
  rcases fin_wf nxt n k with hw | hw
  · rw [hw]
  · omega
/-- A state that who moves wins. -/
theorem fin_win {nxt n j} (ha : Alt nxt n) (h : j < n) (h1 : ((fin nxt n).getD j (0, 0)).1 = mv j) : (∃ k ∈ nxt.getD j [], (fin nxt n).getD k (0, 0) = (mv j, ((fin nxt n).getD j (0, 0)).2 - 1)) ∧
    ∀ k ∈ nxt.getD j [], ((fin nxt n).getD k (0, 0)).1 = mv j → ((fin nxt n).getD j (0, 0)).2 - 1 ≤ ((fin nxt n).getD k (0, 0)).2 := by
  have h12 := mv12 j
  obtain ⟨t, htn, ht, hp⟩ := fin_pick (nxt := nxt) h (by omega)
  have hlow : ∀ k ∈ nxt.getD j [], ((fin nxt n).getD k (0, 0)).1 = mv j → ((fin nxt n).getD j (0, 0)).2 - 1 ≤ ((fin nxt n).getD k (0, 0)).2 := by
    intro k hk hkm
    have hkn := (ha j k hk).1
    rcases Int.lt_or_le ((fin nxt n).getD k (0, 0)).2 (((fin nxt n).getD j (0, 0)).2 - 1) with hlt | hge
    · exfalso
      have hk0 : 0 ≤ ((fin nxt n).getD k (0, 0)).2 := by
        rcases fin_wf nxt n k with hw | hw
        · rw [hw]; decide
        · exact hw.2.1
      obtain ⟨s, rfl⟩ : ∃ s, t = s + 1 := ⟨t - 1, by omega⟩
      have ho := fin_open (nxt := nxt) h (t := s) (by omega) (by right; rw [ht]; omega)
      rw [pick1_eq nxt j (wf_rounds nxt n s), show (rounds nxt n s).getD j (0, 0) = (0, 0) by rw [rounds_at h s (by omega), if_neg (by omega)]] at ho
      simp only [ne_eq, not_true_eq_false, if_false] at ho
      have hw : won (rounds nxt n s) (mv j) (nxt.getD j []) = true := by
        rw [won_iff]
        refine ⟨k, hk, ?_⟩
        rw [rounds_at hkn s (by omega), if_pos (by omega)]; exact hkm
      rw [if_pos hw] at ho; cases ho
    · exact hge
  refine ⟨?_, hlow⟩
  rw [pick1_eq nxt j (wf_rounds nxt n t), show (rounds nxt n t).getD j (0, 0) = (0, 0) by rw [rounds_at h t (by omega), if_neg (by omega)]] at hp
  simp only [ne_eq, not_true_eq_false, if_false] at hp
  by_cases hw : won (rounds nxt n t) (mv j) (nxt.getD j []) = true
  · rw [won_iff] at hw
    obtain ⟨k, hk, hk2⟩ := hw
    have hkn := (ha j k hk).1
    rw [rounds_at hkn t (by omega)] at hk2
    split at hk2
    · rename_i c
      have := hlow k hk hk2
      refine ⟨k, hk, Prod.ext hk2 ?_⟩
      show ((fin nxt n).getD k (0, 0)).2 = ((fin nxt n).getD j (0, 0)).2 - 1
      omega
    · simp at hk2; omega
  · rw [if_neg hw] at hp
    split at hp
    · cases hp' : (fin nxt n).getD j (0, 0) with
      | mk a b => rw [hp'] at hp h1; simp at hp h1; omega
    · cases hp
/-- A state that who moves loses. -/
theorem fin_lose {nxt n j} (ha : Alt nxt n) (h : j < n) (h1 : ((fin nxt n).getD j (0, 0)).1 = 3 - mv j) : (∀ k ∈ nxt.getD j [], ((fin nxt n).getD k (0, 0)).1 = 3 - mv j ∧ ((fin nxt n).getD k (0, 0)).2 ≤ ((fin nxt n).getD j (0, 0)).2 - 1) ∧
    (nxt.getD j [] = [] ∨ ∃ k ∈ nxt.getD j [], ((fin nxt n).getD k (0, 0)).2 = ((fin nxt n).getD j (0, 0)).2 - 1) := by
  have h12 := mv12 j
  obtain ⟨t, htn, ht, hp⟩ := fin_pick (nxt := nxt) h (by omega)
  rw [pick1_eq nxt j (wf_rounds nxt n t), show (rounds nxt n t).getD j (0, 0) = (0, 0) by rw [rounds_at h t (by omega), if_neg (by omega)]] at hp
  simp only [ne_eq, not_true_eq_false, if_false] at hp
  have hnw : ¬ won (rounds nxt n t) (mv j) (nxt.getD j []) = true := by
    intro c
    rw [if_pos c] at hp
    cases hp' : (fin nxt n).getD j (0, 0) with
    | mk a b => rw [hp'] at hp h1; simp at hp h1; omega
  rw [if_neg hnw] at hp
  have hl : lostAll (rounds nxt n t) (mv j) (nxt.getD j []) = true := by
    cases hc : lostAll (rounds nxt n t) (mv j) (nxt.getD j []) with
    | true => rfl
    | false => rw [hc] at hp; simp at hp
  rw [lost_iff] at hl
  have hall : ∀ k ∈ nxt.getD j [], ((fin nxt n).getD k (0, 0)).1 = 3 - mv j ∧ ((fin nxt n).getD k (0, 0)).2 ≤ ((fin nxt n).getD j (0, 0)).2 - 1 := by
    intro k hk
    have hkn := (ha j k hk).1
    have := hl k hk
    rw [rounds_at hkn t (by omega)] at this
    split at this
    · rename_i c; exact ⟨this, by omega⟩
    · simp at this; omega
  refine ⟨hall, ?_⟩
  cases hks : nxt.getD j [] with
  | nil => left; rfl
  | cons k0 ks =>
    right
    rw [← hks]
    apply Classical.byContradiction
    intro hno
    have hk0 := hall k0 (by rw [hks]; simp)
    have h00 : 0 ≤ ((fin nxt n).getD k0 (0, 0)).2 := by
      rcases fin_wf nxt n k0 with hw | hw
      · rw [hw]; decide
      · exact hw.2.1
    obtain ⟨s, rfl⟩ : ∃ s, t = s + 1 := ⟨t - 1, by omega⟩
    have ho := fin_open (nxt := nxt) h (t := s) (by omega) (by right; rw [ht]; omega)
    rw [pick1_eq nxt j (wf_rounds nxt n s), show (rounds nxt n s).getD j (0, 0) = (0, 0) by rw [rounds_at h s (by omega), if_neg (by omega)]] at ho
    simp only [ne_eq, not_true_eq_false, if_false] at ho
    split at ho
    · cases ho
    · rw [if_pos] at ho
      · cases ho
      · rw [lost_iff]
        intro k hk
        have hkn := (ha j k hk).1
        have h1 := hall k hk
        have h2 : ((fin nxt n).getD k (0, 0)).2 ≠ ((fin nxt n).getD j (0, 0)).2 - 1 := fun e => hno ⟨k, hk, e⟩
        rw [rounds_at hkn s (by omega), if_pos (by omega)]; exact h1.1

end Go.Proofs.YtpcckakchpblcaaGreatDoor
/- Holding out: sweeping away what can't keep from losing comes to what solving by rounds leaves. For all graphs for two players, in plain lists. -/
namespace Go.Proofs.YtpcckakchpblcaaGreatDoor
set_option linter.unusedSimpArgs false

/-- Whether a state keeps from losing by what is held of the next ones: Left at even states needs one, Right at odd ones can't leave. -/
def keepsH (nxt : List (List Nat)) (H : List Bool) (i : Nat) : Bool := if i % 2 = 0 then (nxt.getD i []).any (fun k => H.getD k false) else (nxt.getD i []).all (fun k => H.getD k false)
def swp1 (nxt : List (List Nat)) (H : List Bool) (i : Nat) : List Bool := if H.getD i false = true ∧ keepsH nxt H i = false then H.set i false else H
def swpTo (nxt : List (List Nat)) (H : List Bool) : Nat → List Bool
  | 0 => H
  | i + 1 => swp1 nxt (swpTo nxt H i) i
theorem swp1_len (nxt H i) : (swp1 nxt H i).length = H.length := by unfold swp1; split <;> simp
theorem swpTo_len (nxt H) : ∀ i, (swpTo nxt H i).length = H.length
  | 0 => rfl
  | i + 1 => by rw [swpTo, swp1_len, swpTo_len nxt H i]
/-- Whether a sweep has changed anything ahead of a place. -/
def chgTo (nxt : List (List Nat)) (H : List Bool) : Nat → Bool
  | 0 => false
  | i + 1 => chgTo nxt H i || (decide ((swpTo nxt H i).getD i false = true) && !keepsH nxt (swpTo nxt H i) i)
theorem swpTo_same {nxt H} : ∀ i, chgTo nxt H i = false → swpTo nxt H i = H
  | 0, _ => rfl
  | i + 1, h => by
    rw [chgTo, Bool.or_eq_false_iff] at h
    rw [swpTo, swp1, if_neg ?_, swpTo_same i h.1]
    rintro ⟨a, b⟩
    rw [a, b] at h
    simp at h
theorem fixed_of_same {nxt H} : ∀ n, chgTo nxt H n = false → ∀ i, i < n → H.getD i false = true → keepsH nxt H i = true
  | 0, _, i, hi, _ => by omega
  | n + 1, h, i, hi, hH => by
    rw [chgTo, Bool.or_eq_false_iff] at h
    by_cases hin : i < n
    · exact fixed_of_same n h.1 i hin hH
    · obtain rfl : i = n := by omega
      rw [swpTo_same i h.1] at h
      rw [hH] at h
      simpa using h.2
/-- How many are held. -/
def held (H : List Bool) : Nat := H.countP id
theorem held_set {H : List Bool} {i : Nat} (h : H.getD i false = true) : held (H.set i false) + 1 = held H := by
  have hi : i < H.length := by
    rcases Nat.lt_or_ge i H.length with h' | h'
    · exact h'
    · rw [List.getD_eq_getElem?_getD, List.getElem?_eq_none h'] at h; cases h
  have hv : H[i] = true := by simpa [List.getD_eq_getElem?_getD, hi] using h
  have h1 := List.countP_set (p := id) (l := H) (i := i) (a := false) hi
  unfold held
  rw [h1, hv]
  have h2 : 0 < H.countP id := List.countP_pos_iff.2 ⟨H[i], List.getElem_mem _, hv⟩
  simp; omega
theorem swp1_held (nxt H i) : held (swp1 nxt H i) ≤ held H := by
  unfold swp1
  split
  · rename_i h; have := held_set h.1; omega
  · exact Nat.le_refl _
theorem swpTo_held (nxt H) : ∀ i, held (swpTo nxt H i) ≤ held H
  | 0 => Nat.le_refl _
  | i + 1 => Nat.le_trans (swp1_held _ _ _) (swpTo_held nxt H i)
theorem swpTo_less {nxt H} : ∀ i, chgTo nxt H i = true → held (swpTo nxt H i) < held H
  | 0, h => by cases h
  | i + 1, h => by
    rw [chgTo, Bool.or_eq_true] at h
    rw [swpTo]
    rcases h with h | h
    · exact Nat.lt_of_le_of_lt (swp1_held _ _ _) (swpTo_less i h)
    · simp only [Bool.and_eq_true, decide_eq_true_eq, Bool.not_eq_true'] at h
      rw [swp1, if_pos h]
      have := held_set h.1
      have := swpTo_held nxt H i
      omega
theorem gdB_ne {H : List Bool} {i j : Nat} (h : i ≠ j) : (H.set i false).getD j false = H.getD j false := by simp [List.getD_eq_getElem?_getD, List.getElem?_set, h]
/-- What is not lost for Left is held. -/
def HoldsAll (nxt : List (List Nat)) (n : Nat) (H : List Bool) : Prop := ∀ i, i < n → ((fin nxt n).getD i (0, 0)).1 ≠ 2 → H.getD i false = true
theorem holds_keeps {nxt n H i} (ha : Alt nxt n) (h : HoldsAll nxt n H) (hi : i < n) (hf : ((fin nxt n).getD i (0, 0)).1 ≠ 2) : keepsH nxt H i = true := by
  have hw := fin_wf nxt n i
  have hin : ∀ k ∈ nxt.getD i [], k < n := fun k hk => (ha i k hk).1
  unfold keepsH
  by_cases he : i % 2 = 0
  · have hm : mv i = 1 := by unfold mv; omega
    rw [if_pos he, List.any_eq_true]
    by_cases h0 : ((fin nxt n).getD i (0, 0)).1 = 0
    · obtain ⟨⟨k, hk, hk0⟩, _⟩ := fin_draw hi h0
      exact ⟨k, hk, h k (hin k hk) (by omega)⟩
    · have h1 : ((fin nxt n).getD i (0, 0)).1 = mv i := by
        rcases hw with hw | hw
        · rw [hw] at h0; exact absurd rfl h0
        · omega
      obtain ⟨⟨k, hk, hk1⟩, _⟩ := fin_win ha hi h1
      exact ⟨k, hk, h k (hin k hk) (by rw [hk1, hm]; dsimp only; omega)⟩
  · have hm : mv i = 2 := by unfold mv; omega
    rw [if_neg he, List.all_eq_true]
    intro k hk
    by_cases h0 : ((fin nxt n).getD i (0, 0)).1 = 0
    · have := (fin_draw hi h0).2 k hk
      exact h k (hin k hk) (by rw [hm] at this; exact this)
    · have h1 : ((fin nxt n).getD i (0, 0)).1 = 3 - mv i := by
        rcases hw with hw | hw
        · rw [hw] at h0; exact absurd rfl h0
        · omega
      have := ((fin_lose ha hi h1).1 k hk).1
      exact h k (hin k hk) (by omega)
theorem holds_swp1 {nxt n H i} (ha : Alt nxt n) (h : HoldsAll nxt n H) (hi : i < n) : HoldsAll nxt n (swp1 nxt H i) := by
  unfold swp1
  split
  · rename_i hc
    intro j hj hf
    by_cases hij : i = j
    · subst hij
      have := holds_keeps ha h hi hf
      rw [this] at hc; cases hc.2
    · rw [gdB_ne hij]; exact h j hj hf
  · exact h
theorem holds_swpTo {nxt n H} (ha : Alt nxt n) (h : HoldsAll nxt n H) : ∀ i, i ≤ n → HoldsAll nxt n (swpTo nxt H i)
  | 0, _ => h
  | i + 1, hi => holds_swp1 ha (holds_swpTo ha h i (by omega)) (by omega)
/-- What is kept is just what is not lost for Left. -/
theorem hold_is {nxt n H} (ha : Alt nxt n) (h : HoldsAll nxt n H) (hx : ∀ i, i < n → H.getD i false = true → keepsH nxt H i = true) : ∀ (t : Nat) (i : Nat), i < n → ((fin nxt n).getD i (0, 0)).1 = 2 → ((fin nxt n).getD i (0, 0)).2 ≤ t → H.getD i false = false := by
  intro t
  induction t with
  | zero =>
    intro i hi h2 ht
    cases hH : H.getD i false with
    | false => rfl
    | true =>
      have hk := hx i hi hH
      have hw := fin_wf nxt n i
      unfold keepsH at hk
      by_cases he : i % 2 = 0
      · rw [if_pos he, List.any_eq_true] at hk
        obtain ⟨k, hk, _⟩ := hk
        have h1 : ((fin nxt n).getD i (0, 0)).1 = 3 - mv i := by unfold mv; omega
        have h3 := (fin_lose ha hi h1).1 k hk
        have hw2 := fin_wf nxt n k
        rcases hw2 with hw2 | hw2
        · rw [hw2] at h3; have := h3.1; unfold mv at this; simp at this; omega
        · omega
      · have h1 : ((fin nxt n).getD i (0, 0)).1 = mv i := by unfold mv; omega
        obtain ⟨⟨k, hk, hk1⟩, _⟩ := fin_win ha hi h1
        have hw2 := fin_wf nxt n k
        rw [hk1] at hw2
        rcases hw2 with hw2 | hw2
        · have := congrArg Prod.fst hw2; unfold mv at this; simp at this; omega
        · omega
  | succ t ih =>
    intro i hi h2 ht
    cases hH : H.getD i false with
    | false => rfl
    | true =>
      have hk := hx i hi hH
      unfold keepsH at hk
      by_cases he : i % 2 = 0
      · rw [if_pos he, List.any_eq_true] at hk
        obtain ⟨k, hk, hk2⟩ := hk
        have h1 : ((fin nxt n).getD i (0, 0)).1 = 3 - mv i := by unfold mv; omega
        have h3 := (fin_lose ha hi h1).1 k hk
        have := ih k (ha i k hk).1 (by unfold mv at h3; omega) (by omega)
        rw [this] at hk2; cases hk2
      · rw [if_neg he, List.all_eq_true] at hk
        have h1 : ((fin nxt n).getD i (0, 0)).1 = mv i := by unfold mv; omega
        obtain ⟨⟨k, hkm, hk1⟩, _⟩ := fin_win ha hi h1
        have := ih k (ha i k hkm).1 (by rw [hk1]; unfold mv; omega) (by rw [hk1]; dsimp only; omega)
        have h4 := hk k hkm
        rw [this] at h4; cases h4
/-- The table of who holds out. -/
def hld (nxt : List (List Nat)) (n : Nat) : List Bool := (List.range n).map fun i => decide (((fin nxt n).getD i (0, 0)).1 ≠ 2)
theorem hold_eq {nxt n H} (ha : Alt nxt n) (hl : H.length = n) (h : HoldsAll nxt n H) (hx : ∀ i, i < n → H.getD i false = true → keepsH nxt H i = true) : H = hld nxt n := by
  apply List.ext_getElem
  · simp [hld, hl]
  · intro i h1 h2
    have hi : i < n := by omega
    have e : H[i] = H.getD i false := by simp [h1]
    rw [e]
    simp only [hld, List.getElem_map, List.getElem_range]
    by_cases hf : ((fin nxt n).getD i (0, 0)).1 = 2
    · have hw := fin_wf nxt n i
      have : 0 ≤ ((fin nxt n).getD i (0, 0)).2 := by
        rcases hw with hw | hw
        · rw [hw] at hf; simp at hf
        · exact hw.2.1
      rw [hold_is ha h hx ((fin nxt n).getD i (0, 0)).2.toNat i hi hf (by omega), hf]
      rfl
    · rw [h i hi hf]
      exact (decide_eq_true hf).symm
/-- What a state's next ones are matters as a set alone. -/
theorem keepsH_set {nxt nxt' H i} (h : ∀ k, k ∈ nxt.getD i [] ↔ k ∈ nxt'.getD i []) : keepsH nxt H i = keepsH nxt' H i := by
  unfold keepsH
  split
  · rw [Bool.eq_iff_iff, List.any_eq_true, List.any_eq_true]
    exact ⟨fun ⟨k, a, b⟩ => ⟨k, (h k).1 a, b⟩, fun ⟨k, a, b⟩ => ⟨k, (h k).2 a, b⟩⟩
  · rw [Bool.eq_iff_iff, List.all_eq_true, List.all_eq_true]
    exact ⟨fun a k hk => a k ((h k).2 hk), fun a k hk => a k ((h k).1 hk)⟩
end Go.Proofs.YtpcckakchpblcaaGreatDoor
