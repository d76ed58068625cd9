/- What a solved graph tells of the next states: winners, numbers of turns, the move that is chosen. For all graphs whose successors are states of the other player. -/
import Derived.Test.YtpcckakchpblcaaGreatDoorSolve
namespace Go.Proofs.YtpcckakchpblcaaGreatDoor
set_option linter.unusedSimpArgs false

theorem rounds_succ_at {nxt n t j} (h : j < n) : (rounds nxt n (t + 1)).getD j (0, 0) = ((pick1 nxt (rounds nxt n t) t j).map (·.2)).getD ((rounds nxt n t).getD j (0, 0)) := by
  rw [rounds, rnd_at (by rw [rounds_len]; exact h)]
theorem rounds_keep {nxt n t j} (h : j < n) (h1 : ((rounds nxt n t).getD j (0, 0)).1 ≠ 0) : ∀ m, (rounds nxt n (t + m)).getD j (0, 0) = (rounds nxt n t).getD j (0, 0) := by
  intro m
  induction m with
  | zero => rfl
  | succ m ih =>
    rw [← Nat.add_assoc, rounds_succ_at h, pick1_eq nxt j (wf_rounds nxt n (t + m)), ih, if_pos h1]; rfl
theorem rounds_back {nxt n t j} (h : j < n) : ∀ m, ((rounds nxt n (t + m)).getD j (0, 0)).1 ≠ 0 → ((rounds nxt n (t + m)).getD j (0, 0)).2 < t → (rounds nxt n t).getD j (0, 0) = (rounds nxt n (t + m)).getD j (0, 0) := by
  intro m
  induction m with
  | zero => intro _ _; rfl
  | succ m ih =>
    intro h1 h2
    rw [← Nat.add_assoc, rounds_succ_at h, pick1_eq nxt j (wf_rounds nxt n (t + m))] at h1 h2 ⊢
    split at h1
    · rename_i c
      rw [if_pos c] at h2 ⊢
      exact ih h1 h2
    · rename_i c
      rw [if_neg c] at h2 ⊢
      split at h1
      · rename_i c2; rw [if_pos c2] at h2; simp only [Option.map_some, Option.getD_some] at h2; omega
      · rename_i c2
        rw [if_neg c2] at h2 ⊢
        split at h1
        · rename_i c3; rw [if_pos c3] at h2; simp only [Option.map_some, Option.getD_some] at h2; omega
        · exact absurd h1 c
/-- Where the rounds stand, by what they come to. -/
theorem rounds_at {nxt n j} (h : j < n) (t : Nat) (ht : t ≤ n + 1) : (rounds nxt n t).getD j (0, 0) = if ((fin nxt n).getD j (0, 0)).1 ≠ 0 ∧ ((fin nxt n).getD j (0, 0)).2 < t then (fin nxt n).getD j (0, 0) else (0, 0) := by
  obtain ⟨m, hm⟩ := Nat.exists_eq_add_of_le ht
  split
  · rename_i c
    rw [fin, hm] at c ⊢
    exact rounds_back h m c.1 c.2
  · rename_i c
    rcases wf_rounds nxt n t j with hw | hw
    · exact hw
    · exfalso
      have hk := rounds_keep (nxt := nxt) h (t := t) (by omega) m
      rw [fin, hm, hk] at c
      exact c ⟨by omega, hw.2.2⟩
theorem fin_open {nxt n j} (h : j < n) {t : Nat} (ht : t ≤ n) (h1 : ((fin nxt n).getD j (0, 0)).1 = 0 ∨ (t : Int) < ((fin nxt n).getD j (0, 0)).2) : pick1 nxt (rounds nxt n t) t j = none := by
  have e := rounds_succ_at (nxt := nxt) (t := t) h
  rw [rounds_at h (t + 1) (by omega), rounds_at h t (by omega)] at e
  have e1 : ¬ (((fin nxt n).getD j (0, 0)).1 ≠ 0 ∧ ((fin nxt n).getD j (0, 0)).2 < t) := by omega
  have e2 : ¬ (((fin nxt n).getD j (0, 0)).1 ≠ 0 ∧ ((fin nxt n).getD j (0, 0)).2 < (t + 1 : Nat)) := by omega
  rw [if_neg e1, if_neg e2] at e
  have h12 := mv12 j
  cases hp : pick1 nxt (rounds nxt n t) t j with
  | none => rfl
  | some p =>
    rw [hp] at e
    simp only [Option.map_some, Option.getD_some] at e
    rw [pick1_eq nxt j (wf_rounds nxt n t)] at hp
    grind
theorem fin_pick {nxt n j} (h : j < n) (h1 : ((fin nxt n).getD j (0, 0)).1 ≠ 0) : ∃ t : Nat, t ≤ n ∧ ((fin nxt n).getD j (0, 0)).2 = t ∧ pick1 nxt (rounds nxt n t) t j = some (j, (fin nxt n).getD j (0, 0)) := by
  have hw := fin_wf nxt n j
  rcases hw with hw | hw
  · rw [hw] at h1; exact absurd rfl h1
  · obtain ⟨t, ht⟩ := Int.eq_ofNat_of_zero_le hw.2.1
    have htn : t ≤ n := by omega
    refine ⟨t, htn, ht, ?_⟩
    have e := rounds_succ_at (nxt := nxt) (t := t) h
    rw [rounds_at h (t + 1) (by omega), rounds_at h t (by omega)] at e
    rw [if_pos (by omega), if_neg (by omega)] at e
    cases hp : pick1 nxt (rounds nxt n t) t j with
    | none => rw [hp] at e; simp only [Option.map_none, Option.getD_none] at e; rw [e] at h1; exact absurd rfl h1
    | some p =>
      rw [hp] at e
      simp only [Option.map_some, Option.getD_some] at e
      have := pick1_fst hp
      rw [e, ← this]

theorem won_iff {res m ks} : won res m ks = true ↔ ∃ k ∈ ks, (res.getD k (0, 0)).1 = m := by simp [won]
theorem lost_iff {res m ks} : lostAll res m ks = true ↔ ∀ k ∈ ks, (res.getD k (0, 0)).1 = 3 - m := by simp [lostAll]

/-- A state that nobody wins. -/
theorem fin_draw {nxt n j} (h : j < n) (h1 : ((fin nxt n).getD j (0, 0)).1 = 0) : (∃ k ∈ nxt.getD j [], ((fin nxt n).getD k (0, 0)).1 = 0) ∧ ∀ k ∈ nxt.getD j [], ((fin nxt n).getD k (0, 0)).1 ≠ mv j := by
  have hn := fin_nil nxt n
  simp only [picks, List.filterMap_eq_nil_iff, List.mem_range] at hn
  have := hn j h
  rw [pick1_eq nxt j (fin_wf nxt n), if_neg (by simpa using h1)] at this
  have h2 : ¬ won (fin nxt n) (mv j) (nxt.getD j []) = true := by intro c; rw [if_pos c] at this; cases this
  rw [if_neg h2] at this
  have h3 : ¬ lostAll (fin nxt n) (mv j) (nxt.getD j []) = true := by intro c; rw [if_pos c] at this; cases this
  rw [won_iff] at h2
  rw [lost_iff] at h3
  have h4 : ∀ k ∈ nxt.getD j [], ((fin nxt n).getD k (0, 0)).1 ≠ mv j := fun k hk hc => h2 ⟨k, hk, hc⟩
  refine ⟨?_, h4⟩
  simp only [Classical.not_forall] at h3
  obtain ⟨k, hk, hk2⟩ := h3
  refine ⟨k, hk, ?_⟩
  have := h4 k hk
  have := mv12 j
  rcases fin_wf nxt n k with hw | hw
  · rw [hw]
  · omega
/-- A state that who moves wins. -/
theorem fin_win {nxt n j} (ha : Alt nxt n) (h : j < n) (h1 : ((fin nxt n).getD j (0, 0)).1 = mv j) : (∃ k ∈ nxt.getD j [], (fin nxt n).getD k (0, 0) = (mv j, ((fin nxt n).getD j (0, 0)).2 - 1)) ∧
    ∀ k ∈ nxt.getD j [], ((fin nxt n).getD k (0, 0)).1 = mv j → ((fin nxt n).getD j (0, 0)).2 - 1 ≤ ((fin nxt n).getD k (0, 0)).2 := by
  have h12 := mv12 j
  obtain ⟨t, htn, ht, hp⟩ := fin_pick (nxt := nxt) h (by omega)
  have hlow : ∀ k ∈ nxt.getD j [], ((fin nxt n).getD k (0, 0)).1 = mv j → ((fin nxt n).getD j (0, 0)).2 - 1 ≤ ((fin nxt n).getD k (0, 0)).2 := by
    intro k hk hkm
    have hkn := (ha j k hk).1
    rcases Int.lt_or_le ((fin nxt n).getD k (0, 0)).2 (((fin nxt n).getD j (0, 0)).2 - 1) with hlt | hge
    · exfalso
      have hk0 : 0 ≤ ((fin nxt n).getD k (0, 0)).2 := by
        rcases fin_wf nxt n k with hw | hw
        · rw [hw]; decide
        · exact hw.2.1
      obtain ⟨s, rfl⟩ : ∃ s, t = s + 1 := ⟨t - 1, by omega⟩
      have ho := fin_open (nxt := nxt) h (t := s) (by omega) (by right; rw [ht]; omega)
      rw [pick1_eq nxt j (wf_rounds nxt n s), show (rounds nxt n s).getD j (0, 0) = (0, 0) by rw [rounds_at h s (by omega), if_neg (by omega)]] at ho
      simp only [ne_eq, not_true_eq_false, if_false] at ho
      have hw : won (rounds nxt n s) (mv j) (nxt.getD j []) = true := by
        rw [won_iff]
        refine ⟨k, hk, ?_⟩
        rw [rounds_at hkn s (by omega), if_pos (by omega)]; exact hkm
      rw [if_pos hw] at ho; cases ho
    · exact hge
  refine ⟨?_, hlow⟩
  rw [pick1_eq nxt j (wf_rounds nxt n t), show (rounds nxt n t).getD j (0, 0) = (0, 0) by rw [rounds_at h t (by omega), if_neg (by omega)]] at hp
  simp only [ne_eq, not_true_eq_false, if_false] at hp
  by_cases hw : won (rounds nxt n t) (mv j) (nxt.getD j []) = true
  · rw [won_iff] at hw
    obtain ⟨k, hk, hk2⟩ := hw
    have hkn := (ha j k hk).1
    rw [rounds_at hkn t (by omega)] at hk2
    split at hk2
    · rename_i c
      have := hlow k hk hk2
      refine ⟨k, hk, Prod.ext hk2 ?_⟩
      show ((fin nxt n).getD k (0, 0)).2 = ((fin nxt n).getD j (0, 0)).2 - 1
      omega
    · simp at hk2; omega
  · rw [if_neg hw] at hp
    split at hp
    · cases hp' : (fin nxt n).getD j (0, 0) with
      | mk a b => rw [hp'] at hp h1; simp at hp h1; omega
    · cases hp
/-- A state that who moves loses. -/
theorem fin_lose {nxt n j} (ha : Alt nxt n) (h : j < n) (h1 : ((fin nxt n).getD j (0, 0)).1 = 3 - mv j) : (∀ k ∈ nxt.getD j [], ((fin nxt n).getD k (0, 0)).1 = 3 - mv j ∧ ((fin nxt n).getD k (0, 0)).2 ≤ ((fin nxt n).getD j (0, 0)).2 - 1) ∧
    (nxt.getD j [] = [] ∨ ∃ k ∈ nxt.getD j [], ((fin nxt n).getD k (0, 0)).2 = ((fin nxt n).getD j (0, 0)).2 - 1) := by
  have h12 := mv12 j
  obtain ⟨t, htn, ht, hp⟩ := fin_pick (nxt := nxt) h (by omega)
  rw [pick1_eq nxt j (wf_rounds nxt n t), show (rounds nxt n t).getD j (0, 0) = (0, 0) by rw [rounds_at h t (by omega), if_neg (by omega)]] at hp
  simp only [ne_eq, not_true_eq_false, if_false] at hp
  have hnw : ¬ won (rounds nxt n t) (mv j) (nxt.getD j []) = true := by
    intro c
    rw [if_pos c] at hp
    cases hp' : (fin nxt n).getD j (0, 0) with
    | mk a b => rw [hp'] at hp h1; simp at hp h1; omega
  rw [if_neg hnw] at hp
  have hl : lostAll (rounds nxt n t) (mv j) (nxt.getD j []) = true := by
    cases hc : lostAll (rounds nxt n t) (mv j) (nxt.getD j []) with
    | true => rfl
    | false => rw [hc] at hp; simp at hp
  rw [lost_iff] at hl
  have hall : ∀ k ∈ nxt.getD j [], ((fin nxt n).getD k (0, 0)).1 = 3 - mv j ∧ ((fin nxt n).getD k (0, 0)).2 ≤ ((fin nxt n).getD j (0, 0)).2 - 1 := by
    intro k hk
    have hkn := (ha j k hk).1
    have := hl k hk
    rw [rounds_at hkn t (by omega)] at this
    split at this
    · rename_i c; exact ⟨this, by omega⟩
    · simp at this; omega
  refine ⟨hall, ?_⟩
  cases hks : nxt.getD j [] with
  | nil => left; rfl
  | cons k0 ks =>
    right
    rw [← hks]
    apply Classical.byContradiction
    intro hno
    have hk0 := hall k0 (by rw [hks]; simp)
    have h00 : 0 ≤ ((fin nxt n).getD k0 (0, 0)).2 := by
      rcases fin_wf nxt n k0 with hw | hw
      · rw [hw]; decide
      · exact hw.2.1
    obtain ⟨s, rfl⟩ : ∃ s, t = s + 1 := ⟨t - 1, by omega⟩
    have ho := fin_open (nxt := nxt) h (t := s) (by omega) (by right; rw [ht]; omega)
    rw [pick1_eq nxt j (wf_rounds nxt n s), show (rounds nxt n s).getD j (0, 0) = (0, 0) by rw [rounds_at h s (by omega), if_neg (by omega)]] at ho
    simp only [ne_eq, not_true_eq_false, if_false] at ho
    split at ho
    · cases ho
    · rw [if_pos] at ho
      · cases ho
      · rw [lost_iff]
        intro k hk
        have hkn := (ha j k hk).1
        have h1 := hall k hk
        have h2 : ((fin nxt n).getD k (0, 0)).2 ≠ ((fin nxt n).getD j (0, 0)).2 - 1 := fun e => hno ⟨k, hk, e⟩
        rw [rounds_at hkn s (by omega), if_pos (by omega)]; exact h1.1

/-- The move that is chosen: of those that keep the winner, the first one with fewest turns for who wins, most for who loses. -/
def bst (res : List (Int × Int)) (w m : Int) : List Nat → Option Nat → Option Nat
  | [], b => b
  | k :: ks, b => if (res.getD k (0, 0)).1 ≠ w then bst res w m ks b else match b with
    | none => bst res w m ks (some k)
    | some c => if (w = m ∧ (res.getD k (0, 0)).2 < (res.getD c (0, 0)).2) ∨ (w = 3 - m ∧ (res.getD k (0, 0)).2 > (res.getD c (0, 0)).2) then bst res w m ks (some k) else bst res w m ks (some c)
theorem bst_cons (res : List (Int × Int)) (w m : Int) (k : Nat) (ks : List Nat) (b : Option Nat) : bst res w m (k :: ks) b = if (res.getD k (0, 0)).1 ≠ w then bst res w m ks b else match b with
    | none => bst res w m ks (some k)
    | some c => if (w = m ∧ (res.getD k (0, 0)).2 < (res.getD c (0, 0)).2) ∨ (w = 3 - m ∧ (res.getD k (0, 0)).2 > (res.getD c (0, 0)).2) then bst res w m ks (some k) else bst res w m ks (some c) := by cases b <;> rfl
/-- What the chosen move is. -/
theorem bst_spec {res w m} (_ : m = 1 ∨ m = 2) : ∀ ks b, (∀ c, b = some c → (res.getD c (0, 0)).1 = w) → match bst res w m ks b with
    | none => b = none ∧ ∀ k ∈ ks, (res.getD k (0, 0)).1 ≠ w
    | some c => (c ∈ ks ∨ b = some c) ∧ (res.getD c (0, 0)).1 = w ∧ (∀ k, (k ∈ ks ∨ b = some k) → (res.getD k (0, 0)).1 = w → (w = m → (res.getD c (0, 0)).2 ≤ (res.getD k (0, 0)).2) ∧ (w = 3 - m → (res.getD k (0, 0)).2 ≤ (res.getD c (0, 0)).2)) := by
  intro ks
  induction ks with
  | nil =>
    intro b hb
    cases b with
    | none => simp [bst]
    | some c => exact ⟨.inr rfl, hb c rfl, fun k hk _ => by
        rcases hk with hk | hk
        · cases hk
        · cases hk
          exact ⟨fun _ => Int.le_refl _, fun _ => Int.le_refl _⟩⟩
  | cons k ks ih =>
    intro b hb
    rw [bst_cons]
    by_cases c1 : (res.getD k (0, 0)).1 ≠ w
    · rw [if_pos c1]
      have := ih b hb
      revert this
      cases bst res w m ks b with
      | none => exact fun ⟨h1, h2⟩ => ⟨h1, fun x hx => (List.mem_cons.1 hx).elim (fun e => e ▸ c1) (h2 x)⟩
      | some c =>
        refine fun ⟨h1, h2, h3⟩ => ⟨h1.imp (fun h => List.mem_cons_of_mem _ h) id, h2, fun x hx hxw => ?_⟩
        rcases hx with hx | hx
        · rcases List.mem_cons.1 hx with rfl | hx
          · exact absurd hxw c1
          · exact h3 x (.inl hx) hxw
        · exact h3 x (.inr hx) hxw
    · rw [if_neg c1]
      have c1 : (res.getD k (0, 0)).1 = w := by simpa using c1
      cases b with
      | none =>
        have := ih (some k) (fun c hc => by cases hc; exact c1)
        dsimp only
        revert this
        cases bst res w m ks (some k) with
        | none => rintro ⟨h1, _⟩; cases h1
        | some c =>
          refine fun ⟨h1, h2, h3⟩ => ⟨.inl ?_, h2, fun x hx hxw => ?_⟩
          · rcases h1 with h1 | h1
            · simp [h1]
            · cases h1; simp
          · rcases hx with hx | hx
            · rcases List.mem_cons.1 hx with rfl | hx
              · exact h3 x (.inr rfl) hxw
              · exact h3 x (.inl hx) hxw
            · cases hx
      | some d =>
        have hd := hb d rfl
        dsimp only
        by_cases c2 : (w = m ∧ (res.getD k (0, 0)).2 < (res.getD d (0, 0)).2) ∨ (w = 3 - m ∧ (res.getD k (0, 0)).2 > (res.getD d (0, 0)).2)
        · rw [if_pos c2]
          have := ih (some k) (fun c hc => by cases hc; exact c1)
          revert this
          cases bst res w m ks (some k) with
          | none => rintro ⟨h1, _⟩; cases h1
          | some c =>
            refine fun ⟨h1, h2, h3⟩ => ⟨.inl ?_, h2, fun x hx hxw => ?_⟩
            · rcases h1 with h1 | h1
              · simp [h1]
              · cases h1; simp
            · have h3k := h3 k (.inr rfl) c1
              rcases hx with hx | hx
              · rcases List.mem_cons.1 hx with rfl | hx
                · exact h3 x (.inr rfl) hxw
                · exact h3 x (.inl hx) hxw
              · cases hx
                refine ⟨fun e => ?_, fun e => ?_⟩
                · have := h3k.1 e; omega
                · have := h3k.2 e; omega
        · rw [if_neg c2]
          have := ih (some d) (fun c hc => by cases hc; exact hd)
          revert this
          cases bst res w m ks (some d) with
          | none => rintro ⟨h1, _⟩; cases h1
          | some c =>
            refine fun ⟨h1, h2, h3⟩ => ⟨?_, h2, fun x hx hxw => ?_⟩
            · rcases h1 with h1 | h1
              · exact .inl (by simp [h1])
              · exact .inr h1
            · have h3d := h3 d (.inr rfl) hd
              rcases hx with hx | hx
              · rcases List.mem_cons.1 hx with rfl | hx
                · refine ⟨fun e => ?_, fun e => ?_⟩
                  · have := h3d.1 e; omega
                  · have := h3d.2 e; omega
                · exact h3 x (.inl hx) hxw
              · exact h3 x (.inr hx) hxw
/-- The chosen move of a state that has moves: it keeps the winner; the number of turns is one less for who wins, no more than that for who loses. -/
theorem fin_move {nxt n j} (ha : Alt nxt n) (h : j < n) (hne : nxt.getD j [] ≠ []) : ∃ c, bst (fin nxt n) ((fin nxt n).getD j (0, 0)).1 (mv j) (nxt.getD j []) none = some c ∧ c ∈ nxt.getD j [] ∧
    ((fin nxt n).getD c (0, 0)).1 = ((fin nxt n).getD j (0, 0)).1 ∧ (((fin nxt n).getD j (0, 0)).1 ≠ 0 → ((fin nxt n).getD c (0, 0)).2 = ((fin nxt n).getD j (0, 0)).2 - 1) := by
  have h12 := mv12 j
  have hb := bst_spec (res := fin nxt n) (w := ((fin nxt n).getD j (0, 0)).1) h12 (nxt.getD j []) none (fun c hc => by cases hc)
  have hw := fin_wf nxt n j
  have h3 : ((fin nxt n).getD j (0, 0)).1 = 0 ∨ ((fin nxt n).getD j (0, 0)).1 = mv j ∨ ((fin nxt n).getD j (0, 0)).1 = 3 - mv j := by
    rcases hw with hw | hw
    · left; rw [hw]
    · omega
  have hex : ∃ k ∈ nxt.getD j [], ((fin nxt n).getD k (0, 0)).1 = ((fin nxt n).getD j (0, 0)).1 := by
    rcases h3 with h3 | h3 | h3
    · obtain ⟨⟨k, hk, hk2⟩, _⟩ := fin_draw h h3; exact ⟨k, hk, by omega⟩
    · obtain ⟨⟨k, hk, hk2⟩, _⟩ := fin_win ha h h3; exact ⟨k, hk, by rw [hk2, h3]⟩
    · obtain ⟨h1, _⟩ := fin_lose ha h h3
      obtain ⟨k, ks, e⟩ := List.exists_cons_of_ne_nil hne
      exact ⟨k, by rw [e]; simp, by rw [h3]; exact (h1 k (by rw [e]; simp)).1⟩
  cases hq : bst (fin nxt n) ((fin nxt n).getD j (0, 0)).1 (mv j) (nxt.getD j []) none with
  | none =>
    rw [hq] at hb
    obtain ⟨k, hk, hk2⟩ := hex
    exact absurd hk2 (hb.2 k hk)
  | some c =>
    rw [hq] at hb
    obtain ⟨h1, h2, h4⟩ := hb
    have h1 : c ∈ nxt.getD j [] := h1.elim id (fun h => nomatch h)
    refine ⟨c, rfl, h1, h2, fun hnz => ?_⟩
    rcases h3 with h3 | h3 | h3
    · exact absurd h3 hnz
    · obtain ⟨⟨k, hk, hk2⟩, h5⟩ := fin_win ha h h3
      have := (h4 k (.inl hk) (by rw [hk2, h3])).1 h3
      rw [hk2] at this
      have := h5 c h1 (by omega)
      simp only at *
      omega
    · obtain ⟨h5, h6⟩ := fin_lose ha h h3
      rcases h6 with h6 | ⟨k, hk, hk2⟩
      · exact absurd h6 hne
      · have := (h4 k (.inl hk) (by rw [h3]; exact (h5 k hk).1)).2 h3
        have := (h5 c h1).2
        omega
end Go.Proofs.YtpcckakchpblcaaGreatDoor
