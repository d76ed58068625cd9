/- Solving a graph for two players by rounds, in plain lists: the program's rounds, the reference's rounds, and that both come to the same. For all graphs. -/
namespace Go.Proofs.YtpcckakchpblcaaGreatDoor
set_option linter.unusedSimpArgs false

theorem gd {α : Type} {l : List α} {k : Nat} {d : α} (h : k < l.length) : l.getD k d = l[k] := by simp [h]
theorem gd_out {α : Type} {l : List α} {k : Nat} {d : α} (h : ¬ k < l.length) : l.getD k d = d := by simp [h]
theorem gd_set {α : Type} (l : List α) (i j : Nat) (a d : α) : (l.set i a).getD j d = if i = j ∧ j < l.length then a else l.getD j d := by
  simp only [List.getD_eq_getElem?_getD, List.getElem?_set]
  by_cases h : i = j
  · subst h
    by_cases h2 : i < l.length
    · simp [h2]
    · simp [h2]
  · simp [h]

/-- A state's decision by those of its successors. -/
def dec (res : List (Int × Int)) (m t : Int) : List Nat → Bool → (Int × Int) × Bool
  | [], lost => ((3 - m, t), lost)
  | k :: ks, lost => if (res.getD k (0, 0)).1 = m ∧ (res.getD k (0, 0)).2 < t then ((m, t), true) else dec res m t ks (lost && decide ((res.getD k (0, 0)).1 = 3 - m) && decide ((res.getD k (0, 0)).2 < t))
/-- What a round finds in a state; in all states ahead of one. -/
def pick1 (nxt : List (List Nat)) (res : List (Int × Int)) (t : Int) (i : Nat) : Option (Nat × (Int × Int)) :=
  if (res.getD i (0, 0)).1 ≠ 0 then none else if (dec res ((1 + i % 2 : Nat) : Int) t (nxt.getD i []) true).2 then some (i, (dec res ((1 + i % 2 : Nat) : Int) t (nxt.getD i []) true).1) else none
def picks (nxt : List (List Nat)) (res : List (Int × Int)) (t : Int) (n : Nat) : List (Nat × (Int × Int)) := (List.range n).filterMap (pick1 nxt res t)
theorem picks_succ (nxt res t n) : picks nxt res t (n + 1) = picks nxt res t n ++ (pick1 nxt res t n).toList := by
  simp only [picks, List.range_succ, List.filterMap_append, List.filterMap_cons, List.filterMap_nil]; cases pick1 nxt res t n <;> rfl
theorem picks_len (nxt res t n) : (picks nxt res t n).length ≤ n := by have := List.length_filterMap_le (pick1 nxt res t) (List.range n); simpa [picks] using this
theorem pick1_fst {nxt res t i p} (h : pick1 nxt res t i = some p) : p.1 = i := by
  unfold pick1 at h
  split at h
  · cases h
  · split at h
    · cases h; rfl
    · cases h
theorem picks_lt {nxt res t n p} (h : p ∈ picks nxt res t n) : p.1 < n := by
  simp only [picks, List.mem_filterMap, List.mem_range] at h
  obtain ⟨a, h1, h2⟩ := h
  have := pick1_fst h2
  omega
def upd (res : List (Int × Int)) (ps : List (Nat × (Int × Int))) : List (Int × Int) := ps.foldl (fun r p => r.set p.1 p.2) res
theorem upd_len (ps : List (Nat × (Int × Int))) : ∀ res, (upd res ps).length = res.length := by
  induction ps with
  | nil => intro _; rfl
  | cons p ps ih => intro res; simp only [upd, List.foldl_cons]; have := ih (res.set p.1 p.2); simp only [upd] at this; rw [this]; simp
theorem upd_snoc (res ps p) : upd res (ps ++ [p]) = (upd res ps).set p.1 p.2 := by simp [upd]

/-- All results that are decided take fewer turns. -/
def Wf (res : List (Int × Int)) (t : Int) : Prop := ∀ k, res.getD k (0, 0) = (0, 0) ∨ (((res.getD k (0, 0)).1 = 1 ∨ (res.getD k (0, 0)).1 = 2) ∧ 0 ≤ (res.getD k (0, 0)).2 ∧ (res.getD k (0, 0)).2 < t)
theorem Wf.mono {res t t'} (h : Wf res t) (ht : t ≤ t') : Wf res t' := fun k => (h k).imp id fun ⟨a, b, c⟩ => ⟨a, b, by omega⟩
def won (res : List (Int × Int)) (m : Int) (ks : List Nat) : Bool := ks.any fun k => decide ((res.getD k (0, 0)).1 = m)
def lostAll (res : List (Int × Int)) (m : Int) (ks : List Nat) : Bool := ks.all fun k => decide ((res.getD k (0, 0)).1 = 3 - m)
theorem dec_eq {res t m} (h : Wf res t) (hm : m = 1 ∨ m = 2) : ∀ ks lost, dec res m t ks lost = if won res m ks then ((m, t), true) else ((3 - m, t), lost && lostAll res m ks) := by
  intro ks
  induction ks with
  | nil => intro lost; simp [dec, won, lostAll]
  | cons k ks ih =>
    intro lost
    rw [dec]
    have hk := h k
    by_cases hw : (res.getD k (0, 0)).1 = m
    · have ht : (res.getD k (0, 0)).2 < t := by
        rcases hk with hk | hk
        · rw [hk] at hw; simp at hw; omega
        · exact hk.2.2
      rw [if_pos ⟨hw, ht⟩, won, List.any_cons, if_pos (by rw [decide_eq_true hw]; rfl)]
    · rw [if_neg (fun h => hw h.1), ih]
      have e1 : won res m (k :: ks) = won res m ks := by rw [won, List.any_cons, decide_eq_false hw]; rfl
      rw [e1]
      have e2 : (lost && decide ((res.getD k (0, 0)).1 = 3 - m) && decide ((res.getD k (0, 0)).2 < t)) = (lost && decide ((res.getD k (0, 0)).1 = 3 - m)) := by
        by_cases hl : (res.getD k (0, 0)).1 = 3 - m
        · have ht : (res.getD k (0, 0)).2 < t := by
            rcases hk with hk | hk
            · rw [hk] at hl; simp at hl; omega
            · exact hk.2.2
          rw [decide_eq_true ht, Bool.and_true]
        · rw [decide_eq_false hl, Bool.and_false]; rfl
      rw [e2]
      simp only [lostAll, List.all_cons, Bool.and_assoc]

abbrev mv (i : Nat) : Int := ((1 + i % 2 : Nat) : Int)
theorem mv12 (i : Nat) : mv i = 1 ∨ mv i = 2 := by unfold mv; omega
theorem pick1_eq {res t} (nxt) (i : Nat) (h : Wf res t) : pick1 nxt res t i = if (res.getD i (0, 0)).1 ≠ 0 then none else if won res (mv i) (nxt.getD i []) then some (i, (mv i, t)) else if lostAll res (mv i) (nxt.getD i []) then some (i, (3 - mv i, t)) else none := by
  unfold pick1
  rw [dec_eq h (mv12 i)]
  grind

theorem upd_picks (nxt res t) : ∀ n, n ≤ res.length → ∀ j, (upd res (picks nxt res t n)).getD j (0, 0) = if j < n then ((pick1 nxt res t j).map (·.2)).getD (res.getD j (0, 0)) else res.getD j (0, 0) := by
  intro n
  induction n with
  | zero => intro _ j; simp [picks, upd]
  | succ n ih =>
    intro hn j
    rw [picks_succ]
    have ih := ih (by omega) j
    cases hp : pick1 nxt res t n with
    | none =>
      rw [Option.toList_none, List.append_nil, ih]
      by_cases hj : j < n
      · rw [if_pos hj, if_pos (by omega)]
      · by_cases hj2 : j = n
        · subst hj2; rw [if_neg (by omega), if_pos (by omega), hp]; rfl
        · rw [if_neg hj, if_neg (by omega)]
    | some p =>
      have hf := pick1_fst hp
      rw [Option.toList_some, upd_snoc, gd_set, upd_len, ih, hf]
      by_cases hj2 : n = j
      · subst hj2; rw [if_pos (by omega), if_pos (by omega), hp]; rfl
      · rw [if_neg (by omega)]
        by_cases hj : j < n
        · rw [if_pos hj, if_pos (by omega)]
        · rw [if_neg hj, if_neg (by omega)]

def rnd (nxt : List (List Nat)) (res : List (Int × Int)) (t : Int) : List (Int × Int) := upd res (picks nxt res t res.length)
def rounds (nxt : List (List Nat)) (n : Nat) : Nat → List (Int × Int)
  | 0 => List.replicate n (0, 0)
  | t + 1 => rnd nxt (rounds nxt n t) t
theorem rounds_len (nxt n t) : (rounds nxt n t).length = n := by
  induction t with
  | zero => simp [rounds]
  | succ t ih => rw [rounds, rnd, upd_len, ih]
theorem rnd_at {nxt res t j} (h : j < res.length) : (rnd nxt res t).getD j (0, 0) = ((pick1 nxt res t j).map (·.2)).getD (res.getD j (0, 0)) := by
  rw [rnd, upd_picks _ _ _ _ (Nat.le_refl _), if_pos h]
theorem wf_rnd {nxt res t} (h : Wf res t) (h0 : 0 ≤ t) : Wf (rnd nxt res t) (t + 1) := by
  intro j
  by_cases hj : j < res.length
  · rw [rnd_at hj, pick1_eq nxt j h]
    have := (h.mono (show t ≤ t + 1 by omega)) j
    split
    · simpa using this
    · split
      · right; simp only [Option.map_some, Option.getD_some]; exact ⟨mv12 j, by omega, by omega⟩
      · split
        · right; simp only [Option.map_some, Option.getD_some]; have := mv12 j; omega
        · simpa using this
  · left
    rw [gd_out]
    rw [rnd, upd_len]; exact hj
theorem wf_rounds (nxt n) : ∀ t : Nat, Wf (rounds nxt n t) t := by
  intro t
  induction t with
  | zero => intro k; left; simp only [rounds]; by_cases h : k < n <;> simp [h]
  | succ t ih => rw [rounds]; have := wf_rnd (nxt := nxt) ih (by omega); exact_mod_cast this

theorem picks_nil {nxt res t t' n} (h : Wf res t) (h2 : Wf res t') (hp : picks nxt res t n = []) : picks nxt res t' n = [] := by
  simp only [picks, List.filterMap_eq_nil_iff] at hp ⊢
  intro i hi
  have := hp i hi
  rw [pick1_eq nxt i h] at this
  rw [pick1_eq nxt i h2]
  grind
theorem rounds_stop {nxt n t} (hp : picks nxt (rounds nxt n t) t n = []) : ∀ s, t ≤ s → rounds nxt n s = rounds nxt n t := by
  have : ∀ k, rounds nxt n (t + k) = rounds nxt n t := by
    intro k
    induction k with
    | zero => rfl
    | succ k ih =>
      rw [← Nat.add_assoc, rounds, ih, rnd, rounds_len]
      rw [picks_nil (wf_rounds nxt n t) ((wf_rounds nxt n t).mono (by omega)) hp]; rfl
  intro s hs
  obtain ⟨k, rfl⟩ := Nat.exists_eq_add_of_le hs
  exact this k

/-- How many states are open. -/
def zeros (res : List (Int × Int)) : Nat := res.countP fun r => decide (r.1 = 0)
theorem zeros_upd {nxt res t} (h : Wf res t) : ∀ n, n ≤ res.length → zeros (upd res (picks nxt res t n)) + (picks nxt res t n).length = zeros res := by
  intro n
  induction n with
  | zero => intro _; simp [picks, upd]
  | succ n ih =>
    intro hn
    have ih := ih (by omega)
    rw [picks_succ]
    cases hp : pick1 nxt res t n with
    | none => rw [Option.toList_none, List.append_nil]; exact ih
    | some p =>
      have hf := pick1_fst hp
      have hat := upd_picks nxt res t n (by omega) n
      rw [if_neg (by omega)] at hat
      have hlen := upd_len (picks nxt res t n) res
      rw [gd (by omega)] at hat
      have e := pick1_eq nxt n h
      have hm := mv12 n
      have hz : (res.getD n (0, 0)).1 = 0 ∧ p.2.1 ≠ 0 := by grind
      rw [Option.toList_some, upd_snoc, hf, List.length_append, List.length_singleton]
      simp only [zeros] at ih ⊢
      rw [List.countP_set (by omega), hat]
      have hpos : 0 < List.countP (fun r : Int × Int => decide (r.1 = 0)) (upd res (picks nxt res t n)) := by
        rw [List.countP_pos_iff]
        exact ⟨_, List.getElem_mem (show n < _ by omega), by rw [hat, decide_eq_true hz.1]⟩
      simp only [hz.1, hz.2, decide_true, decide_false, if_true]
      simp
      omega
theorem zeros_rounds {nxt n t} (hp : picks nxt (rounds nxt n t) t n ≠ []) : zeros (rounds nxt n (t + 1)) < zeros (rounds nxt n t) := by
  have := zeros_upd (nxt := nxt) (wf_rounds nxt n t) _ (Nat.le_refl _)
  rw [rounds_len] at this
  rw [rounds, rnd, rounds_len]
  have : 0 < (picks nxt (rounds nxt n t) t n).length := List.length_pos_iff.2 hp
  omega
theorem zeros_le (nxt n t) : zeros (rounds nxt n t) ≤ n := by have := List.countP_le_length (p := fun r : Int × Int => decide (r.1 = 0)) (l := rounds nxt n t); rw [rounds_len] at this; exact this
theorem rounds_ends (nxt n) : ∃ t, t ≤ n ∧ picks nxt (rounds nxt n t) t n = [] := by
  have : ∀ t, (∃ s, s < t ∧ picks nxt (rounds nxt n s) s n = []) ∨ t + zeros (rounds nxt n t) ≤ n := by
    intro t
    induction t with
    | zero => right; have := zeros_le nxt n 0; omega
    | succ t ih =>
      rcases ih with ⟨s, h1, h2⟩ | ih
      · exact Or.inl ⟨s, by omega, h2⟩
      · by_cases hp : picks nxt (rounds nxt n t) t n = []
        · exact Or.inl ⟨t, by omega, hp⟩
        · have := zeros_rounds hp; right; omega
  rcases this (n + 1) with ⟨s, h1, h2⟩ | h
  · exact ⟨s, by omega, h2⟩
  · omega
/-- What all rounds come to; no state is left that the next would decide. -/
def fin (nxt : List (List Nat)) (n : Nat) : List (Int × Int) := rounds nxt n (n + 1)
theorem fin_of_stop {nxt n t} (ht : t ≤ n) (hp : picks nxt (rounds nxt n t) t n = []) : rounds nxt n t = fin nxt n := (rounds_stop hp _ (by omega)).symm
theorem fin_wf (nxt n) : Wf (fin nxt n) ((n + 1 : Nat) : Int) := wf_rounds nxt n (n + 1)
theorem fin_nil (nxt n) : picks nxt (fin nxt n) ((n + 1 : Nat) : Int) n = [] := by
  obtain ⟨t, ht, hp⟩ := rounds_ends nxt n
  have := fin_of_stop ht hp
  rw [← this]
  exact picks_nil (wf_rounds nxt n t) ((wf_rounds nxt n t).mono (by omega)) hp

/-- The reference's rounds. -/
def sWon (st : List Int) (ks : List Nat) : Bool := ks.any fun k => decide (st.getD k 0 = 2)
def sAll (st : List Int) (ks : List Nat) : Bool := ks.all fun k => decide (st.getD k 0 = 1)
def stepA (nxt : List (List Nat)) (st : List Int) (r : Int) (q : List Nat × List Int) (i : Nat) : List Nat × List Int :=
  if st.getD i 0 ≠ 0 then q else if sWon st (nxt.getD i []) then (q.1 ++ [i], (q.2.set i r).set i (-r)) else if sAll st (nxt.getD i []) then (q.1 ++ [i], q.2.set i r) else q
def scanA (nxt : List (List Nat)) (st : List Int) (r : Int) (mv0 : List Int) (n : Nat) : List Nat × List Int := (List.range n).foldl (stepA nxt st r) ([], mv0)
theorem scanA_succ (nxt st r mv0 n) : scanA nxt st r mv0 (n + 1) = stepA nxt st r (scanA nxt st r mv0 n) n := by simp [scanA, List.range_succ]
def stepB (q : List Int × List Int) (i : Nat) : List Int × List Int :=
  if q.2.getD i 0 < 0 then ((q.1.set i 2).set i 1, q.2.set i (-q.2.getD i 0)) else (q.1.set i 2, q.2)
def sRound (nxt : List (List Nat)) (q : List Int × List Int) (r : Int) : List Int × List Int := (scanA nxt q.1 r q.2 q.1.length).1.foldl stepB (q.1, (scanA nxt q.1 r q.2 q.1.length).2)
def sRounds (nxt : List (List Nat)) (n : Nat) : Nat → List Int × List Int
  | 0 => (List.replicate n 0, List.replicate n 0)
  | r + 1 => sRound nxt (sRounds nxt n r) r
theorem stepB_len (q i) : (stepB q i).1.length = q.1.length ∧ (stepB q i).2.length = q.2.length := by unfold stepB; split <;> simp
theorem stepsB_len (F : List Nat) : ∀ q, (F.foldl stepB q).1.length = q.1.length ∧ (F.foldl stepB q).2.length = q.2.length := by
  induction F with
  | nil => intro q; exact ⟨rfl, rfl⟩
  | cons i F ih => intro q; rw [List.foldl_cons]; have := ih (stepB q i); have := stepB_len q i; omega
theorem scanA_len (nxt st r mv0 n) : (scanA nxt st r mv0 n).2.length = mv0.length ∧ (scanA nxt st r mv0 n).1.length ≤ n ∧ ∀ i ∈ (scanA nxt st r mv0 n).1, i < n := by
  induction n with
  | zero => simp [scanA]
  | succ n ih =>
    rw [scanA_succ]
    generalize scanA nxt st r mv0 n = q at ih
    unfold stepA
    obtain ⟨h1, h2, h3⟩ := ih
    split
    · exact ⟨h1, by omega, fun i hi => by have := h3 i hi; omega⟩
    · split
      · refine ⟨by simpa using h1, by simp; omega, fun i hi => ?_⟩
        simp only [List.mem_append, List.mem_singleton] at hi
        rcases hi with hi | hi
        · have := h3 i hi; omega
        · omega
      · split
        · refine ⟨by simpa using h1, by simp; omega, fun i hi => ?_⟩
          simp only [List.mem_append, List.mem_singleton] at hi
          rcases hi with hi | hi
          · have := h3 i hi; omega
          · omega
        · exact ⟨h1, by omega, fun i hi => by have := h3 i hi; omega⟩

/-- What the reference tells of a state with a winner. -/
def stc (i : Nat) (w : Int) : Int := if w = 0 then 0 else if w = mv i then 1 else 2
structure Tells (n : Nat) (res : List (Int × Int)) (q : List Int × List Int) : Prop where
  l0 : res.length = n
  l1 : q.1.length = n
  l2 : q.2.length = n
  st : ∀ j, j < n → q.1.getD j 0 = stc j (res.getD j (0, 0)).1
  mvs : ∀ j, j < n → q.2.getD j 0 = (res.getD j (0, 0)).2
/-- Graphs whose successors are states of the other player. -/
def Alt (nxt : List (List Nat)) (n : Nat) : Prop := ∀ i, ∀ k ∈ nxt.getD i [], k < n ∧ k % 2 ≠ i % 2
theorem sWon_eq {nxt n res q t i} (h : Tells n res q) (ha : Alt nxt n) (hw : Wf res t) : sWon q.1 (nxt.getD i []) = won res (mv i) (nxt.getD i []) := by
  unfold sWon won
  rw [List.any_eq, List.any_eq]
  congr 1
  apply propext
  constructor
  all_goals
    rintro ⟨k, hk, h2⟩
    refine ⟨k, hk, ?_⟩
    have h3 := ha i k hk
    have h4 := h.st k h3.1
    have h5 := hw k
    simp only [decide_eq_true_eq] at h2 ⊢
    simp only [stc, mv] at *
    grind
theorem sAll_eq {nxt n res q t i} (h : Tells n res q) (ha : Alt nxt n) (hw : Wf res t) : sAll q.1 (nxt.getD i []) = lostAll res (mv i) (nxt.getD i []) := by
  unfold sAll lostAll
  rw [List.all_eq, List.all_eq]
  congr 1
  apply propext
  constructor
  all_goals
    intro h1 k hk
    have h2 := h1 k hk
    have h3 := ha i k hk
    have h4 := h.st k h3.1
    have h5 := hw k
    simp only [decide_eq_true_eq] at h2 ⊢
    simp only [stc, mv] at *
    grind
def sgn (r : Int) (j : Nat) (p : Nat × (Int × Int)) : Int := if p.2.1 = mv j then -r else r
theorem scanA_eq {nxt n res q r} (h : Tells n res q) (ha : Alt nxt n) (hw : Wf res r) : ∀ i, i ≤ n → (scanA nxt q.1 r q.2 i).1 = (picks nxt res r i).map (·.1) ∧
    ∀ j, j < n → (scanA nxt q.1 r q.2 i).2.getD j 0 = if j < i then ((pick1 nxt res r j).map (sgn r j)).getD (q.2.getD j 0) else q.2.getD j 0 := by
  intro i
  induction i with
  | zero => intro _; simp [scanA, picks]
  | succ i ih =>
    intro hi
    obtain ⟨h1, h2⟩ := ih (by omega)
    have hl := scanA_len nxt q.1 r q.2 i
    rw [scanA_succ, picks_succ]
    generalize scanA nxt q.1 r q.2 i = s at h1 h2 hl
    have he := pick1_eq nxt i hw
    have hm := mv12 i
    have hst := h.st i (by omega)
    unfold stepA
    rw [sWon_eq h ha hw, sAll_eq h ha hw, hst]
    have hz : stc i (res.getD i (0, 0)).1 ≠ 0 ↔ (res.getD i (0, 0)).1 ≠ 0 := by unfold stc; split <;> (try split) <;> simp_all
    have hql := h.l2
    by_cases c1 : (res.getD i (0, 0)).1 ≠ 0
    · rw [if_pos (hz.2 c1)]
      rw [if_pos c1] at he
      rw [he]
      refine ⟨by simpa using h1, fun j hj => ?_⟩
      rw [h2 j hj]
      grind
    · rw [if_neg (fun hh => c1 (hz.1 hh))]
      rw [if_neg c1] at he
      by_cases c2 : won res (mv i) (nxt.getD i []) = true
      · rw [if_pos c2] at he ⊢
        rw [he]
        refine ⟨by simp [h1], fun j hj => ?_⟩
        simp only [gd_set, List.length_set]
        rw [h2 j hj]
        by_cases hij : i = j
        · subst hij
          rw [if_pos (by omega), if_pos (by omega), he]
          simp [sgn]
        · rw [if_neg (by omega), if_neg (by omega)]
          by_cases hj2 : j < i
          · rw [if_pos hj2, if_pos (by omega)]
          · rw [if_neg hj2, if_neg (by omega)]
      · rw [if_neg c2] at he ⊢
        by_cases c3 : lostAll res (mv i) (nxt.getD i []) = true
        · rw [if_pos c3] at he ⊢
          rw [he]
          refine ⟨by simp [h1], fun j hj => ?_⟩
          simp only [gd_set, List.length_set]
          rw [h2 j hj]
          by_cases hij : i = j
          · subst hij
            rw [if_pos (by omega), if_pos (by omega), he]
            simp [sgn]
            omega
          · rw [if_neg (by omega)]
            by_cases hj2 : j < i
            · rw [if_pos hj2, if_pos (by omega)]
            · rw [if_neg hj2, if_neg (by omega)]
        · rw [if_neg c3] at he ⊢
          rw [he]
          refine ⟨by simpa using h1, fun j hj => ?_⟩
          rw [h2 j hj]
          grind
theorem stepsB_eq (F : List Nat) : ∀ q : List Int × List Int, F.Nodup → (∀ i ∈ F, i < q.1.length ∧ i < q.2.length) → ∀ j,
    (F.foldl stepB q).1.getD j 0 = (if j ∈ F then if q.2.getD j 0 < 0 then 1 else 2 else q.1.getD j 0) ∧ (F.foldl stepB q).2.getD j 0 = (if j ∈ F then if q.2.getD j 0 < 0 then - q.2.getD j 0 else q.2.getD j 0 else q.2.getD j 0) := by
  induction F with
  | nil => intro q _ _ j; simp
  | cons i F ih =>
    intro q hn hF j
    rw [List.foldl_cons]
    have hl := stepB_len q i
    rw [List.nodup_cons] at hn
    have := ih (stepB q i) hn.2 (fun k hk => by have := hF k (by simp [hk]); omega) j
    rw [this.1, this.2]
    have hi := hF i (by simp)
    have e1 : (stepB q i).1.getD j 0 = if i = j then (if q.2.getD j 0 < 0 then 1 else 2) else q.1.getD j 0 := by
      unfold stepB; split <;> simp only [gd_set, List.length_set] <;> grind
    have e2 : (stepB q i).2.getD j 0 = if i = j then (if q.2.getD j 0 < 0 then - q.2.getD j 0 else q.2.getD j 0) else q.2.getD j 0 := by
      unfold stepB; split <;> simp only [gd_set, List.length_set] <;> grind
    rw [e1, e2]
    have := hn.1
    constructor
    all_goals
      simp only [List.mem_cons]
      grind
theorem picks_nodup (nxt res t n) : ((picks nxt res t n).map (·.1)).Nodup := by
  induction n with
  | zero => simp [picks]
  | succ n ih =>
    rw [picks_succ]
    cases hp : pick1 nxt res t n with
    | none => simpa using ih
    | some p =>
      simp only [Option.toList_some, List.map_append, List.map_cons, List.map_nil]
      rw [List.nodup_append]
      refine ⟨ih, by simp, ?_⟩
      intro a ha b hb
      simp only [List.mem_singleton] at hb
      rw [List.mem_map] at ha
      obtain ⟨c, hc, rfl⟩ := ha
      have := picks_lt hc
      have := pick1_fst hp
      omega
theorem mem_picks {nxt res t n j} : j ∈ (picks nxt res t n).map (·.1) ↔ j < n ∧ (pick1 nxt res t j).isSome := by
  simp only [picks, List.mem_map, List.mem_filterMap, List.mem_range]
  constructor
  · rintro ⟨p, ⟨a, h1, h2⟩, rfl⟩
    have := pick1_fst h2
    subst this
    simp [h1, h2]
  · rintro ⟨h1, h2⟩
    obtain ⟨p, hp⟩ := Option.isSome_iff_exists.1 h2
    exact ⟨p, ⟨j, h1, hp⟩, pick1_fst hp⟩
theorem sRound_tells {nxt n res q} {r : Int} (h : Tells n res q) (ha : Alt nxt n) (hw : Wf res r) (hr : 0 ≤ r) : Tells n (rnd nxt res r) (sRound nxt q r) := by
  have hs := scanA_eq h ha hw n (Nat.le_refl _)
  have hl := scanA_len nxt q.1 r q.2 n
  have e1 := h.l0
  have e2 := h.l1
  have e3 := h.l2
  unfold sRound
  rw [e2]
  generalize scanA nxt q.1 r q.2 n = s at hs hl
  obtain ⟨hs1, hs2⟩ := hs
  have hB := stepsB_eq s.1 (q.1, s.2) (by rw [hs1]; exact picks_nodup _ _ _ _) (fun i hi => by have := hl.2.2 i hi; exact ⟨by show i < q.1.length; omega, by show i < s.2.length; omega⟩)
  have hBl := stepsB_len s.1 (q.1, s.2)
  have key : ∀ j, j < n → (s.1.foldl stepB (q.1, s.2)).1.getD j 0 = stc j ((rnd nxt res r).getD j (0, 0)).1 ∧ (s.1.foldl stepB (q.1, s.2)).2.getD j 0 = ((rnd nxt res r).getD j (0, 0)).2 := by
    intro j hj
    rw [(hB j).1, (hB j).2, hs1, rnd_at (by omega)]
    have hsj := hs2 j hj
    rw [if_pos hj] at hsj
    rw [hsj]
    have hm := @mem_picks nxt res r n j
    have he := pick1_eq nxt j hw
    have h12 := mv12 j
    have hst := h.st j hj
    have hmv := h.mvs j hj
    cases hp : pick1 nxt res r j with
    | none =>
      have : ¬ j ∈ (picks nxt res r n).map (·.1) := by rw [hm, hp]; simp
      rw [if_neg this, if_neg this]
      simp only [Option.map_none, Option.getD_none]
      exact ⟨hst, hmv⟩
    | some p =>
      have : j ∈ (picks nxt res r n).map (·.1) := by rw [hm, hp]; simp [hj]
      rw [if_pos this, if_pos this]
      simp only [Option.map_some, Option.getD_some]
      rw [hp] at he
      have hr0 : won res (mv j) (nxt.getD j []) = true → 0 < r := by
        intro hh
        unfold won at hh
        rw [List.any_eq] at hh
        simp only [decide_eq_true_eq] at hh
        obtain ⟨k, hk, hk2⟩ := hh
        have := hw k
        rcases this with h' | h'
        · rw [h'] at hk2; simp at hk2; omega
        · omega
      by_cases c1 : (res.getD j (0, 0)).1 ≠ 0
      · rw [if_pos c1] at he; cases he
      · rw [if_neg c1] at he
        by_cases c2 : won res (mv j) (nxt.getD j []) = true
        · rw [if_pos c2] at he
          have := hr0 c2
          cases he
          simp only [sgn, stc, if_true, Option.map_some, Option.getD_some]
          have h0 : ¬ mv j = 0 := by omega
          have h1 : -r < 0 := by omega
          simp only [h0, h1, if_true, if_false]
          exact ⟨trivial, by omega⟩
        · rw [if_neg c2] at he
          by_cases c3 : lostAll res (mv j) (nxt.getD j []) = true
          · rw [if_pos c3] at he
            cases he
            have c4 : ¬ (3 - mv j = mv j) := by omega
            have h0 : ¬ (3 - mv j = 0) := by omega
            have h1 : ¬ (r < 0) := by omega
            simp only [sgn, stc, c4, h0, h1, if_false, Option.map_some, Option.getD_some, and_self]
          · rw [if_neg c3] at he; cases he
  refine ⟨by rw [rnd, upd_len]; exact e1, by rw [hBl.1]; exact e2, by rw [hBl.2]; show s.2.length = n; omega, fun j hj => (key j hj).1, fun j hj => (key j hj).2⟩
theorem rounds_tell {nxt n} (ha : Alt nxt n) : ∀ t : Nat, Tells n (rounds nxt n t) (sRounds nxt n t) := by
  intro t
  induction t with
  | zero => exact ⟨by simp [rounds], by simp [sRounds], by simp [sRounds], fun j hj => by simp [rounds, sRounds, hj, stc], fun j hj => by simp [rounds, sRounds, hj]⟩
  | succ t ih => rw [rounds, sRounds]; exact sRound_tells ih ha (wf_rounds nxt n t) (by omega)

/-- Who may be gone to from each state: Left's moves, Right's moves of each place in turn. -/
def nxtTo (L R : List (List Nat)) (n : Nat) : List (List Nat) := (List.range n).flatMap fun i => [(L.getD i []).map (fun x => 2 * x + 1), (R.getD i []).map (fun x => 2 * x)]
theorem nxtTo_succ (L R n) : nxtTo L R (n + 1) = nxtTo L R n ++ [(L.getD n []).map (fun x => 2 * x + 1), (R.getD n []).map (fun x => 2 * x)] := by
  simp [nxtTo, List.range_succ]
theorem nxtTo_len (L R n) : (nxtTo L R n).length = 2 * n := by
  induction n with
  | zero => rfl
  | succ n ih => rw [nxtTo_succ, List.length_append, ih]; simp; omega
theorem gd_append {α : Type} (a b : List α) (i : Nat) (d : α) : (a ++ b).getD i d = if i < a.length then a.getD i d else b.getD (i - a.length) d := by
  simp only [List.getD_eq_getElem?_getD, List.getElem?_append]; split <;> rfl
theorem nxtTo_at (L R) : ∀ n i, i < 2 * n → (nxtTo L R n).getD i [] = if i % 2 = 0 then (L.getD (i / 2) []).map (fun x => 2 * x + 1) else (R.getD (i / 2) []).map (fun x => 2 * x) := by
  intro n
  induction n with
  | zero => intro i hi; omega
  | succ n ih =>
    intro i hi
    rw [nxtTo_succ, gd_append, nxtTo_len]
    by_cases h : i < 2 * n
    · rw [if_pos h]; exact ih i h
    · rw [if_neg h]
      have : i = 2 * n ∨ i = 2 * n + 1 := by omega
      rcases this with rfl | rfl
      · rw [if_pos (by omega), Nat.sub_self, show 2 * n / 2 = n by omega]; rfl
      · rw [if_neg (by omega), show 2 * n + 1 - 2 * n = 1 by omega, show (2 * n + 1) / 2 = n by omega]; rfl
def nxtOf (L R : List (List Nat)) : List (List Nat) := nxtTo L R L.length
/-- Both lists of lists lead to places. -/
def Inside (L R : List (List Nat)) : Prop := R.length = L.length ∧ (∀ l ∈ L, ∀ k ∈ l, k < L.length) ∧ ∀ l ∈ R, ∀ k ∈ l, k < L.length
theorem gd_mem {L : List (List Nat)} {i k : Nat} (h : k ∈ L.getD i []) : ∃ l, l ∈ L ∧ k ∈ l := by
  by_cases hi : i < L.length
  · rw [gd hi] at h; exact ⟨_, List.getElem_mem hi, h⟩
  · rw [gd_out hi] at h; cases h
theorem nxtOf_alt {L R} (h : Inside L R) : Alt (nxtOf L R) (2 * L.length) := by
  intro i k hk
  by_cases hi : i < 2 * L.length
  · rw [nxtOf, nxtTo_at L R _ i hi] at hk
    split at hk
    · obtain ⟨x, hx, rfl⟩ := List.mem_map.1 hk
      obtain ⟨l, h1, h2⟩ := gd_mem hx
      have := h.2.1 l h1 x h2
      omega
    · obtain ⟨x, hx, rfl⟩ := List.mem_map.1 hk
      obtain ⟨l, h1, h2⟩ := gd_mem hx
      have := h.2.2 l h1 x h2
      omega
  · rw [gd_out (by rw [nxtOf, nxtTo_len]; exact hi)] at hk; cases hk
end Go.Proofs.YtpcckakchpblcaaGreatDoor
