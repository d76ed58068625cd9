/- Solving a graph for two players by rounds, in plain lists: the program's rounds, the reference's rounds, and that both come to the same. For all graphs. -/
namespace Go.Proofs.YtpcckakchpblcaaGreatDoor
set_option linter.unusedSimpArgs false

theorem gd {α : Type} {l : List α} {k : Nat} {d : α} (h : k < l.length) : l.getD k d = l[k] := by simp [h]
theorem gd_out {α : Type} {l : List α} {k : Nat} {d : α} (h : ¬ k < l.length) : l.getD k d = d := by simp [h]
theorem gd_set {α : Type} (l : List α) (i j : Nat) (a d : α) : (l.set i a).getD j d = if i = j ∧ j < l.length then a else l.getD j d := by
  simp only [List.getD_eq_getElem?_getD, List.getElem?_set]
  by_cases h : i = j
  · subst h
    by_cases h2 : i < l.length
    · simp [h2]
    · simp [h2]
  · simp [h]

/-- A state's decision by those of its successors. -/
def dec (res : List (Int × Int)) (m t : Int) : List Nat → Bool → (Int × Int) × Bool
  | [], lost => ((3 - m, t), lost)
  | k :: ks, lost => if (res.getD k (0, 0)).1 = m ∧ (res.getD k (0, 0)).2 < t then ((m, t), true) else dec res m t ks (lost && decide ((res.getD k (0, 0)).1 = 3 - m) && decide ((res.getD k (0, 0)).2 < t))
/-- What a round finds in a state; in all states ahead of one. -/
def pick1 (nxt : List (List Nat)) (res : List (Int × Int)) (t : Int) (i : Nat) : Option (Nat × (Int × Int)) :=
  if (res.getD i (0, 0)).1 ≠ 0 then none else if (dec res ((1 + i % 2 : Nat) : Int) t (nxt.getD i []) true).2 then some (i, (dec res ((1 + i % 2 : Nat) : Int) t (nxt.getD i []) true).1) else none
def picks (nxt : List (List Nat)) (res : List (Int × Int)) (t : Int) (n : Nat) : List (Nat × (Int × Int)) := (List.range n).filterMap (pick1 nxt res t)
theorem picks_succ (nxt res t n) : picks nxt res t (n + 1) = picks nxt res t n ++ (pick1 nxt res t n).toList := by
  simp only [picks, List.range_succ, List.filterMap_append, List.filterMap_cons, List.filterMap_nil]; cases pick1 nxt res t n <;> rfl
theorem picks_len (nxt res t n) : (picks nxt res t n).length ≤ n := by have := List.length_filterMap_le (pick1 nxt res t) (List.range n); simpa [picks] using this
theorem pick1_fst {nxt res t i p} (h : pick1 nxt res t i = some p) : p.1 = i := by
  unfold pick1 at h
  split at h
  · cases h
  · split at h
    · cases h; rfl
    · cases h
theorem picks_lt {nxt res t n p} (h : p ∈ picks nxt res t n) : p.1 < n := by
  simp only [picks, List.mem_filterMap, List.mem_range] at h
  obtain ⟨a, h1, h2⟩ := h
  have := pick1_fst h2
  omega
def upd (res : List (Int × Int)) (ps : List (Nat × (Int × Int))) : List (Int × Int) := ps.foldl (fun r p => r.set p.1 p.2) res
theorem upd_len (ps : List (Nat × (Int × Int))) : ∀ res, (upd res ps).length = res.length := by
  induction ps with
  | nil => intro _; rfl
  | cons p ps ih => intro res; simp only [upd, List.foldl_cons]; have := ih (res.set p.1 p.2); simp only [upd] at this; rw [this]; simp
theorem upd_snoc (res ps p) : upd res (ps ++ [p]) = (upd res ps).set p.1 p.2 := by simp [upd]

/-- All results that are decided take fewer turns. -/
def Wf (res : List (Int × Int)) (t : Int) : Prop := ∀ k, res.getD k (0, 0) = (0, 0) ∨ (((res.getD k (0, 0)).1 = 1 ∨ (res.getD k (0, 0)).1 = 2) ∧ 0 ≤ (res.getD k (0, 0)).2 ∧ (res.getD k (0, 0)).2 < t)
theorem Wf.mono {res t t'} (h : Wf res t) (ht : t ≤ t') : Wf res t' := fun k => (h k).imp id fun ⟨a, b, c⟩ => ⟨a, b, by omega⟩
def won (res : List (Int × Int)) (m : Int) (ks : List Nat) : Bool := ks.any fun k => decide ((res.getD k (0, 0)).1 = m)
def lostAll (res : List (Int × Int)) (m : Int) (ks : List Nat) : Bool := ks.all fun k => decide ((res.getD k (0, 0)).1 = 3 - m)
theorem dec_eq {res t m} (h : Wf res t) (hm : m = 1 ∨ m = 2) : ∀ ks lost, dec res m t ks lost = if won res m ks then ((m, t), true) else ((3 - m, t), lost && lostAll res m ks) := by
  intro ks
  induction ks with
  | nil => intro lost; simp [dec, won, lostAll]
  | cons k ks ih =>
    intro lost
    rw [dec]
    have hk := h k
    by_cases hw : (res.getD k (0, 0)).1 = m
    · have ht : (res.getD k (0, 0)).2 < t := by
        rcases hk with hk | hk
        · rw [hk] at hw; simp at hw; omega
        · exact hk.2.2
      rw [if_pos ⟨hw, ht⟩, won, List.any_cons, if_pos (by rw [decide_eq_true hw]; rfl)]
    · rw [if_neg (fun h => hw h.1), ih]
      have e1 : won res m (k :: ks) = won res m ks := by rw [won, List.any_cons, decide_eq_false hw]; rfl
      rw [e1]
      have e2 : (lost && decide ((res.getD k (0, 0)).1 = 3 - m) && decide ((res.getD k (0, 0)).2 < t)) = (lost && decide ((res.getD k (0, 0)).1 = 3 - m)) := by
        by_cases hl : (res.getD k (0, 0)).1 = 3 - m
        · have ht : (res.getD k (0, 0)).2 < t := by
            rcases hk with hk | hk
            · rw [hk] at hl; simp at hl; omega
            · exact hk.2.2
          rw [decide_eq_true ht, Bool.and_true]
        · rw [decide_eq_false hl, Bool.and_false]; rfl
      rw [e2]
      simp only [lostAll, List.all_cons, Bool.and_assoc]

abbrev mv (i : Nat) : Int := ((1 + i % 2 : Nat) : Int)
theorem mv12 (i : Nat) : mv i = 1 ∨ mv i = 2 := by unfold mv; omega
theorem pick1_eq {res t} (nxt) (i : Nat) (h : Wf res t) : pick1 nxt res t i = if (res.getD i (0, 0)).1 ≠ 0 then none else if won res (mv i) (nxt.getD i []) then some (i, (mv i, t)) else if lostAll res (mv i) (nxt.getD i []) then some (i, (3 - mv i, t)) else none := by
  unfold pick1
  rw [dec_eq h (mv12 i)]
  grind

theorem upd_picks (nxt res t) : ∀ n, n ≤ res.length → ∀ j, (upd res (picks nxt res t n)).getD j (0, 0) = if j < n then ((pick1 nxt res t j).map (·.2)).getD (res.getD j (0, 0)) else res.getD j (0, 0) := by
  intro n
  induction n with
  | zero => intro _ j; simp [picks, upd]
  | succ n ih =>
    intro hn j
    rw [picks_succ]
    have ih := ih (by omega) j
    cases hp : pick1 nxt res t n with
    | none =>
      rw [Option.toList_none, List.append_nil, ih]
      by_cases hj : j < n
      · rw [if_pos hj, if_pos (by omega)]
      · by_cases hj2 : j = n
        · subst hj2; rw [if_neg (by omega), if_pos (by omega), hp]; rfl
        · rw [if_neg hj, if_neg (by omega)]
    | some p =>
      have hf := pick1_fst hp
      rw [Option.toList_some, upd_snoc, gd_set, upd_len, ih, hf]
      by_cases hj2 : n = j
      · subst hj2; rw [if_pos (by omega), if_pos (by omega), hp]; rfl
      · rw [if_neg (by omega)]
        by_cases hj : j < n
        · rw [if_pos hj, if_pos (by omega)]
        · rw [if_neg hj, if_neg (by omega)]

def rnd (nxt : List (List Nat)) (res : List (Int × Int)) (t : Int) : List (Int × Int) := upd res (picks nxt res t res.length)
def rounds (nxt : List (List Nat)) (n : Nat) : Nat → List (Int × Int)
  | 0 => List.replicate n (0, 0)
  | t + 1 => rnd nxt (rounds nxt n t) t
theorem rounds_len (nxt n t) : (rounds nxt n t).length = n := by
  induction t with
  | zero => simp [rounds]
  | succ t ih => rw [rounds, rnd, upd_len, ih]
theorem rnd_at {nxt res t j} (h : j < res.length) : (rnd nxt res t).getD j (0, 0) = ((pick1 nxt res t j).map (·.2)).getD (res.getD j (0, 0)) := by
  rw [rnd, upd_picks _ _ _ _ (Nat.le_refl _), if_pos h]
theorem wf_rnd {nxt res t} (h : Wf res t) (h0 : 0 ≤ t) : Wf (rnd nxt res t) (t + 1) := by
  intro j
  by_cases hj : j < res.length
  · rw [rnd_at hj, pick1_eq nxt j h]
    have := (h.mono (show t ≤ t + 1 by omega)) j
    split
    · simpa using this
    · split
      · right; simp only [Option.map_some, Option.getD_some]; exact ⟨mv12 j, by omega, by omega⟩
      · split
        · right; simp only [Option.map_some, Option.getD_some]; have := mv12 j; omega
        · simpa using this
  · left
    rw [gd_out]
    rw [rnd, upd_len]; exact hj
theorem wf_rounds (nxt n) : ∀ t : Nat, Wf (rounds nxt n t) t := by
  intro t
  induction t with
  | zero => intro k; left; simp only [rounds]; by_cases h : k < n <;> simp [h]
  | succ t ih => rw [rounds]; have := wf_rnd (nxt := nxt) ih (by omega); exact_mod_cast this

theorem picks_nil {nxt res t t' n} (h : Wf res t) (h2 : Wf res t') (hp : picks nxt res t n = []) : picks nxt res t' n = [] := by
  simp only [picks, List.filterMap_eq_nil_iff] at hp ⊢
  intro i hi
  have := hp i hi
  rw [pick1_eq nxt i h] at this
  rw [pick1_eq nxt i h2]
  grind
theorem rounds_stop {nxt n t} (hp : picks nxt (rounds nxt n t) t n = []) : ∀ s, t ≤ s → rounds nxt n s = rounds nxt n t := by
  have : ∀ k, rounds nxt n (t + k) = rounds nxt n t := by
    intro k
    induction k with
    | zero => rfl
    | succ k ih =>
      rw [← Nat.add_assoc, rounds, ih, rnd, rounds_len]
      rw [picks_nil (wf_rounds nxt n t) ((wf_rounds nxt n t).mono (by omega)) hp]; rfl
  intro s hs
  obtain ⟨k, rfl⟩ := Nat.exists_eq_add_of_le hs
  exact this k

/-- How many states are open. -/
def zeros (res : List (Int × Int)) : Nat := res.countP fun r => decide (r.1 = 0)
theorem zeros_upd {nxt res t} (h : Wf res t) : ∀ n, n ≤ res.length → zeros (upd res (picks nxt res t n)) + (picks nxt res t n).length = zeros res := by
  intro n
  induction n with
  | zero => intro _; simp [picks, upd]
  | succ n ih =>
    intro hn
    have ih := ih (by omega)
    rw [picks_succ]
    cases hp : pick1 nxt res t n with
    | none => rw [Option.toList_none, List.append_nil]; exact ih
    | some p =>
      have hf := pick1_fst hp
      have hat := upd_picks nxt res t n (by omega) n
      rw [if_neg (by omega)] at hat
      have hlen := upd_len (picks nxt res t n) res
      rw [gd (by omega)] at hat
      have e := pick1_eq nxt n h
      have hm := mv12 n
      have hz : (res.getD n (0, 0)).1 = 0 ∧ p.2.1 ≠ 0 := by grind
      rw [Option.toList_some, upd_snoc, hf, List.length_append, List.length_singleton]
      simp only [zeros] at ih ⊢
      rw [List.countP_set (by omega), hat]
      have hpos : 0 < List.countP (fun r : Int × Int => decide (r.1 = 0)) (upd res (picks nxt res t n)) := by
        rw [List.countP_pos_iff]
        exact ⟨_, List.getElem_mem (show n < _ by omega), by rw [hat, decide_eq_true hz.1]⟩
      simp only [hz.1, hz.2, decide_true, decide_false, if_true]
      simp
      omega
theorem zeros_rounds {nxt n t} (hp : picks nxt (rounds nxt n t) t n ≠ []) : zeros (rounds nxt n (t + 1)) < zeros (rounds nxt n t) := by
  have := zeros_upd (nxt := nxt) (wf_rounds nxt n t) _ (Nat.le_refl _)
  rw [rounds_len] at this
  rw [rounds, rnd, rounds_len]
  have : 0 < (picks nxt (rounds nxt n t) t n).length := List.length_pos_iff.2 hp
  omega
theorem zeros_le (nxt n t) : zeros (rounds nxt n t) ≤ n := by have := List.countP_le_length (p := fun r : Int × Int => decide (r.1 = 0)) (l := rounds nxt n t); rw [rounds_len] at this; exact this
theorem rounds_ends (nxt n) : ∃ t, t ≤ n ∧ picks nxt (rounds nxt n t) t n = [] := by
  have : ∀ t, (∃ s, s < t ∧ picks nxt (rounds nxt n s) s n = []) ∨ t + zeros (rounds nxt n t) ≤ n := by
    intro t
    induction t with
    | zero => right; have := zeros_le nxt n 0; omega
    | succ t ih =>
      rcases ih with ⟨s, h1, h2⟩ | ih
      · exact Or.inl ⟨s, by omega, h2⟩
      · by_cases hp : picks nxt (rounds nxt n t) t n = []
        · exact Or.inl ⟨t, by omega, hp⟩
        · have := zeros_rounds hp; right; omega
  rcases this (n + 1) with ⟨s, h1, h2⟩ | h
  · exact ⟨s, by omega, h2⟩
  · omega
/-- What all rounds come to; no state is left that the next would decide. -/
def fin (nxt : List (List Nat)) (n : Nat) : List (Int × Int) := rounds nxt n (n + 1)
theorem fin_of_stop {nxt n t} (ht : t ≤ n) (hp : picks nxt (rounds nxt n t) t n = []) : rounds nxt n t = fin nxt n := (rounds_stop hp _ (by omega)).symm
theorem fin_wf (nxt n) : Wf (fin nxt n) ((n + 1 : Nat) : Int) := wf_rounds nxt n (n + 1)
theorem fin_nil (nxt n) : picks nxt (fin nxt n) ((n + 1 : Nat) : Int) n = [] := by
  obtain ⟨t, ht, hp⟩ := rounds_ends nxt n
  have := fin_of_stop ht hp
  rw [← this]
  exact picks_nil (wf_rounds nxt n t) ((wf_rounds nxt n t).mono (by omega)) hp

/-- What the reference tells of a state with a winner. -/
def stc (i : Nat) (w : Int) : Int := if w = 0 then 0 else if w = mv i then 1 else 2
structure Tells (n : Nat) (res : List (Int × Int)) (q : List Int × List Int) : Prop where
  l0 : res.length = n
  l1 : q.1.length = n
  l2 : q.2.length = n
  st : ∀ j, j < n → q.1.getD j 0 = stc j (res.getD j (0, 0)).1
  mvs : ∀ j, j < n → q.2.getD j 0 = (res.getD j (0, 0)).2
/-- Graphs whose successors are states of the other player. -/
def Alt (nxt : List (List Nat)) (n : Nat) : Prop := ∀ i, ∀ k ∈ nxt.getD i [], k < n ∧ k % 2 ≠ i % 2
/-- Who may be gone to from each state: Left's moves, Right's moves of each place in turn. -/
def nxtTo (L R : List (List Nat)) (n : Nat) : List (List Nat) := (List.range n).flatMap fun i => [(L.getD i []).map (fun x => 2 * x + 1), (R.getD i []).map (fun x => 2 * x)]
theorem nxtTo_succ (L R n) : nxtTo L R (n + 1) = nxtTo L R n ++ [(L.getD n []).map (fun x => 2 * x + 1), (R.getD n []).map (fun x => 2 * x)] := by
  simp [nxtTo, List.range_succ]
theorem nxtTo_len (L R n) : (nxtTo L R n).length = 2 * n := by
  induction n with
  | zero => rfl
  | succ n ih => rw [nxtTo_succ, List.length_append, ih]; simp; omega
theorem gd_append {α : Type} (a b : List α) (i : Nat) (d : α) : (a ++ b).getD i d = if i < a.length then a.getD i d else b.getD (i - a.length) d := by
  simp only [List.getD_eq_getElem?_getD, List.getElem?_append]; split <;> rfl
theorem nxtTo_at (L R) : ∀ n i, i < 2 * n → (nxtTo L R n).getD i [] = if i % 2 = 0 then (L.getD (i / 2) []).map (fun x => 2 * x + 1) else (R.getD (i / 2) []).map (fun x => 2 * x) := by
  intro n
  induction n with
  | zero => intro i hi; omega
  | succ n ih =>
    intro i hi
    rw [nxtTo_succ, gd_append, nxtTo_len]
    by_cases h : i < 2 * n
    · rw [if_pos h]; exact ih i h
    · rw [if_neg h]
      have : i = 2 * n ∨ i = 2 * n + 1 := by omega
      rcases this with rfl | rfl
      · rw [if_pos (by omega), Nat.sub_self, show 2 * n / 2 = n by omega]; rfl
      · rw [if_neg (by omega), show 2 * n + 1 - 2 * n = 1 by omega, show (2 * n + 1) / 2 = n by omega]; rfl
def nxtOf (L R : List (List Nat)) : List (List Nat) := nxtTo L R L.length
/-- Both lists of lists lead to places. -/
def Inside (L R : List (List Nat)) : Prop := R.length = L.length ∧ (∀ l ∈ L, ∀ k ∈ l, k < L.length) ∧ ∀ l ∈ R, ∀ k ∈ l, k < L.length
theorem gd_mem {L : List (List Nat)} {i k : Nat} (h : k ∈ L.getD i []) : ∃ l, l ∈ L ∧ k ∈ l := by
  by_cases hi : i < L.length
  · rw [gd hi] at h; exact ⟨_, List.getElem_mem hi, h⟩
  · rw [gd_out hi] at h; cases h
theorem nxtOf_alt {L R} (h : Inside L R) : Alt (nxtOf L R) (2 * L.length) := by
  intro i k hk
  by_cases hi : i < 2 * L.length
  · rw [nxtOf, nxtTo_at L R _ i hi] at hk
    split at hk
    · obtain ⟨x, hx, rfl⟩ := List.mem_map.1 hk
      obtain ⟨l, h1, h2⟩ := gd_mem hx
      have := h.2.1 l h1 x h2
      omega
    · obtain ⟨x, hx, rfl⟩ := List.mem_map.1 hk
      obtain ⟨l, h1, h2⟩ := gd_mem hx
      have := h.2.2 l h1 x h2
      omega
  · rw [gd_out (by rw [nxtOf, nxtTo_len]; exact hi)] at hk; cases hk
end Go.Proofs.YtpcckakchpblcaaGreatDoor
