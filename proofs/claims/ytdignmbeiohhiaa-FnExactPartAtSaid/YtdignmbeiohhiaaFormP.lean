/- Forms: a book of nodes laid out anew is the form just where the form is in order, each node once, all reached. For all lists of nodes, in plain lists. -/
import Derived.Test.YtdignmbeiohhiaaRows
namespace Go.Proofs.Ytdignmbeiohhiaa
set_option linter.unusedSimpArgs false
set_option linter.unusedVariables false

theorem gdp {α : Type} {l : List α} {i : Nat} {d : α} (h : i < l.length) : l.getD i d = l[i] := by simp [List.getD_eq_getElem?_getD, h]
theorem gdp_out {α : Type} {l : List α} {i : Nat} {d : α} (h : l.length ≤ i) : l.getD i d = d := by simp [List.getD_eq_getElem?_getD, h]
theorem gdp_map {α β : Type} (g : α → β) (l : List α) (i : Nat) (d : α) : (l.map g).getD i (g d) = g (l.getD i d) := by
  simp only [List.getD_eq_getElem?_getD, List.getElem?_map]
  cases l[i]? <;> rfl
/-- Two lists in one order with the same members. -/
theorem pw_eq {α : Type} {R : α → α → Prop} (irr : ∀ a, ¬ R a a) (asy : ∀ a b, R a b → ¬ R b a) : ∀ (l m : List α), l.Pairwise R → m.Pairwise R → (∀ x, x ∈ l ↔ x ∈ m) → l = m
  | [], [], _, _, _ => rfl
  | [], y :: m, _, _, h => absurd ((h y).2 (by simp)) (by simp)
  | x :: l, [], _, _, h => absurd ((h x).1 (by simp)) (by simp)
  | x :: l, y :: m, h1, h2, h => by
    rw [List.pairwise_cons] at h1 h2
    have e : x = y := by
      rcases List.mem_cons.1 ((h x).1 (by simp)) with e | hx
      · exact e
      · rcases List.mem_cons.1 ((h y).2 (by simp)) with e | hy
        · exact e.symm
        · exact absurd (h1.1 y hy) (asy _ _ (h2.1 x hx))
    subst e
    rw [pw_eq irr asy l m h1.2 h2.2 fun k => ?_]
    constructor
    · intro hk
      rcases List.mem_cons.1 ((h k).1 (by simp [hk])) with rfl | hm
      · exact absurd (h1.1 k hk) (irr k)
      · exact hm
    · intro hk
      rcases List.mem_cons.1 ((h k).2 (by simp [hk])) with rfl | hm
      · exact absurd (h2.1 k hk) (irr k)
      · exact hm

/-- Strictly rising. -/
abbrev SN (l : List Nat) : Prop := l.Pairwise (· < ·)
theorem sn_eq {l m : List Nat} (h : SN l) (h2 : SN m) (h3 : ∀ x, x ∈ l ↔ x ∈ m) : l = m := pw_eq (fun a => Nat.lt_irrefl a) (fun a b h => Nat.lt_asymm h) l m h h2 h3
def putN (n : Nat) : List Nat → List Nat
  | [] => [n]
  | x :: xs => if x < n then x :: putN n xs else if x = n then x :: xs else n :: x :: xs
def putNs : List Nat → List Nat → List Nat
  | [], acc => acc
  | x :: xs, acc => putNs xs (putN x acc)
theorem putN_end {n : Nat} : ∀ {l : List Nat}, (∀ y ∈ l, y < n) → putN n l = l ++ [n]
  | [], _ => rfl
  | x :: xs, h => by
    rw [putN, if_pos (h x (by simp)), putN_end fun y hy => h y (by simp [hy])]
    rfl
theorem putNs_up : ∀ {l acc : List Nat}, SN (acc ++ l) → putNs l acc = acc ++ l
  | [], acc, _ => by simp [putNs]
  | x :: xs, acc, h => by
    rw [putNs, putN_end fun y hy => (List.pairwise_append.1 h).2.2 y hy x (by simp)]
    rw [putNs_up (l := xs) (acc := acc ++ [x]) (by simpa using h)]
    simp
theorem putNs_id {l : List Nat} (h : SN l) : putNs l [] = l := putNs_up (acc := []) h

/-- Lists compared number by number. -/
def ltL : List Nat → List Nat → Bool
  | [], [] => false
  | [], _ :: _ => true
  | _ :: _, [] => false
  | x :: xs, y :: ys => if x = y then ltL xs ys else decide (x < y)
theorem ltL_irr : ∀ l, ltL l l = false
  | [] => rfl
  | x :: xs => by rw [ltL, if_pos rfl]; exact ltL_irr xs
theorem ltL_trans : ∀ {a b c : List Nat}, ltL a b = true → ltL b c = true → ltL a c = true
  | [], _, [], h, h2 => by cases ‹List Nat› <;> simp [ltL] at h h2
  | [], _, _ :: _, _, _ => rfl
  | x :: xs, [], _, h, _ => by simp [ltL] at h
  | x :: xs, y :: ys, [], _, h2 => by simp [ltL] at h2
  | x :: xs, y :: ys, z :: zs, h, h2 => by
    rw [ltL] at h h2 ⊢
    by_cases e1 : x = y
    · subst e1
      rw [if_pos rfl] at h
      by_cases e2 : x = z
      · subst e2; rw [if_pos rfl] at h2 ⊢; exact ltL_trans h h2
      · rw [if_neg e2] at h2 ⊢; exact h2
    · rw [if_neg e1, decide_eq_true_eq] at h
      by_cases e2 : y = z
      · subst e2; rw [if_neg e1, decide_eq_true_eq]; exact h
      · rw [if_neg e2, decide_eq_true_eq] at h2
        rw [if_neg (by omega), decide_eq_true_eq]; omega
theorem ltL_tri : ∀ (a b : List Nat), ltL a b = true ∨ a = b ∨ ltL b a = true
  | [], [] => .inr (.inl rfl)
  | [], _ :: _ => .inl rfl
  | _ :: _, [] => .inr (.inr rfl)
  | x :: xs, y :: ys => by
    rw [ltL, ltL]
    by_cases e : x = y
    · subst e
      rw [if_pos rfl, if_pos rfl]
      rcases ltL_tri xs ys with h | h | h
      · exact .inl h
      · exact .inr (.inl (by rw [h]))
      · exact .inr (.inr h)
    · rw [if_neg e, if_neg (fun h => e h.symm), decide_eq_true_eq, decide_eq_true_eq]; omega
theorem ltL_map {r : Nat → Nat} : ∀ {a b : List Nat}, (∀ x ∈ a, ∀ y ∈ b, (x = y ↔ r x = r y) ∧ (x < y ↔ r x < r y)) → ltL (a.map r) (b.map r) = ltL a b
  | [], [], _ => rfl
  | [], _ :: _, _ => rfl
  | _ :: _, [], _ => rfl
  | x :: xs, y :: ys, h => by
    obtain ⟨h1, h2⟩ := h x (by simp) y (by simp)
    rw [List.map_cons, List.map_cons, ltL, ltL, ltL_map fun x hx y hy => h x (by simp [hx]) y (by simp [hy])]
    simp only [h1, h2]
/-- A node: its options' places. -/
abbrev Nd := List Nat × List Nat
def ahd (a b : Nd) : Bool := if a.1 = b.1 then ltL a.2 b.2 else ltL a.1 b.1
theorem ahd_irr (a : Nd) : ahd a a = false := by rw [ahd, if_pos rfl]; exact ltL_irr _
theorem ahd_trans {a b c : Nd} (h : ahd a b = true) (h2 : ahd b c = true) : ahd a c = true := by
  unfold ahd at *
  by_cases e1 : a.1 = b.1
  · rw [if_pos e1] at h
    by_cases e2 : b.1 = c.1
    · rw [if_pos e2] at h2; rw [if_pos (e1.trans e2)]; exact ltL_trans h h2
    · rw [if_neg e2] at h2; rw [if_neg (by rw [e1]; exact e2), e1]; exact h2
  · rw [if_neg e1] at h
    by_cases e2 : b.1 = c.1
    · rw [if_neg (by rw [← e2]; exact e1), ← e2]; exact h
    · rw [if_neg e2] at h2
      have h3 := ltL_trans h h2
      by_cases e3 : a.1 = c.1
      · rw [e3, ltL_irr] at h3; cases h3
      · rw [if_neg e3]; exact h3
theorem ahd_tri (a b : Nd) : ahd a b = true ∨ a = b ∨ ahd b a = true := by
  unfold ahd
  by_cases e : a.1 = b.1
  · rw [if_pos e, if_pos e.symm]
    rcases ltL_tri a.2 b.2 with h | h | h
    · exact .inl h
    · exact .inr (.inl (Prod.ext e h))
    · exact .inr (.inr h)
  · rw [if_neg e, if_neg (fun h => e h.symm)]
    rcases ltL_tri a.1 b.1 with h | h | h
    · exact .inl h
    · exact absurd h e
    · exact .inr (.inr h)
theorem ahd_asy {a b : Nd} (h : ahd a b = true) : ahd b a = false := by
  cases h2 : ahd b a with
  | false => rfl
  | true => have := ahd_trans h h2; rw [ahd_irr] at this; cases this

/-- A node put to its place in a group. -/
def insG (x : Nd) (k : Nat) : List (Nd × Nat) → List (Nd × Nat)
  | [] => [(x, k)]
  | e :: es => if ahd e.1 x = true then e :: insG x k es else (x, k) :: e :: es
theorem insG_mem {x : Nd} {k : Nat} {e : Nd × Nat} : ∀ {l : List (Nd × Nat)}, e ∈ insG x k l ↔ e = (x, k) ∨ e ∈ l
  | [] => by simp [insG]
  | a :: l2 => by
    rw [insG]
    split
    · rw [List.mem_cons, insG_mem, List.mem_cons]
      constructor
      · rintro (h | h | h)
        · exact .inr (.inl h)
        · exact .inl h
        · exact .inr (.inr h)
      · rintro (h | h | h)
        · exact .inr (.inl h)
        · exact .inl h
        · exact .inr (.inr h)
    · rw [List.mem_cons]
theorem insG_len (x : Nd) (k : Nat) : ∀ l, (insG x k l).length = l.length + 1
  | [] => rfl
  | a :: l2 => by rw [insG]; split <;> simp [insG_len x k l2]
/-- Ahead, of nodes with their places. -/
abbrev AG (a b : Nd × Nat) : Prop := ahd a.1 b.1 = true
theorem insG_pw {x : Nd} {k : Nat} : ∀ {l : List (Nd × Nat)}, l.Pairwise AG → (∀ e ∈ l, e.1 ≠ x) → (insG x k l).Pairwise AG
  | [], _, _ => by simp [insG]
  | a :: l2, h, hd => by
    rw [List.pairwise_cons] at h
    rw [insG]
    split
    · rename_i hx
      rw [List.pairwise_cons]
      refine ⟨fun e he => ?_, insG_pw h.2 fun e he => hd e (by simp [he])⟩
      rcases insG_mem.1 he with rfl | he
      · exact hx
      · exact h.1 e he
    · rename_i hx
      have hxa : ahd x a.1 = true := by
        rcases ahd_tri a.1 x with h1 | h1 | h1
        · exact absurd h1 hx
        · exact absurd h1 (hd a (by simp))
        · exact h1
      rw [List.pairwise_cons]
      refine ⟨fun e he => ?_, List.pairwise_cons.2 h⟩
      rcases List.mem_cons.1 he with rfl | he
      · exact hxa
      · exact ahd_trans hxa (h.1 e he)

def nd (f : List Nd) (k : Nat) : Nd := f.getD k ([], [])
/-- A node with its options' new places. -/
def xN (f : List Nd) (at_ : List Nat) (k : Nat) : Nd :=
  (putNs ((nd f k).1.map fun i => at_.getD i 0) [], putNs ((nd f k).2.map fun i => at_.getD i 0) [])
/-- The nodes of one birthday that are needed, in order. -/
def grp (f : List Nd) (bn : List Nat) (need : List Bool) (at_ : List Nat) (b : Nat) : Nat → List (Nd × Nat)
  | 0 => []
  | k + 1 => if need.getD k false = true ∧ bn.getD k 0 = b then insG (xN f at_ k) k (grp f bn need at_ b k) else grp f bn need at_ b k
theorem grp_mem {f bn need at_ b} {e : Nd × Nat} : ∀ {m : Nat}, e ∈ grp f bn need at_ b m ↔ e.2 < m ∧ need.getD e.2 false = true ∧ bn.getD e.2 0 = b ∧ e.1 = xN f at_ e.2
  | 0 => by simp [grp]
  | m + 1 => by
    rw [grp]
    split
    · rename_i h
      rw [insG_mem, grp_mem]
      constructor
      · rintro (rfl | ⟨h1, h2, h3, h4⟩)
        · exact ⟨Nat.lt_succ_self _, h.1, h.2, rfl⟩
        · exact ⟨by omega, h2, h3, h4⟩
      · rintro ⟨h1, h2, h3, h4⟩
        by_cases hm : e.2 = m
        · exact .inl (Prod.ext (by rw [h4, hm]) hm)
        · exact .inr ⟨by omega, h2, h3, h4⟩
    · rename_i h
      rw [grp_mem]
      constructor
      · rintro ⟨h1, h2, h3, h4⟩; exact ⟨by omega, h2, h3, h4⟩
      · rintro ⟨h1, h2, h3, h4⟩
        refine ⟨?_, h2, h3, h4⟩
        by_cases hm : e.2 = m
        · exact absurd ⟨hm ▸ h2, hm ▸ h3⟩ h
        · omega
theorem grp_pw {f bn need at_ b} : ∀ {m : Nat}, (∀ i j, i < j → j < m → need.getD i false = true → need.getD j false = true → bn.getD i 0 = b → bn.getD j 0 = b → xN f at_ i ≠ xN f at_ j) → (grp f bn need at_ b m).Pairwise AG
  | 0, _ => by simp [grp]
  | m + 1, hd => by
    have ih := grp_pw (f := f) (bn := bn) (need := need) (at_ := at_) (b := b) (m := m) fun i j h1 h2 => hd i j h1 (by omega)
    rw [grp]
    split
    · rename_i h
      refine insG_pw ih fun e he => ?_
      obtain ⟨h1, h2, h3, h4⟩ := grp_mem.1 he
      rw [h4]
      exact hd e.2 m h1 (by omega) h2 h.1 h3 h.2
    · exact ih
theorem grp_len {f bn need at_ b} : ∀ m, (grp f bn need at_ b m).length = ((List.range m).filter fun k => need.getD k false && decide (bn.getD k 0 = b)).length
  | 0 => rfl
  | m + 1 => by
    rw [grp, List.range_succ, List.filter_append, List.length_append, List.filter_cons]
    split
    · rename_i h
      rw [insG_len, grp_len m, if_pos (by rw [h.1, h.2]; simp)]; simp
    · rename_i h
      rw [grp_len m, if_neg (by simpa using h)]; simp

/-- Places told one by one. -/
def asg : List Nat → Nat → List Nat → List Nat
  | at_, _, [] => at_
  | at_, n, k :: ks => asg (at_.set k n) (n + 1) ks
theorem asg_len : ∀ (ks at_ : List Nat) (n : Nat), (asg at_ n ks).length = at_.length
  | [], _, _ => rfl
  | k :: ks, at_, n => by rw [asg, asg_len]; simp
theorem asg_out {j : Nat} : ∀ (ks at_ : List Nat) (n : Nat), j ∉ ks → (asg at_ n ks).getD j 0 = at_.getD j 0
  | [], _, _, _ => rfl
  | k :: ks, at_, n, h => by
    rw [List.mem_cons, not_or] at h
    rw [asg, asg_out ks _ _ h.2]
    simp only [List.getD_eq_getElem?_getD, List.getElem?_set, if_neg (show ¬ k = j from fun e => h.1 e.symm)]
theorem asg_at {p : Nat} : ∀ (ks at_ : List Nat) (n : Nat), ks.Nodup → (∀ k ∈ ks, k < at_.length) → (h : p < ks.length) → (asg at_ n ks).getD ks[p] 0 = n + p
  | [], _, _, _, _, h => absurd h (by simp)
  | k :: ks, at_, n, hn, hl, h => by
    rw [List.nodup_cons] at hn
    rw [asg]
    cases p with
    | zero =>
      rw [List.getElem_cons_zero, asg_out _ _ _ hn.1]
      have := hl k (by simp)
      simp [List.getD_eq_getElem?_getD, this]
    | succ p =>
      rw [List.getElem_cons_succ, asg_at ks _ _ hn.2 (fun k hk => by rw [List.length_set]; exact hl k (by simp [hk])) (by simpa using h)]
      omega
def rnd (f : List Nd) (bn : List Nat) (need : List Bool) (root : Nat) (q : List Nat × List Nd) (b : Nat) : List Nat × List Nd :=
  (asg q.1 q.2.length ((grp f bn need q.1 b (root + 1)).map (·.2)), q.2 ++ (grp f bn need q.1 b (root + 1)).map (·.1))
def rndTo (f : List Nd) (bn : List Nat) (need : List Bool) (root : Nat) : Nat → List Nat × List Nd
  | 0 => (List.replicate (root + 1) 0, [])
  | b + 1 => rnd f bn need root (rndTo f bn need root b) b
/-- The form of a book's node. -/
def frm (f : List Nd) (bn : List Nat) (need : List Bool) (root : Nat) : List Nd := (rndTo f bn need root (bn.getD root 0 + 1)).2
theorem rndTo_atlen (f bn need root) : ∀ b, (rndTo f bn need root b).1.length = root + 1
  | 0 => by simp [rndTo]
  | b + 1 => by rw [rndTo, rnd, asg_len, rndTo_atlen f bn need root b]
theorem rndTo_len (f bn need root) : ∀ b, (rndTo f bn need root b).2.length = ((List.range (root + 1)).filter fun k => need.getD k false && decide (bn.getD k 0 < b)).length
  | 0 => by
    have : ((List.range (root + 1)).filter fun k => need.getD k false && decide (bn.getD k 0 < 0)) = [] := List.filter_eq_nil_iff.2 fun x _ => by simp
    rw [this]; rfl
  | b + 1 => by
    rw [rndTo, rnd, List.length_append, List.length_map, rndTo_len f bn need root b, grp_len]
    have key : ∀ l : List Nat, (l.filter fun k => need.getD k false && decide (bn.getD k 0 < b)).length + (l.filter fun k => need.getD k false && decide (bn.getD k 0 = b)).length = (l.filter fun k => need.getD k false && decide (bn.getD k 0 < b + 1)).length := by
      intro l
      induction l with
      | nil => rfl
      | cons x xs ih =>
        simp only [List.filter_cons]
        cases need.getD x false with
        | false => simpa using ih
        | true =>
          generalize bn.getD x 0 = v
          by_cases h1 : v < b
          · rw [if_pos (by simpa using h1), if_neg (by simp; omega), if_pos (by simp; omega)]; simp only [List.length_cons]; omega
          · by_cases h2 : v = b
            · rw [if_neg (by simpa using h1), if_pos (by simpa using h2), if_pos (by simp; omega)]; simp only [List.length_cons]; omega
            · rw [if_neg (by simpa using h1), if_neg (by simpa using h2), if_neg (by simp; omega)]; exact ih
    exact key _
theorem rndTo_pre (f bn need root) (b : Nat) : ∀ c, b ≤ c → ∃ t, (rndTo f bn need root c).2 = (rndTo f bn need root b).2 ++ t := by
  intro c h
  induction h with
  | refl => exact ⟨[], by simp⟩
  | step _ ih =>
    obtain ⟨t, ht⟩ := ih
    exact ⟨t ++ _, by rw [rndTo, rnd, ht, List.append_assoc]⟩
end Go.Proofs.Ytdignmbeiohhiaa
