/- Going through a graph in depth tells whether no play is without end, and how long plays are: as the reference's sweeps tell it. For all graphs, in plain lists. -/
import Derived.Test.YtpcckakchpblcaaGreatDoorSolve
namespace Go.Proofs.YtpcckakchpblcaaGreatDoor
set_option linter.unusedSimpArgs false

abbrev DS := List Nat × List Nat
/-- The greatest of the numbers of some states, each and one. -/
def mx (tn : List Nat) (ks : List Nat) : Nat := ks.foldl (fun m k => max m (tn.getD k 0 + 1)) 0
theorem mx_snoc (tn ks k) : mx tn (ks ++ [k]) = max (mx tn ks) (tn.getD k 0 + 1) := by simp [mx]
theorem mx_congr {tn tn' : List Nat} : ∀ (ks : List Nat), (∀ k ∈ ks, tn'.getD k 0 = tn.getD k 0) → mx tn' ks = mx tn ks := by
  intro ks h
  have key : ∀ m0, ks.foldl (fun m k => max m (tn'.getD k 0 + 1)) m0 = ks.foldl (fun m k => max m (tn.getD k 0 + 1)) m0 := by
    induction ks with
    | nil => intro _; rfl
    | cons k ks ih => intro m0; simp only [List.foldl_cons]; rw [h k (by simp)]; exact ih (fun q hq => h q (by simp [hq])) _
  exact key 0
theorem mx_foldl (tn : List Nat) : ∀ (ks : List Nat) (m : Nat), m ≤ ks.foldl (fun m k => max m (tn.getD k 0 + 1)) m ∧ ∀ k ∈ ks, tn.getD k 0 + 1 ≤ ks.foldl (fun m k => max m (tn.getD k 0 + 1)) m
  | [], m => ⟨Nat.le_refl _, by simp⟩
  | k :: ks, m => by
    obtain ⟨h1, h2⟩ := mx_foldl tn ks (max m (tn.getD k 0 + 1))
    simp only [List.foldl_cons]
    refine ⟨by omega, fun q hq => ?_⟩
    rcases List.mem_cons.1 hq with rfl | hq
    · omega
    · exact h2 q hq
theorem mx_gt {tn ks k} (h : k ∈ ks) : tn.getD k 0 < mx tn ks := (mx_foldl tn ks 0).2 k h

/-- One state's successors, one after the other. -/
def goD (v : DS → Nat → Bool × DS) (s : Nat) : List Nat → DS → Bool × DS
  | [], q => (true, q)
  | k :: ks, q => if q.1.getD k 0 = 1 then (false, q) else if q.1.getD k 0 = 0 then (if (v q k).1 then goD v s ks ((v q k).2.1, (v q k).2.2.set s (max ((v q k).2.2.getD s 0) ((v q k).2.2.getD k 0 + 1))) else (false, (v q k).2)) else goD v s ks (q.1, q.2.set s (max (q.2.getD s 0) (q.2.getD k 0 + 1)))
def visD (nxt : List (List Nat)) : Nat → DS → Nat → Bool × DS
  | 0, q, _ => (true, q)
  | f + 1, q, s => if (goD (visD nxt f) s (nxt.getD s []) (q.1.set s 1, q.2)).1 then (true, ((goD (visD nxt f) s (nxt.getD s []) (q.1.set s 1, q.2)).2.1.set s 2, (goD (visD nxt f) s (nxt.getD s []) (q.1.set s 1, q.2)).2.2)) else (false, (goD (visD nxt f) s (nxt.getD s []) (q.1.set s 1, q.2)).2)
def allD (nxt : List (List Nat)) (f : Nat) : List Nat → DS → Bool × DS
  | [], q => (true, q)
  | s :: ss, q => if q.1.getD s 0 = 0 then (if (visD nxt f q s).1 then allD nxt f ss (visD nxt f q s).2 else (false, (visD nxt f q s).2)) else allD nxt f ss q
/-- How many states are not yet seen. -/
def wz (q : DS) : Nat := q.1.countP fun x => decide (x = 0)
theorem wz_set {l : List Nat} {s x : Nat} (h : s < l.length) (hx : x ≠ 0) : (l.set s x).countP (fun y => decide (y = 0)) + (if l.getD s 0 = 0 then 1 else 0) = l.countP fun y => decide (y = 0) := by
  rw [List.countP_set h, gd h]
  have hx2 : decide (x = 0) = false := decide_eq_false hx
  rw [hx2]
  by_cases h0 : l[s] = 0
  · have hp : 0 < l.countP fun y => decide (y = 0) := List.countP_pos_iff.2 ⟨_, List.getElem_mem h, by simp [h0]⟩
    simp only [h0, decide_true, if_true]
    simp
    omega
  · simp [h0]

/-- One may go from a state to another. -/
inductive Rch (nxt : List (List Nat)) : Nat → Nat → Prop
  | refl (a) : Rch nxt a a
  | step {a k b} (h : k ∈ nxt.getD a []) (hr : Rch nxt k b) : Rch nxt a b
theorem Rch.snoc {nxt a b k} (h : Rch nxt a b) (hk : k ∈ nxt.getD b []) : Rch nxt a k := by
  induction h with
  | refl a => exact .step hk (.refl _)
  | step h1 _ ih => exact .step h1 (ih hk)
def Cyc (nxt : List (List Nat)) (n : Nat) : Prop := ∃ c, c < n ∧ ∃ k ∈ nxt.getD c [], Rch nxt k c
def In (nxt : List (List Nat)) (n : Nat) : Prop := ∀ a, ∀ k ∈ nxt.getD a [], k < n
structure Inv (nxt : List (List Nat)) (n : Nat) (q : DS) : Prop where
  l1 : q.1.length = n
  l2 : q.2.length = n
  bl : ∀ b, q.1.getD b 0 = 2 → (∀ k ∈ nxt.getD b [], q.1.getD k 0 = 2) ∧ q.2.getD b 0 = mx q.2 (nxt.getD b [])
  wh : ∀ b, q.1.getD b 0 = 0 → q.2.getD b 0 = 0
  le : ∀ b, q.1.getD b 0 ≤ 2
/-- What a visit leaves. -/
structure Left (q q' : DS) (s : Nat) : Prop where
  keep : ∀ x, q.1.getD x 0 ≠ 0 → q'.1.getD x 0 = q.1.getD x 0
  keept : ∀ x, q.1.getD x 0 ≠ 0 → x ≠ s → q'.2.getD x 0 = q.2.getD x 0
  new : ∀ x, q.1.getD x 0 = 0 → q'.1.getD x 0 = 0 ∨ q'.1.getD x 0 = 2
  less : wz q' ≤ wz q
def VOk (nxt : List (List Nat)) (n : Nat) (v : DS → Nat → Bool × DS) (f : Nat) : Prop := ∀ q s, s < n → q.1.getD s 0 = 0 → wz q ≤ f → Inv nxt n q → (∀ g, q.1.getD g 0 = 1 → Rch nxt g s) →
  if (v q s).1 then Inv nxt n (v q s).2 ∧ (v q s).2.1.getD s 0 = 2 ∧ Left q (v q s).2 s ∧ wz (v q s).2 < wz q else Cyc nxt n
theorem goD_ok {nxt n v f s} (hin : In nxt n) (hs : s < n) (hv : VOk nxt n v f) : ∀ (ks pre : List Nat) (q : DS), nxt.getD s [] = pre ++ ks → q.1.getD s 0 = 1 → wz q ≤ f → Inv nxt n q → (∀ g, q.1.getD g 0 = 1 → Rch nxt g s) → (∀ k ∈ pre, q.1.getD k 0 = 2) → q.2.getD s 0 = mx q.2 pre →
    if (goD v s ks q).1 then Inv nxt n (goD v s ks q).2 ∧ Left q (goD v s ks q).2 s ∧ (∀ k ∈ nxt.getD s [], (goD v s ks q).2.1.getD k 0 = 2) ∧ (goD v s ks q).2.2.getD s 0 = mx (goD v s ks q).2.2 (nxt.getD s []) else Cyc nxt n := by
  intro ks
  induction ks with
  | nil =>
    intro pre q h1 h2 h3 h4 h5 h6 h7
    rw [List.append_nil] at h1
    simp only [goD, if_true]
    exact ⟨h4, ⟨fun _ _ => rfl, fun _ _ _ => rfl, fun _ h => .inl h, Nat.le_refl _⟩, by rw [h1]; exact h6, by rw [h1]; exact h7⟩
  | cons k ks ih =>
    intro pre q h1 h2 h3 h4 h5 h6 h7
    have hks : k ∈ nxt.getD s [] := by rw [h1]; simp
    have hkn := hin s k hks
    have h1' : nxt.getD s [] = (pre ++ [k]) ++ ks := by rw [h1]; simp
    rw [goD]
    by_cases c1 : q.1.getD k 0 = 1
    · rw [if_pos c1]
      simp only [Bool.false_eq_true, if_false]
      exact ⟨s, hs, k, hks, h5 k c1⟩
    · rw [if_neg c1]
      -- behind the successor: the state's number grows
      have next : ∀ q2 : DS, Inv nxt n q2 → q2.1.getD s 0 = 1 → wz q2 ≤ f → (∀ g, q2.1.getD g 0 = 1 → Rch nxt g s) → (∀ k ∈ pre, q2.1.getD k 0 = 2) → q2.1.getD k 0 = 2 → q2.2.getD s 0 = mx q2.2 pre → Left q q2 s →
          if (goD v s ks (q2.1, q2.2.set s (max (q2.2.getD s 0) (q2.2.getD k 0 + 1)))).1 then Inv nxt n (goD v s ks (q2.1, q2.2.set s (max (q2.2.getD s 0) (q2.2.getD k 0 + 1)))).2 ∧ Left q (goD v s ks (q2.1, q2.2.set s (max (q2.2.getD s 0) (q2.2.getD k 0 + 1)))).2 s ∧ (∀ k' ∈ nxt.getD s [], (goD v s ks (q2.1, q2.2.set s (max (q2.2.getD s 0) (q2.2.getD k 0 + 1)))).2.1.getD k' 0 = 2) ∧ (goD v s ks (q2.1, q2.2.set s (max (q2.2.getD s 0) (q2.2.getD k 0 + 1)))).2.2.getD s 0 = mx (goD v s ks (q2.1, q2.2.set s (max (q2.2.getD s 0) (q2.2.getD k 0 + 1)))).2.2 (nxt.getD s []) else Cyc nxt n := by
        intro q2 i1 i2 i3 i4 i5 i6 i7 i8
        generalize hm : max (q2.2.getD s 0) (q2.2.getD k 0 + 1) = m
        have hoth : ∀ x, x ≠ s → (q2.2.set s m).getD x 0 = q2.2.getD x 0 := fun x hx => by rw [gd_set, if_neg (fun h => hx h.1.symm)]
        have hsx : ∀ x, q2.1.getD x 0 = 2 → x ≠ s := fun x hx e => by rw [e, i2] at hx; omega
        have hi : Inv nxt n (q2.1, q2.2.set s m) := by
          refine ⟨i1.l1, by simpa using i1.l2, fun b hb => ?_, fun b hb => ?_, i1.le⟩
          · obtain ⟨e1, e2⟩ := i1.bl b hb
            refine ⟨e1, ?_⟩
            show (q2.2.set s m).getD b 0 = mx (q2.2.set s m) (nxt.getD b [])
            rw [hoth b (hsx b hb), e2]
            exact (mx_congr _ fun k hk => hoth k (hsx k (e1 k hk))).symm
          · have : b ≠ s := fun e => by rw [e] at hb; simp only at hb; omega
            show (q2.2.set s m).getD b 0 = 0
            rw [hoth b this]; exact i1.wh b hb
        have hmm : (q2.2.set s m).getD s 0 = mx (q2.2.set s m) (pre ++ [k]) := by
          rw [gd_set, if_pos ⟨rfl, by rw [i1.l2]; exact hs⟩, mx_snoc, hoth k (hsx k i6), mx_congr pre (fun x hx => hoth x (hsx x (i5 x hx))), ← i7, hm]
        have := ih (pre ++ [k]) (q2.1, q2.2.set s m) h1' i2 i3 hi i4 (fun x hx => by
          rcases List.mem_append.1 hx with hx | hx
          · exact i5 x hx
          · rw [List.mem_singleton.1 hx]; exact i6) hmm
        split
        · rename_i hc
          rw [if_pos hc] at this
          obtain ⟨j1, j2, j3, j4⟩ := this
          refine ⟨j1, ⟨fun x hx => ?_, fun x hx hxs => ?_, fun x hx => ?_, ?_⟩, j3, j4⟩
          · rw [j2.keep x (by show q2.1.getD x 0 ≠ 0; rw [i8.keep x hx]; exact hx)]; exact i8.keep x hx
          · rw [j2.keept x (by show q2.1.getD x 0 ≠ 0; rw [i8.keep x hx]; exact hx) hxs]
            show (q2.2.set s m).getD x 0 = _
            rw [hoth x hxs]; exact i8.keept x hx hxs
          · rcases i8.new x hx with h | h
            · exact j2.new x h
            · right; rw [j2.keep x (by show q2.1.getD x 0 ≠ 0; omega)]; exact h
          · exact Nat.le_trans j2.less i8.less
        · rename_i hc
          rw [if_neg hc] at this
          exact this
      by_cases c2 : q.1.getD k 0 = 0
      · rw [if_pos c2]
        have hvk := hv q k hkn c2 h3 h4 (fun g hg => (h5 g hg).snoc hks)
        by_cases c3 : (v q k).1 = true
        · rw [if_pos c3] at hvk ⊢
          obtain ⟨a1, a2, a3, a4⟩ := hvk
          have hsk : s ≠ k := fun e => by rw [← e, h2] at c2; omega
          have hpre : ∀ x ∈ pre, (v q k).2.1.getD x 0 = 2 := fun x hx => by rw [a3.keep x (by rw [h6 x hx]; omega)]; exact h6 x hx
          have hgray : ∀ g, (v q k).2.1.getD g 0 = 1 → q.1.getD g 0 = 1 := by
            intro g hg
            by_cases hz : q.1.getD g 0 = 0
            · rcases a3.new g hz with h | h <;> omega
            · rw [← a3.keep g hz]; exact hg
          refine next (v q k).2 a1 (by rw [a3.keep s (by omega)]; exact h2) (by omega) (fun g hg => h5 g (hgray g hg)) hpre a2 ?_ ⟨a3.keep, fun x hx _ => ?_, a3.new, a3.less⟩
          · rw [a3.keept s (by omega) hsk, h7]
            exact (mx_congr pre fun x hx => a3.keept x (by rw [h6 x hx]; omega) (fun e => by have h8 := h6 x hx; rw [e, c2] at h8; omega)).symm
          · by_cases e : x = k
            · rw [e] at hx; exact absurd c2 hx
            · exact a3.keept x hx e
        · rw [if_neg c3] at hvk ⊢
          simp only [Bool.false_eq_true, if_false]
          exact hvk
      · rw [if_neg c2]
        have c3 : q.1.getD k 0 = 2 := by have := h4.le k; omega
        exact next q h4 h2 h3 h5 h6 c3 h7 ⟨fun _ _ => rfl, fun _ _ _ => rfl, fun _ h => .inl h, Nat.le_refl _⟩
theorem visD_ok {nxt n} (hin : In nxt n) : ∀ f, VOk nxt n (visD nxt f) f := by
  intro f
  induction f with
  | zero =>
    intro q s hs h0 hz hi
    exfalso
    have : 0 < wz q := List.countP_pos_iff.2 ⟨q.1[s]'(by rw [hi.l1]; exact hs), List.getElem_mem _, by rw [← gd (d := 0), h0]; rfl⟩
    omega
  | succ f ih =>
    intro q s hs h0 hz hi hg
    have hsl : s < q.1.length := by rw [hi.l1]; exact hs
    have hws := wz_set hsl (show 1 ≠ 0 by omega)
    rw [if_pos h0] at hws
    have hp1 : ∀ x, (q.1.set s 1).getD x 0 = if s = x then 1 else q.1.getD x 0 := fun x => by
      rw [gd_set]
      by_cases e : s = x
      · subst e; rw [if_pos ⟨rfl, hsl⟩, if_pos rfl]
      · rw [if_neg (fun h => e h.1), if_neg e]
    have hi1 : Inv nxt n (q.1.set s 1, q.2) := by
      refine ⟨by simpa using hi.l1, hi.l2, fun b hb => ?_, fun b hb => ?_, fun b => ?_⟩
      · show (∀ k ∈ nxt.getD b [], (q.1.set s 1).getD k 0 = 2) ∧ _
        have hb : (q.1.set s 1).getD b 0 = 2 := hb
        rw [hp1] at hb
        split at hb
        · omega
        · obtain ⟨e1, e2⟩ := hi.bl b hb
          refine ⟨fun k hk => ?_, e2⟩
          rw [hp1, if_neg (fun e => by have := e1 k hk; rw [← e] at this; omega)]
          exact e1 k hk
      · have hb : (q.1.set s 1).getD b 0 = 0 := hb
        rw [hp1] at hb
        split at hb
        · omega
        · exact hi.wh b hb
      · show (q.1.set s 1).getD b 0 ≤ 2
        rw [hp1]
        split
        · omega
        · exact hi.le b
    have hgo := goD_ok hin hs ih (nxt.getD s []) [] (q.1.set s 1, q.2) rfl (by show (q.1.set s 1).getD s 0 = 1; rw [hp1, if_pos rfl]) (by show (q.1.set s 1).countP _ ≤ f; unfold wz at hz; omega) hi1 (fun g hg2 => by
      have hg2 : (q.1.set s 1).getD g 0 = 1 := hg2
      rw [hp1] at hg2
      split at hg2
      · rename_i e; rw [← e]; exact .refl _
      · exact hg g hg2) (by simp) (by show q.2.getD s 0 = 0; exact hi.wh s h0)
    rw [visD]
    generalize goD (visD nxt f) s (nxt.getD s []) (q.1.set s 1, q.2) = r at *
    by_cases c : r.1 = true
    · rw [if_pos c] at hgo ⊢
      obtain ⟨a1, a2, a3, a4⟩ := hgo
      have hrs : r.2.1.getD s 0 = 1 := by
        have := a2.keep s (by show (q.1.set s 1).getD s 0 ≠ 0; rw [hp1, if_pos rfl]; omega)
        rw [this]
        show (q.1.set s 1).getD s 0 = 1
        rw [hp1, if_pos rfl]
      have hrl : s < r.2.1.length := by rw [a1.l1]; exact hs
      have hp2 : ∀ x, (r.2.1.set s 2).getD x 0 = if s = x then 2 else r.2.1.getD x 0 := fun x => by
        rw [gd_set]
        by_cases e : s = x
        · subst e; rw [if_pos ⟨rfl, hrl⟩, if_pos rfl]
        · rw [if_neg (fun h => e h.1), if_neg e]
      simp only [if_true]
      have hlt : wz (r.2.1.set s 2, r.2.2) < wz q := by
        have h1 := wz_set hrl (show 2 ≠ 0 by omega)
        rw [if_neg (by omega)] at h1
        have h2 : wz r.2 ≤ wz (q.1.set s 1, q.2) := a2.less
        show (r.2.1.set s 2).countP _ < _
        unfold wz at h2 ⊢
        simp only at h2
        omega
      refine ⟨⟨by simpa using a1.l1, a1.l2, fun b hb => ?_, fun b hb => ?_, fun b => ?_⟩, by show (r.2.1.set s 2).getD s 0 = 2; rw [hp2, if_pos rfl], ⟨fun x hx => ?_, fun x hx hxs => ?_, fun x hx => ?_, Nat.le_of_lt hlt⟩, hlt⟩
      · have hb : (r.2.1.set s 2).getD b 0 = 2 := hb
        show (∀ k ∈ nxt.getD b [], (r.2.1.set s 2).getD k 0 = 2) ∧ r.2.2.getD b 0 = mx r.2.2 (nxt.getD b [])
        rw [hp2] at hb
        by_cases e : s = b
        · subst e
          refine ⟨fun k hk => ?_, a4⟩
          rw [hp2]
          split
          · rfl
          · exact a3 k hk
        · rw [if_neg e] at hb
          obtain ⟨e1, e2⟩ := a1.bl b hb
          refine ⟨fun k hk => ?_, e2⟩
          rw [hp2]
          split
          · rfl
          · exact e1 k hk
      · have hb : (r.2.1.set s 2).getD b 0 = 0 := hb
        rw [hp2] at hb
        split at hb
        · omega
        · exact a1.wh b hb
      · show (r.2.1.set s 2).getD b 0 ≤ 2
        rw [hp2]
        split
        · omega
        · exact a1.le b
      · show (r.2.1.set s 2).getD x 0 = _
        have e : s ≠ x := fun e => by rw [← e] at hx; exact hx h0
        rw [hp2, if_neg e, a2.keep x (by show (q.1.set s 1).getD x 0 ≠ 0; rw [hp1, if_neg e]; exact hx)]
        show (q.1.set s 1).getD x 0 = _
        rw [hp1, if_neg e]
      · have e : s ≠ x := fun e => hxs e.symm
        exact a2.keept x (by show (q.1.set s 1).getD x 0 ≠ 0; rw [hp1, if_neg e]; exact hx) hxs
      · show (r.2.1.set s 2).getD x 0 = 0 ∨ (r.2.1.set s 2).getD x 0 = 2
        rw [hp2]
        split
        · exact .inr rfl
        · rename_i e
          exact a2.new x (by show (q.1.set s 1).getD x 0 = 0; rw [hp1, if_neg e]; exact hx)
    · rw [if_neg c] at hgo ⊢
      simp only [Bool.false_eq_true, if_false]
      exact hgo
end Go.Proofs.YtpcckakchpblcaaGreatDoor
/- Going through a graph in depth: what stays so in all cases, whether it comes through or not; numbers stay small. In plain lists. -/
namespace Go.Proofs.YtpcckakchpblcaaGreatDoor
set_option linter.unusedSimpArgs false

def stepD (v : DS → Nat → Bool × DS) (s : Nat) (q : DS) (k : Nat) : Bool × DS := if q.1.getD k 0 = 1 then (false, q) else if q.1.getD k 0 = 0 then (if (v q k).1 then (true, ((v q k).2.1, (v q k).2.2.set s (max ((v q k).2.2.getD s 0) ((v q k).2.2.getD k 0 + 1)))) else (false, (v q k).2)) else (true, (q.1, q.2.set s (max (q.2.getD s 0) (q.2.getD k 0 + 1))))
theorem goD_cons {v s k ks q} : goD v s (k :: ks) q = if (stepD v s q k).1 then goD v s ks (stepD v s q k).2 else stepD v s q k := by
  rw [goD]
  unfold stepD
  by_cases h1 : q.1.getD k 0 = 1
  · simp only [if_pos h1, Bool.false_eq_true, if_false]
  · by_cases h2 : q.1.getD k 0 = 0
    · by_cases h3 : (v q k).1 = true
      · simp only [if_neg h1, if_pos h2, if_pos h3, if_true]
      · simp only [if_neg h1, if_pos h2, if_neg h3, Bool.false_eq_true, if_false]
    · simp only [if_neg h1, if_neg h2, if_true]
/-- How many states are done. -/
def cbk (q : DS) : Nat := q.1.countP fun x => decide (x = 2)
theorem cb_set {l : List Nat} {s x : Nat} (h : s < l.length) : (l.set s x).countP (fun y => decide (y = 2)) + (if l.getD s 0 = 2 then 1 else 0) = l.countP (fun y => decide (y = 2)) + (if x = 2 then 1 else 0) := by
  rw [List.countP_set h, gd h]
  by_cases h0 : l[s] = 2
  · have hp : 0 < l.countP fun y => decide (y = 2) := List.countP_pos_iff.2 ⟨_, List.getElem_mem h, by simp [h0]⟩
    simp only [h0, decide_true, if_true]
    by_cases hx : x = 2 <;> simp [hx] <;> omega
  · by_cases hx : x = 2 <;> simp [h0, hx]
def DBd (q : DS) : Prop := ∀ b, q.2.getD b 0 ≤ cbk q ∧ (q.1.getD b 0 = 2 → q.2.getD b 0 < cbk q)
structure Wk (n : Nat) (q q' : DS) : Prop where
  l1 : q'.1.length = n
  l2 : q'.2.length = n
  keep : ∀ x, q.1.getD x 0 ≠ 0 → q'.1.getD x 0 = q.1.getD x 0
  less : wz q' ≤ wz q
  bd : DBd q'
  two : ∀ x, q.1.getD x 0 ≤ 2 → q'.1.getD x 0 ≤ 2
theorem Wk.trans {n q q' q''} (h : Wk n q q') (h2 : Wk n q' q'') : Wk n q q'' :=
  ⟨h2.l1, h2.l2, fun x hx => by rw [h2.keep x (by rw [h.keep x hx]; exact hx)]; exact h.keep x hx, Nat.le_trans h2.less h.less, h2.bd, fun x hx => h2.two x (h.two x hx)⟩
theorem Wk.refl {n} {q : DS} (h1 : q.1.length = n) (h2 : q.2.length = n) (h3 : DBd q) : Wk n q q := ⟨h1, h2, fun _ _ => rfl, Nat.le_refl _, h3, fun _ h => h⟩
def VWk (n : Nat) (v : DS → Nat → Bool × DS) (f : Nat) : Prop := ∀ q s, s < n → q.1.getD s 0 = 0 → wz q ≤ f → q.1.length = n → q.2.length = n → DBd q → (∀ k, q.1.getD k 0 ≤ 2) → Wk n q (v q s).2 ∧ ((v q s).1 = true → (v q s).2.1.getD s 0 = 2)
theorem cbk_le {q : DS} : cbk q ≤ q.1.length := List.countP_le_length
theorem grow {n} {q : DS} {s k : Nat} (hs : s < n) (h1 : q.1.length = n) (h2 : q.2.length = n) (h3 : DBd q) (hs1 : q.1.getD s 0 = 1) (hk : q.2.getD k 0 < cbk q) : Wk n q (q.1, q.2.set s (max (q.2.getD s 0) (q.2.getD k 0 + 1))) := by
  refine ⟨h1, by simpa using h2, fun _ _ => rfl, Nat.le_refl _, fun b => ?_, fun _ h => h⟩
  show (q.2.set s _).getD b 0 ≤ cbk q ∧ (q.1.getD b 0 = 2 → (q.2.set s _).getD b 0 < cbk q)
  rw [gd_set]
  split
  · rename_i hb
    rw [← hb.1, hs1]
    have := (h3 s).1
    exact ⟨by omega, by omega⟩
  · exact h3 b
theorem stepD_wk {n v f s} {q : DS} {k} (hv : VWk n v f) (hs : s < n) (hk : k < n) (hf : wz q ≤ f) (h1 : q.1.length = n) (h2 : q.2.length = n) (h3 : DBd q) (hs1 : q.1.getD s 0 = 1) (hle : ∀ k, q.1.getD k 0 ≤ 2) : Wk n q (stepD v s q k).2 := by
  unfold stepD
  by_cases c1 : q.1.getD k 0 = 1
  · rw [if_pos c1]; exact .refl h1 h2 h3
  · rw [if_neg c1]
    by_cases c2 : q.1.getD k 0 = 0
    · rw [if_pos c2]
      obtain ⟨a1, a2⟩ := hv q k hk c2 hf h1 h2 h3 hle
      by_cases c3 : (v q k).1 = true
      · rw [if_pos c3]
        exact a1.trans (grow hs a1.l1 a1.l2 a1.bd (by rw [a1.keep s (by omega)]; exact hs1) ((a1.bd k).2 (a2 c3)))
      · rw [if_neg c3]; exact a1
    · rw [if_neg c2]
      exact grow hs h1 h2 h3 hs1 ((h3 k).2 (by have := hle k; omega))
theorem goD_wk {n v f s} (hv : VWk n v f) (hs : s < n) : ∀ (ks : List Nat) (q : DS), (∀ k ∈ ks, k < n) → wz q ≤ f → q.1.length = n → q.2.length = n → DBd q → q.1.getD s 0 = 1 → (∀ k, q.1.getD k 0 ≤ 2) → Wk n q (goD v s ks q).2 := by
  intro ks
  induction ks with
  | nil => intro q _ _ h1 h2 h3 _ _; exact .refl h1 h2 h3
  | cons k ks ih =>
    intro q hk hf h1 h2 h3 hs1 hle
    have w := stepD_wk hv hs (hk k (by simp)) hf h1 h2 h3 hs1 hle
    rw [goD_cons]
    split
    · exact w.trans (ih _ (fun x hx => hk x (by simp [hx])) (Nat.le_trans w.less hf) w.l1 w.l2 w.bd (by rw [w.keep s (by omega)]; exact hs1) (fun x => w.two x (hle x)))
    · exact w
/-- A state is marked as seen. -/
theorem mark1 {n} {q : DS} {s : Nat} (hs : s < n) (h1 : q.1.length = n) (h0 : q.1.getD s 0 = 0) (h3 : DBd q) : DBd (q.1.set s 1, q.2) ∧ wz (q.1.set s 1, q.2) + 1 = wz q ∧ (q.1.set s 1).getD s 0 = 1 := by
  have hsl : s < q.1.length := by omega
  have hw := wz_set hsl (show 1 ≠ 0 by omega)
  have hc := cb_set (x := 1) hsl
  rw [if_pos h0] at hw
  rw [if_neg (by omega), if_neg (by omega)] at hc
  refine ⟨fun b => ?_, hw, by rw [gd_set, if_pos ⟨rfl, hsl⟩]⟩
  show q.2.getD b 0 ≤ (q.1.set s 1).countP _ ∧ ((q.1.set s 1).getD b 0 = 2 → q.2.getD b 0 < (q.1.set s 1).countP _)
  have := h3 b
  unfold cbk at this
  rw [gd_set]
  split
  · omega
  · rw [show (q.1.set s 1).countP (fun x => decide (x = 2)) = q.1.countP fun x => decide (x = 2) by omega]; exact this
theorem mark2 {n} {q : DS} {s : Nat} (hs : s < n) (h1 : q.1.length = n) (h2 : q.2.length = n) (h0 : q.1.getD s 0 = 1) (h3 : DBd q) : DBd (q.1.set s 2, q.2) ∧ wz (q.1.set s 2, q.2) = wz q := by
  have hsl : s < q.1.length := by omega
  have hw := wz_set hsl (show 2 ≠ 0 by omega)
  have hc := cb_set (x := 2) hsl
  rw [if_neg (by omega)] at hw
  rw [if_neg (by omega), if_pos rfl] at hc
  refine ⟨fun b => ?_, hw⟩
  show q.2.getD b 0 ≤ (q.1.set s 2).countP _ ∧ ((q.1.set s 2).getD b 0 = 2 → q.2.getD b 0 < (q.1.set s 2).countP _)
  have := (h3 b).1
  unfold cbk at this
  exact ⟨by omega, fun _ => by omega⟩
theorem visD_wk {nxt n} (hin : In nxt n) : ∀ f, VWk n (visD nxt f) f := by
  intro f
  induction f with
  | zero =>
    intro q s hs h0 hz h1 _ _ _
    exfalso
    have : 0 < wz q := List.countP_pos_iff.2 ⟨q.1[s]'(by omega), List.getElem_mem _, by rw [← gd (d := 0), h0]; rfl⟩
    omega
  | succ f ih =>
    intro q s hs h0 hz h1 h2 h3 hle
    obtain ⟨b1, b2, b3⟩ := mark1 hs h1 h0 h3
    have hp1 : ∀ x, x ≠ s → (q.1.set s 1).getD x 0 = q.1.getD x 0 := fun x e => by rw [gd_set, if_neg (fun h => e h.1.symm)]
    have hle1 : ∀ x, (q.1.set s 1).getD x 0 ≤ 2 := fun x => by
      by_cases e : x = s
      · rw [e, b3]; omega
      · rw [hp1 x e]; exact hle x
    have w := goD_wk ih hs (nxt.getD s []) (q.1.set s 1, q.2) (hin s) (by omega) (by simpa using h1) h2 b1 b3 hle1
    rw [visD]
    generalize goD (visD nxt f) s (nxt.getD s []) (q.1.set s 1, q.2) = r at *
    have ws : r.2.1.getD s 0 = 1 := by rw [w.keep s (by show (q.1.set s 1).getD s 0 ≠ 0; omega)]; exact b3
    have k1 : ∀ x, q.1.getD x 0 ≠ 0 → r.2.1.getD x 0 = q.1.getD x 0 := fun x hx => by
      have e : x ≠ s := fun e => hx (by rw [e]; exact h0)
      have e2 := hp1 x e
      rw [w.keep x (by show (q.1.set s 1).getD x 0 ≠ 0; omega)]; exact e2
    have k2 : wz r.2 ≤ wz q := by have := w.less; omega
    have k3 : ∀ x, r.2.1.getD x 0 ≤ 2 := fun x => w.two x (hle1 x)
    by_cases c : r.1 = true
    · rw [if_pos c]
      obtain ⟨c1, c2⟩ := mark2 (q := r.2) hs w.l1 w.l2 ws w.bd
      have hp2 : ∀ x, x ≠ s → (r.2.1.set s 2).getD x 0 = r.2.1.getD x 0 := fun x e => by rw [gd_set, if_neg (fun h => e h.1.symm)]
      have hp3 : (r.2.1.set s 2).getD s 0 = 2 := by rw [gd_set, if_pos ⟨rfl, by rw [w.l1]; exact hs⟩]
      refine ⟨⟨by simpa using w.l1, w.l2, fun x hx => ?_, by show wz (r.2.1.set s 2, r.2.2) ≤ wz q; rw [show ((r.2.1.set s 2, r.2.2) : DS) = (r.2.1.set s 2, r.2.2) from rfl, c2]; exact k2, c1, fun x _ => ?_⟩, fun _ => hp3⟩
      · have e : x ≠ s := fun e => hx (by rw [e]; exact h0)
        show (r.2.1.set s 2).getD x 0 = _
        rw [hp2 x e, k1 x hx]
      · show (r.2.1.set s 2).getD x 0 ≤ 2
        by_cases e : x = s
        · rw [e, hp3]; omega
        · rw [hp2 x e]; exact k3 x
    · rw [if_neg c]
      exact ⟨⟨w.l1, w.l2, k1, k2, w.bd, fun x _ => k3 x⟩, fun h => by simp at h⟩
end Go.Proofs.YtpcckakchpblcaaGreatDoor
