/- The move that the reference tells of a loop: the same as the program's. For all loops and places. -/
import Derived.Test.YtmplelnodamedaaMove
namespace Go.Proofs.Ytmplelnodamedaa
open Eng
attribute [local irreducible] OpS OpG FC FCr Rel Fl Ef DR Fs
set_option linter.unusedSimpArgs false
set_option maxHeartbeats 0
set_option maxRecDepth 100000

/-- The reference's choice, by places. -/
def sBst (st mvs : List Int) (mine : Int) (sd : Nat → Nat) : List Nat → Option Nat → Option Nat
  | [], b => b
  | x :: xs, b => if mine = 0 ∧ st.getD (sd x) 0 ≠ 0 then sBst st mvs mine sd xs b else if mine = 1 ∧ st.getD (sd x) 0 ≠ 2 then sBst st mvs mine sd xs b else match b with
    | none => sBst st mvs mine sd xs (some x)
    | some c => if mine = 1 ∧ mvs.getD (sd x) 0 < mvs.getD (sd c) 0 then sBst st mvs mine sd xs (some x) else if mine = 2 ∧ mvs.getD (sd x) 0 > mvs.getD (sd c) 0 then sBst st mvs mine sd xs (some x) else sBst st mvs mine sd xs (some c)
theorem sBst_none (st mvs mine sd x xs) : sBst st mvs mine sd (x :: xs) none = if mine = 0 ∧ st.getD (sd x) 0 ≠ 0 then sBst st mvs mine sd xs none else if mine = 1 ∧ st.getD (sd x) 0 ≠ 2 then sBst st mvs mine sd xs none else sBst st mvs mine sd xs (some x) := rfl
theorem sBst_some (st mvs mine sd x xs c) : sBst st mvs mine sd (x :: xs) (some c) = if mine = 0 ∧ st.getD (sd x) 0 ≠ 0 then sBst st mvs mine sd xs (some c) else if mine = 1 ∧ st.getD (sd x) 0 ≠ 2 then sBst st mvs mine sd xs (some c) else
    if mine = 1 ∧ mvs.getD (sd x) 0 < mvs.getD (sd c) 0 then sBst st mvs mine sd xs (some x) else if mine = 2 ∧ mvs.getD (sd x) 0 > mvs.getD (sd c) 0 then sBst st mvs mine sd xs (some x) else sBst st mvs mine sd xs (some c) := rfl
/-- Both choices are the same. -/
theorem sBst_eq {n : Nat} {res : List (Int × Int)} {q : List Int × List Int} {j : Nat} {t : Int} (h : Tells n res q) (hw : Wf res t) (hj : j < n) {sd : Nat → Nat} : ∀ (T : List Nat) (b : Option Nat),
    (∀ x ∈ T, sd x < n ∧ sd x % 2 ≠ j % 2) → (∀ c, b = some c → sd c < n) → ((res.getD j (0, 0)).1 = 3 - mv j → ∀ x ∈ T, (res.getD (sd x) (0, 0)).1 = 3 - mv j) →
    (sBst q.1 q.2 (q.1.getD j 0) sd T b).map sd = bst res (res.getD j (0, 0)).1 (mv j) (T.map sd) (b.map sd) := by
  have h12 := mv12 j
  have hst := h.st j hj
  have hwj := hw j
  intro T
  induction T with
  | nil => intro b _ _ _; cases b <;> rfl
  | cons x xs ih =>
    intro b hT hb hl
    have hx := hT x (by simp)
    have hxs := h.st _ hx.1
    have hxm := h.mvs _ hx.1
    have hwx := hw (sd x)
    have hlx := fun e => hl e x (by simp)
    have ih := fun b hb => ih b (fun y hy => hT y (by simp [hy])) hb (fun e y hy => hl e y (by simp [hy]))
    have hsk : ((q.1.getD j 0 = 0 ∧ q.1.getD (sd x) 0 ≠ 0) ∨ (q.1.getD j 0 = 1 ∧ q.1.getD (sd x) 0 ≠ 2)) ↔ (res.getD (sd x) (0, 0)).1 ≠ (res.getD j (0, 0)).1 := by
      rw [hst, hxs]
      simp only [stc, mv] at *
      grind
    have hm1 : q.1.getD j 0 = 1 ↔ (res.getD j (0, 0)).1 = mv j := by
      rw [hst]
      simp only [stc, mv] at *
      grind
    have hm2 : q.1.getD j 0 = 2 ↔ (res.getD j (0, 0)).1 = 3 - mv j := by
      rw [hst]
      simp only [stc, mv] at *
      grind
    rw [List.map_cons, bst_cons]
    cases b with
    | none =>
      rw [sBst_none]
      by_cases c : (res.getD (sd x) (0, 0)).1 ≠ (res.getD j (0, 0)).1
      · rw [if_pos c]
        rcases hsk.2 c with c2 | c2
        · rw [if_pos c2]; exact ih none hb
        · rw [if_neg (fun c3 => by omega), if_pos c2]; exact ih none hb
      · rw [if_neg c, if_neg (fun c2 => c (hsk.1 (.inl c2))), if_neg (fun c2 => c (hsk.1 (.inr c2)))]
        exact ih (some x) (fun c hc => by cases hc; exact hx.1)
    | some d =>
      have hd := hb d rfl
      have hdm := h.mvs _ hd
      rw [sBst_some]
      by_cases c : (res.getD (sd x) (0, 0)).1 ≠ (res.getD j (0, 0)).1
      · rw [if_pos c]
        rcases hsk.2 c with c2 | c2
        · rw [if_pos c2]; exact ih (some d) hb
        · rw [if_neg (fun c3 => by omega), if_pos c2]; exact ih (some d) hb
      · rw [if_neg c, if_neg (fun c2 => c (hsk.1 (.inl c2))), if_neg (fun c2 => c (hsk.1 (.inr c2)))]
        rw [hxm, hdm]
        dsimp only [Option.map_some]
        by_cases e : ((res.getD j (0, 0)).1 = mv j ∧ (res.getD (sd x) (0, 0)).2 < (res.getD (sd d) (0, 0)).2) ∨ ((res.getD j (0, 0)).1 = 3 - mv j ∧ (res.getD (sd x) (0, 0)).2 > (res.getD (sd d) (0, 0)).2)
        · rw [if_pos e]
          rcases e with e | e
          · rw [if_pos ⟨hm1.2 e.1, e.2⟩]; exact ih (some x) (fun c hc => by cases hc; exact hx.1)
          · rw [if_neg (fun c3 => by have := hm1.1 c3.1; omega), if_pos ⟨hm2.2 e.1, e.2⟩]; exact ih (some x) (fun c hc => by cases hc; exact hx.1)
        · rw [if_neg e, if_neg (fun c3 => e (.inl ⟨hm1.1 c3.1, c3.2⟩)), if_neg (fun c3 => e (.inr ⟨hm2.1 c3.1, c3.2⟩))]
          exact ih (some d) hb

/-- The places that one may go to, and the states that these are. -/
theorem succsG {L R} {n : Nat} {left : Bool} (hg : goodLp L R = true) (hn : n < L.length) : ∃ T : List Nat, (nxtG L R).getD (stN n left) [] = T.map (fun x => stN x (!left)) ∧ T.length ≤ 24 ∧ (∀ x ∈ T, x < L.length) ∧ FCr Try.prog 66 [RLp L R, RVn n, RVb left] (RNs T) := by
  have g := goodN hg
  have hl := g.len
  have h1 : n < (toN L).length := by rw [toN_len]; exact hn
  have h2 : n < (toN R).length := by rw [toN_len, g.lenR]; exact hn
  have hW := l25Who_ok (toN L) (toN R) n left h1 h2
  rw [← g.eL, ← g.eR] at hW
  have hat := nxtTo_at (toN L) (toN R) (toN L).length (stN n left) (by unfold stN; split <;> omega)
  cases left with
  | true =>
    have e : stN n true = 2 * n := rfl
    rw [e, if_pos (by omega), show 2 * n / 2 = n by omega, gd h1] at hat
    refine ⟨(toN L)[n], ?_, g.lL _ (List.getElem_mem h1), fun x hx => ?_, hW⟩
    · rw [nxtG, nxtOf, e, hat]; rfl
    · have := g.inside.2.1 _ (List.getElem_mem h1) x hx; rw [toN_len] at this; exact this
  | false =>
    have e : stN n false = 2 * n + 1 := rfl
    rw [e, if_neg (by omega), show (2 * n + 1) / 2 = n by omega, gd h2] at hat
    refine ⟨(toN R)[n], ?_, g.lR _ (List.getElem_mem h2), fun x hx => ?_, hW⟩
    · rw [nxtG, nxtOf, e, hat]; rfl
    · have := g.inside.2.2 _ (List.getElem_mem h2) x hx; rw [toN_len] at this; exact this
theorem l1Most_ok (a b : Int) : FCr Try.prog 67 [RVi a, RVi b] (RVi (if b < a then a else b)) := by
  refine (fcr_in Try.func67 rfl (by simp only [Try.ntmps67, anys, List.length_cons, List.length_nil, Nat.reduceAdd, Nat.reduceSub, List.replicate_succ, List.replicate_zero, List.cons_append, List.nil_append] <;> rfl) ?_)
  repeat' first
    | refine w_seq ?_
    | refine w_region ?_
    | refine l_nil ?_
    | refine rt_n ?_
    | refine w_ret ?_
    | refine rt_ret ?_
    | refine w_skip ?_
    | refine w_cond_t rfl ?_
    | refine w_cond_f rfl ?_
    | refine w_cnd rfl (fun hc => ?_) (fun hc => ?_)
    | refine w_cd rfl (fun hc => ?_) (fun hc => ?_)
    | refine w_cn rfl (fun hc => ?_) (fun hc => ?_)
    | refine w_cond rfl (fun hc => ?_) (fun hc => ?_)
    | (refine l_o ?_; first | refine l_op (hk := ?_))
  · rw [if_pos hc]
    refine en_one (hf := Try.results67) (h := ?_); simp only [lget]; first | refine congrArg RVb ?_ | refine congrArg RVi ?_ | skip
  · rw [if_neg hc]
    refine en_one (hf := Try.results67) (h := ?_); simp only [lget]; first | refine congrArg RVb ?_ | refine congrArg RVi ?_ | skip
theorem stN_half (x : Nat) (left : Bool) : stN x left / 2 = x := by unfold stN; split <;> omega

end Go.Proofs.Ytmplelnodamedaa
