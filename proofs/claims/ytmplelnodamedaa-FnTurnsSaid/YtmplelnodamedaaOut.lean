/- What the program tells of a solved loop: who wins, in how many moves, who holds out, the table. For all loops and places. -/
import Derived.Test.YtmplelnodamedaaSolved
namespace Go.Proofs.Ytmplelnodamedaa
open Eng
attribute [local irreducible] OpS OpG FC FCr Rel Fl Ef DR Fs
set_option linter.unusedSimpArgs false
set_option maxHeartbeats 0
set_option maxRecDepth 100000

/-- Who wins from a place; in how many moves. -/
def winner (L R : List (List Int)) (a : Int) (left : Bool) : Int := if okAt L R a then ((finG L R).getD (stN a.toNat left) (0, 0)).1 else 0
def turnsTo (L R : List (List Int)) (a : Int) (left : Bool) : Int := if okAt L R a && decide ((((finG L R).getD (stN a.toNat left) (0, 0)).1) ≠ 0) then ((finG L R).getD (stN a.toNat left) (0, 0)).2 else 0
theorem okAt_good {L R a} (h : okAt L R a = true) : goodLp L R = true ∧ 0 ≤ a ∧ a < L.length := by simp [okAt] at h; exact ⟨h.1.1, h.1.2, h.2⟩
theorem stN_lt {L R : List (List Int)} {a} {left} (h : okAt L R a = true) : stN a.toNat left < (finG L R).length := by
  have := okAt_good h
  rw [finG_len]; unfold stN; split <;> omega

theorem implOutcome_ok (L R : List (List Int)) (a : Int) (left : Bool) : FCr Try.prog 12 [RLp L R, RVi a, RVb left] (.tup [RVi (winner L R a left), RVb (okAt L R a)]) := by
  have hS := solved_ok L R a left
  cases ho : okAt L R a with
  | false =>
    rw [ho] at hS
    have h1 : winner L R a left = 0 := by simp [winner, ho]
    rw [h1]
    refine (fcr_in Try.func12 rfl (by simp only [Try.ntmps12, anys, List.length_cons, List.length_nil, Nat.reduceAdd, Nat.reduceSub, List.replicate_succ, List.replicate_zero, List.cons_append, List.nil_append] <;> rfl) ?_)
    repeat' first
      | refine w_seq ?_
      | refine w_region ?_
      | refine l_nil ?_
      | refine rt_n ?_
      | refine w_ret ?_
      | refine rt_ret ?_
      | refine w_skip ?_
      | refine w_cond_t rfl ?_
      | refine w_cond_f rfl ?_
      | refine w_cnd rfl (fun hc => ?_) (fun hc => ?_)
      | refine w_cd rfl (fun hc => ?_) (fun hc => ?_)
      | refine w_cn rfl (fun hc => ?_) (fun hc => ?_)
      | refine w_cond rfl (fun hc => ?_) (fun hc => ?_)
      | (refine l_o ?_; first | refine l_op rfl (by first | (apply k_callf; first | exact ops_callv (hfc := hS) | fail) | fail) (hk := ?_) | refine l_op (hk := ?_))
    refine en_end (hf := Try.results12) (hr := ?_); simp only [ne, nf, nl, nr, lget, reduceIte, Nat.reduceEqDiff]; first | rfl | refine congrArg RVb ?_ | refine congrArg RVi ?_ | skip
  | true =>
    have g := (goodN (okAt_good ho).1).len
    have hst := stN_lt (left := left) ho
    have hl := finG_len (L := L) (R := R)
    have h1 : winner L R a left = ((finG L R)[stN a.toNat left]).1 := by rw [winner, ho, if_pos rfl, gd hst]
    have h2 : slvB L R a = finG L R := by simp [slvB, ho]
    have h3 : slvS L R a left = stN a.toNat left := by simp [slvS, ho]
    rw [ho, h2, h3] at hS
    rw [h1]
    generalize stN a.toNat left = s at *
    generalize finG L R = fi at *
    refine (fcr_in Try.func12 rfl (by simp only [Try.ntmps12, anys, List.length_cons, List.length_nil, Nat.reduceAdd, Nat.reduceSub, List.replicate_succ, List.replicate_zero, List.cons_append, List.nil_append] <;> rfl) ?_)
    repeat' first
      | refine w_seq ?_
      | refine w_region ?_
      | refine l_nil ?_
      | refine rt_n ?_
      | refine w_ret ?_
      | refine rt_ret ?_
      | refine w_skip ?_
      | refine w_cond_t rfl ?_
      | refine w_cond_f rfl ?_
      | refine w_cnd rfl (fun hc => ?_) (fun hc => ?_)
      | refine w_cd rfl (fun hc => ?_) (fun hc => ?_)
      | refine w_cn rfl (fun hc => ?_) (fun hc => ?_)
      | refine w_cond rfl (fun hc => ?_) (fun hc => ?_)
      | (refine l_o ?_; first | refine l_op rfl (by first | (apply k_callf; first | exact ops_callv (hfc := hS) | fail) | fail) (hk := ?_) | refine l_op (hk := ?_))
    refine en_end (hf := Try.results12) (hr := ?_); simp only [ne, nf, nl, nr, lget, reduceIte, Nat.reduceEqDiff]; first | rfl | refine congrArg RVb ?_ | refine congrArg RVi ?_ | skip

/-- The table of who wins. -/
def tbl (L R : List (List Int)) : List Int := if goodLp L R then (finG L R).map (·.1) else []
end Go.Proofs.Ytmplelnodamedaa
