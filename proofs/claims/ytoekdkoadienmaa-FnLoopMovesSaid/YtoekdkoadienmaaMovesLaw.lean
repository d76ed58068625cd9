/- The law FnLoopMoves answers true. For all bytes. -/
import Derived.Test.YtoekdkoadienmaaMirror
import Derived.Test.YtoekdkoadienmaaDraws
import Derived.Test.YtoekdkoadienmaaMoveS
namespace Go.Proofs.Ytoekdkoadienmaa
open Eng
attribute [local irreducible] OpS OpG FC FCr Rel Fl Ef DR Fs
set_option linter.unusedSimpArgs false
set_option maxHeartbeats 0
set_option maxRecDepth 100000

theorem stN_of {c : Nat} {left : Bool} (h : c % 2 ≠ stN 0 left % 2) : stN (c / 2) (!left) = c := by
  cases left
  · simp only [stN, Bool.not_false, if_true, Bool.false_eq_true, if_false] at h ⊢; omega
  · simp only [stN, Bool.not_true, if_true, Bool.false_eq_true, if_false] at h ⊢; omega
theorem stN_par (a : Nat) (left : Bool) : stN a left % 2 = stN 0 left % 2 := by unfold stN; split <;> omega
/-- What a told move leads to. -/
theorem move_to {L R : List (List Int)} {a : Int} {left : Bool} {c : Nat} (ho : okAt L R a = true) (hm : moveOf L R a left = some c) :
    okAt L R (placeOf (some c)) = true ∧ winner L R (placeOf (some c)) (!left) = winner L R a left ∧ (winner L R a left ≠ 0 → turnsTo L R (placeOf (some c)) (!left) = turnsTo L R a left - 1) := by
  obtain ⟨hg, b1, b2⟩ := okAt_good ho
  have hst := stN_lt (left := left) ho
  rw [finG_len] at hst
  have ha := altG hg
  have hne : (nxtG L R).getD (stN a.toNat left) [] ≠ [] := by
    intro h
    rw [moveOf, ho, if_pos rfl, h] at hm
    cases hm
  obtain ⟨c0, hc0, hc1, hc2, hc3⟩ := fin_move ha hst hne
  have e : moveOf L R a left = some c0 := by rw [moveOf, ho, if_pos rfl]; exact hc0
  rw [hm] at e
  cases e
  have hin := ha _ c hc1
  have hc : stN (c / 2) (!left) = c := stN_of (by rw [stN_par] at hin; exact hin.2)
  have hok : okAt L R ((c / 2 : Nat) : Int) = true := by unfold okAt; rw [hg]; simp; omega
  have hw : winner L R ((c / 2 : Nat) : Int) (!left) = ((finG L R).getD c (0, 0)).1 := by rw [winner, hok, if_pos rfl, Int.toNat_natCast, hc]
  have hw0 : winner L R a left = ((finG L R).getD (stN a.toNat left) (0, 0)).1 := by rw [winner, ho, if_pos rfl]
  have hfin : fin (nxtG L R) (2 * L.length) = finG L R := rfl
  rw [hfin] at hc2 hc3
  refine ⟨hok, by rw [show placeOf (some c) = ((c / 2 : Nat) : Int) from rfl, hw, hw0, hc2], fun hnz => ?_⟩
  rw [show placeOf (some c) = ((c / 2 : Nat) : Int) from rfl]
  rw [hw0] at hnz
  have h3 := hc3 hnz
  unfold turnsTo
  rw [ho, hok, Int.toNat_natCast, hc, hc2, h3]
  have h5 : (true && decide (((finG L R).getD (stN a.toNat left) (0, 0)).1 ≠ 0)) = true := by rw [Bool.true_and]; exact decide_eq_true hnz
  rw [if_pos h5, if_pos h5]
theorem move_none {L R : List (List Int)} {a : Int} {left : Bool} (ho : okAt L R a = true) (hm : moveOf L R a left = none) : winner L R a left ≠ 0 ∧ turnsTo L R a left = 0 := by
  obtain ⟨hg, b1, b2⟩ := okAt_good ho
  have hst := stN_lt (left := left) ho
  rw [finG_len] at hst
  have hne : (nxtG L R).getD (stN a.toNat left) [] = [] := by
    apply Classical.byContradiction
    intro h
    obtain ⟨c0, hc0, _⟩ := fin_move (altG hg) hst h
    have e : moveOf L R a left = some c0 := by rw [moveOf, ho, if_pos rfl]; exact hc0
    rw [hm] at e; cases e
  have hs := fin_stuck hst hne
  have hfin : fin (nxtG L R) (2 * L.length) = finG L R := rfl
  rw [hfin] at hs
  have h12 := mv12 (stN a.toNat left)
  unfold winner turnsTo
  rw [ho, hs]
  refine ⟨?_, ?_⟩
  · rw [if_pos rfl]; omega
  · split <;> rfl
theorem turns_rng {L R : List (List Int)} {a : Int} {left : Bool} (hg : goodLp L R = true) : 0 ≤ turnsTo L R a left ∧ turnsTo L R a left ≤ 1000000000000 := by
  have g := (goodN hg).len
  unfold turnsTo
  split
  · rcases fin_wf (nxtG L R) (2 * L.length) (stN a.toNat left) with h | ⟨_, h1, h2⟩
    · rw [show fin (nxtG L R) (2 * L.length) = finG L R from rfl] at h; rw [h]; decide
    · rw [show fin (nxtG L R) (2 * L.length) = finG L R from rfl] at h1 h2; omega
  · decide
theorem lawMoves_ok (code : List UInt8) : FCr Try.prog 12 [RYs code] (RVb true) := by
  obtain ⟨L, R, a, left, h1, h2, hD⟩ := drawMove_ok code
  have hB := rBig_ok code
  have hI := implMove_ok L R a left
  have hS := specMove_ok L R a left
  have hN := implWinIn_ok L R a left
  have hNs := specWinIn_ok L R a left
  have hW := implOutcome_ok L R a left
  have hW2 := implOutcome_ok L R (placeOf (moveOf L R a left)) (!left)
  have hN2 := implWinIn_ok L R (placeOf (moveOf L R a left)) (!left)
  cases ho : okAt L R a with
  | false =>
    have e1 : moveOf L R a left = none := by simp [moveOf, ho]
    have e2 : turnsTo L R a left = 0 := by simp [turnsTo, ho]
    rw [e1] at hI hS
    rw [ho, e2] at hN hNs
    rw [ho] at hW
    refine (fcr_in Try.func12 rfl (by simp only [Try.ntmps12, anys, List.length_cons, List.length_nil, Nat.reduceAdd, Nat.reduceSub, List.replicate_succ, List.replicate_zero, List.cons_append, List.nil_append] <;> rfl) ?_)
    repeat' first
      | refine w_seq ?_
      | refine w_region ?_
      | refine l_nil ?_
      | refine rt_n ?_
      | refine w_ret ?_
      | refine rt_ret ?_
      | refine w_skip ?_
      | refine w_cond_t rfl ?_
      | refine w_cond_f rfl ?_
      | refine w_cnd rfl (fun hc => ?_) (fun hc => ?_)
      | refine w_cd rfl (fun hc => ?_) (fun hc => ?_)
      | refine w_cn rfl (fun hc => ?_) (fun hc => ?_)
      | refine w_cond rfl (fun hc => ?_) (fun hc => ?_)
      | (refine l_o ?_; first | refine l_eqnil rfl (by kernel_rfl) (by intro b; simp only [nz]; rfl) (fun b hb => ?_) | refine l_op rfl (by first | (apply k_callf; first | exact ops_callf (hfc := hB) | exact ops_callf (hfc := hD) | exact ops_callf (hfc := hI) | exact ops_callf (hfc := hS) | exact ops_callf (hfc := hN) | exact ops_callf (hfc := hNs) | exact ops_callf (hfc := hW) | fail) | fail) (hk := ?_) | refine l_op (hk := ?_) | (refine l_g ?_; first | refine l_y rfl rfl rfl ?_ | refine l_n rfl rfl rfl rfl (hk := ?_) | refine l_n' rfl rfl rfl (hk := ?_) | refine l_spnd rfl rfl rfl (h1 := fun hc => ?_) (h2 := fun hc => ?_) | refine l_spd rfl rfl rfl (h1 := fun hc => ?_) (h2 := fun hc => ?_) | refine l_spn rfl rfl rfl (h1 := fun hc => ?_) (h2 := fun hc => ?_) | refine l_sp rfl rfl rfl (h1 := fun hc => ?_) (h2 := fun hc => ?_)))
    all_goals first
      | exact absurd rfl hc
      | ((refine en_one (hf := Try.results12) (h := ?_); simp only [lget]; first | refine congrArg RVb ?_ | refine congrArg RVi ?_ | skip); done)
  | true =>
    cases hm : moveOf L R a left with
    | none =>
      obtain ⟨n1, n2⟩ := move_none ho hm
      rw [hm] at hI hS
      rw [ho, n2] at hN hNs
      rw [ho] at hW
      generalize winner L R a left = w at *
      refine (fcr_in Try.func12 rfl (by simp only [Try.ntmps12, anys, List.length_cons, List.length_nil, Nat.reduceAdd, Nat.reduceSub, List.replicate_succ, List.replicate_zero, List.cons_append, List.nil_append] <;> rfl) ?_)
      repeat' first
        | refine w_seq ?_
        | refine w_region ?_
        | refine l_nil ?_
        | refine rt_n ?_
        | refine w_ret ?_
        | refine rt_ret ?_
        | refine w_skip ?_
        | refine w_cond_t rfl ?_
        | refine w_cond_f rfl ?_
        | refine w_cnd rfl (fun hc => ?_) (fun hc => ?_)
        | refine w_cd rfl (fun hc => ?_) (fun hc => ?_)
        | refine w_cn rfl (fun hc => ?_) (fun hc => ?_)
        | refine w_cond rfl (fun hc => ?_) (fun hc => ?_)
        | (refine l_o ?_; first | refine l_eqnil rfl (by kernel_rfl) (by intro b; simp only [nz]; rfl) (fun b hb => ?_) | refine l_op rfl (by first | (apply k_callf; first | exact ops_callf (hfc := hB) | exact ops_callf (hfc := hD) | exact ops_callf (hfc := hI) | exact ops_callf (hfc := hS) | exact ops_callf (hfc := hN) | exact ops_callf (hfc := hNs) | exact ops_callf (hfc := hW) | fail) | fail) (hk := ?_) | refine l_op (hk := ?_) | (refine l_g ?_; first | refine l_y rfl rfl rfl ?_ | refine l_n rfl rfl rfl rfl (hk := ?_) | refine l_n' rfl rfl rfl (hk := ?_) | refine l_spnd rfl rfl rfl (h1 := fun hc => ?_) (h2 := fun hc => ?_) | refine l_spd rfl rfl rfl (h1 := fun hc => ?_) (h2 := fun hc => ?_) | refine l_spn rfl rfl rfl (h1 := fun hc => ?_) (h2 := fun hc => ?_) | refine l_sp rfl rfl rfl (h1 := fun hc => ?_) (h2 := fun hc => ?_)))
      all_goals first
        | exact absurd rfl hc
        | exact absurd n1 hc
        | (exfalso; simp_all; done)
        | ((refine en_one (hf := Try.results12) (h := ?_); simp only [lget]; first | refine congrArg RVb ?_ | refine congrArg RVi ?_ | skip); all_goals simp [n1])
    | some c =>
      obtain ⟨m1, m2, m3⟩ := move_to ho hm
      obtain ⟨r1, r2⟩ := turns_rng (a := a) (left := left) (okAt_good ho).1
      rw [hm] at hI hS hW2 hN2
      rw [ho] at hN hNs hW
      rw [m1, m2] at hW2 hN2
      generalize winner L R a left = w at *
      generalize turnsTo L R a left = n at *
      generalize turnsTo L R (placeOf (some c)) (!left) = n2 at *
      generalize placeOf (some c) = to at *
      refine (fcr_in Try.func12 rfl (by simp only [Try.ntmps12, anys, List.length_cons, List.length_nil, Nat.reduceAdd, Nat.reduceSub, List.replicate_succ, List.replicate_zero, List.cons_append, List.nil_append] <;> rfl) ?_)
      repeat' first
        | refine w_seq ?_
        | refine w_region ?_
        | refine l_nil ?_
        | refine rt_n ?_
        | refine w_ret ?_
        | refine rt_ret ?_
        | refine w_skip ?_
        | refine w_cond_t rfl ?_
        | refine w_cond_f rfl ?_
        | refine w_cnd rfl (fun hc => ?_) (fun hc => ?_)
        | refine w_cd rfl (fun hc => ?_) (fun hc => ?_)
        | refine w_cn rfl (fun hc => ?_) (fun hc => ?_)
        | refine w_cond rfl (fun hc => ?_) (fun hc => ?_)
        | (refine l_o ?_; first | refine l_eqnil rfl (by kernel_rfl) (by intro b; simp only [nz]; rfl) (fun b hb => ?_) | refine l_op rfl (by first | (apply k_sub; first | exact ops_sub (n := 1) rfl rfl (by omega) (by omega) | fail) | (apply k_callf; first | exact ops_callf (hfc := hB) | exact ops_callf (hfc := hD) | exact ops_callf (hfc := hI) | exact ops_callf (hfc := hS) | exact ops_callf (hfc := hN) | exact ops_callf (hfc := hNs) | exact ops_callf (hfc := hW) | exact ops_callf (hfc := hW2) | exact ops_callf (hfc := hN2) | fail) | fail) (hk := ?_) | refine l_op (hk := ?_) | (refine l_g ?_; first | refine l_y rfl rfl rfl ?_ | refine l_n rfl rfl rfl rfl (hk := ?_) | refine l_n' rfl rfl rfl (hk := ?_) | refine l_spnd rfl rfl rfl (h1 := fun hc => ?_) (h2 := fun hc => ?_) | refine l_spd rfl rfl rfl (h1 := fun hc => ?_) (h2 := fun hc => ?_) | refine l_spn rfl rfl rfl (h1 := fun hc => ?_) (h2 := fun hc => ?_) | refine l_sp rfl rfl rfl (h1 := fun hc => ?_) (h2 := fun hc => ?_)))
      all_goals first
        | exact absurd rfl hc
        | (exfalso; simp at hc; done)
        | (exfalso; simp_all; done)
        | ((refine en_one (hf := Try.results12) (h := ?_); simp only [lget]; first | refine congrArg RVb ?_ | refine congrArg RVi ?_ | skip); all_goals first | rfl | (simp_all; done) | trace_state)
end Go.Proofs.Ytoekdkoadienmaa
