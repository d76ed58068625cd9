/- What the program tells of a solved loop: who wins, in how many moves, who holds out, the table. For all loops and places. -/
import Derived.Test.YtoekdkoadienmaaSolved
namespace Go.Proofs.Ytoekdkoadienmaa
open Eng
attribute [local irreducible] OpS OpG FC FCr Rel Fl Ef DR Fs
set_option linter.unusedSimpArgs false
set_option maxHeartbeats 0
set_option maxRecDepth 100000

/-- Who wins from a place; in how many moves. -/
def winner (L R : List (List Int)) (a : Int) (left : Bool) : Int := if okAt L R a then ((finG L R).getD (stN a.toNat left) (0, 0)).1 else 0
def turnsTo (L R : List (List Int)) (a : Int) (left : Bool) : Int := if okAt L R a && decide ((((finG L R).getD (stN a.toNat left) (0, 0)).1) ≠ 0) then ((finG L R).getD (stN a.toNat left) (0, 0)).2 else 0
theorem okAt_good {L R a} (h : okAt L R a = true) : goodLp L R = true ∧ 0 ≤ a ∧ a < L.length := by simp [okAt] at h; exact ⟨h.1.1, h.1.2, h.2⟩
theorem stN_lt {L R : List (List Int)} {a} {left} (h : okAt L R a = true) : stN a.toNat left < (finG L R).length := by
  have := okAt_good h
  rw [finG_len]; unfold stN; split <;> omega

theorem implOutcome_ok (L R : List (List Int)) (a : Int) (left : Bool) : FCr Try.prog 24 [RLp L R, RVi a, RVb left] (.tup [RVi (winner L R a left), RVb (okAt L R a)]) := by
  have hS := solved_ok L R a left
  cases ho : okAt L R a with
  | false =>
    rw [ho] at hS
    have h1 : winner L R a left = 0 := by simp [winner, ho]
    rw [h1]
    refine (fcr_in Try.func24 rfl (by simp only [Try.ntmps24, anys, List.length_cons, List.length_nil, Nat.reduceAdd, Nat.reduceSub, List.replicate_succ, List.replicate_zero, List.cons_append, List.nil_append] <;> rfl) ?_)
    repeat' first
      | refine w_seq ?_
      | refine w_region ?_
      | refine l_nil ?_
      | refine rt_n ?_
      | refine w_ret ?_
      | refine rt_ret ?_
      | refine w_skip ?_
      | refine w_cond_t rfl ?_
      | refine w_cond_f rfl ?_
      | refine w_cnd rfl (fun hc => ?_) (fun hc => ?_)
      | refine w_cd rfl (fun hc => ?_) (fun hc => ?_)
      | refine w_cn rfl (fun hc => ?_) (fun hc => ?_)
      | refine w_cond rfl (fun hc => ?_) (fun hc => ?_)
      | (refine l_o ?_; first | refine l_op rfl (by first | (apply k_callf; first | exact ops_callv (hfc := hS) | fail) | fail) (hk := ?_) | refine l_op (hk := ?_))
    refine en_end (hf := Try.results24) (hr := ?_); simp only [ne, nf, nl, nr, lget, reduceIte, Nat.reduceEqDiff]; first | rfl | refine congrArg RVb ?_ | refine congrArg RVi ?_ | skip
  | true =>
    have g := (goodN (okAt_good ho).1).len
    have hst := stN_lt (left := left) ho
    have hl := finG_len (L := L) (R := R)
    have h1 : winner L R a left = ((finG L R)[stN a.toNat left]).1 := by rw [winner, ho, if_pos rfl, gd hst]
    have h2 : slvB L R a = finG L R := by simp [slvB, ho]
    have h3 : slvS L R a left = stN a.toNat left := by simp [slvS, ho]
    rw [ho, h2, h3] at hS
    rw [h1]
    generalize stN a.toNat left = s at *
    generalize finG L R = fi at *
    refine (fcr_in Try.func24 rfl (by simp only [Try.ntmps24, anys, List.length_cons, List.length_nil, Nat.reduceAdd, Nat.reduceSub, List.replicate_succ, List.replicate_zero, List.cons_append, List.nil_append] <;> rfl) ?_)
    repeat' first
      | refine w_seq ?_
      | refine w_region ?_
      | refine l_nil ?_
      | refine rt_n ?_
      | refine w_ret ?_
      | refine rt_ret ?_
      | refine w_skip ?_
      | refine w_cond_t rfl ?_
      | refine w_cond_f rfl ?_
      | refine w_cnd rfl (fun hc => ?_) (fun hc => ?_)
      | refine w_cd rfl (fun hc => ?_) (fun hc => ?_)
      | refine w_cn rfl (fun hc => ?_) (fun hc => ?_)
      | refine w_cond rfl (fun hc => ?_) (fun hc => ?_)
      | (refine l_o ?_; first | refine l_op rfl (by first | (apply k_callf; first | exact ops_callv (hfc := hS) | fail) | fail) (hk := ?_) | refine l_op (hk := ?_))
    refine en_end (hf := Try.results24) (hr := ?_); simp only [ne, nf, nl, nr, lget, reduceIte, Nat.reduceEqDiff]; first | rfl | refine congrArg RVb ?_ | refine congrArg RVi ?_ | skip

theorem implWinIn_ok (L R : List (List Int)) (a : Int) (left : Bool) : FCr Try.prog 22 [RLp L R, RVi a, RVb left] (.tup [RVi (turnsTo L R a left), RVb (okAt L R a && decide (winner L R a left ≠ 0))]) := by
  have hS := solved_ok L R a left
  cases ho : okAt L R a with
  | false =>
    rw [ho] at hS
    have h1 : turnsTo L R a left = 0 := by simp [turnsTo, ho]
    rw [h1]
    refine (fcr_in Try.func22 rfl (by simp only [Try.ntmps22, anys, List.length_cons, List.length_nil, Nat.reduceAdd, Nat.reduceSub, List.replicate_succ, List.replicate_zero, List.cons_append, List.nil_append] <;> rfl) ?_)
    repeat' first
      | refine w_seq ?_
      | refine w_region ?_
      | refine l_nil ?_
      | refine rt_n ?_
      | refine w_ret ?_
      | refine rt_ret ?_
      | refine w_skip ?_
      | refine w_cond_t rfl ?_
      | refine w_cond_f rfl ?_
      | refine w_cnd rfl (fun hc => ?_) (fun hc => ?_)
      | refine w_cd rfl (fun hc => ?_) (fun hc => ?_)
      | refine w_cn rfl (fun hc => ?_) (fun hc => ?_)
      | refine w_cond rfl (fun hc => ?_) (fun hc => ?_)
      | (refine l_o ?_; first | refine l_eqnil rfl (by kernel_rfl) (by intro b; simp only [nz]; rfl) (fun b hb => ?_) | refine l_op rfl (by first | (apply k_callf; first | exact ops_callv (hfc := hS) | fail) | fail) (hk := ?_) | refine l_op (hk := ?_) | (refine l_g ?_; first | refine l_y rfl rfl rfl ?_ | refine l_n rfl rfl rfl rfl (hk := ?_) | refine l_n' rfl rfl rfl (hk := ?_) | refine l_spnd rfl rfl rfl (h1 := fun hc => ?_) (h2 := fun hc => ?_) | refine l_spd rfl rfl rfl (h1 := fun hc => ?_) (h2 := fun hc => ?_) | refine l_spn rfl rfl rfl (h1 := fun hc => ?_) (h2 := fun hc => ?_) | refine l_sp rfl rfl rfl (h1 := fun hc => ?_) (h2 := fun hc => ?_)))
    refine en_end (hf := Try.results22) (hr := ?_); simp only [ne, nf, nl, nr, lget, reduceIte, Nat.reduceEqDiff]; first | rfl | refine congrArg RVb ?_ | refine congrArg RVi ?_ | skip
  | true =>
    have g := (goodN (okAt_good ho).1).len
    have hst := stN_lt (left := left) ho
    have hl := finG_len (L := L) (R := R)
    have h0 : winner L R a left = ((finG L R)[stN a.toNat left]).1 := by rw [winner, ho, if_pos rfl, gd hst]
    have h1 : turnsTo L R a left = if ((finG L R)[stN a.toNat left]).1 ≠ 0 then ((finG L R)[stN a.toNat left]).2 else 0 := by rw [turnsTo, ho, gd hst]; simp
    have h2 : slvB L R a = finG L R := by simp [slvB, ho]
    have h3 : slvS L R a left = stN a.toNat left := by simp [slvS, ho]
    rw [ho, h2, h3] at hS
    rw [h0, h1]
    clear h0 h1
    generalize stN a.toNat left = s at *
    generalize finG L R = fi at *
    refine (fcr_in Try.func22 rfl (by simp only [Try.ntmps22, anys, List.length_cons, List.length_nil, Nat.reduceAdd, Nat.reduceSub, List.replicate_succ, List.replicate_zero, List.cons_append, List.nil_append] <;> rfl) ?_)
    repeat' first
      | refine w_seq ?_
      | refine w_region ?_
      | refine l_nil ?_
      | refine rt_n ?_
      | refine w_ret ?_
      | refine rt_ret ?_
      | refine w_skip ?_
      | refine w_cond_t rfl ?_
      | refine w_cond_f rfl ?_
      | refine w_cnd rfl (fun hc => ?_) (fun hc => ?_)
      | refine w_cd rfl (fun hc => ?_) (fun hc => ?_)
      | refine w_cn rfl (fun hc => ?_) (fun hc => ?_)
      | refine w_cond rfl (fun hc => ?_) (fun hc => ?_)
      | (refine l_o ?_; first | refine l_eqnil rfl (by kernel_rfl) (by intro b; simp only [nz]; rfl) (fun b hb => ?_) | refine l_op rfl (by first | (apply k_callf; first | exact ops_callv (hfc := hS) | fail) | fail) (hk := ?_) | refine l_op (hk := ?_) | (refine l_g ?_; first | refine l_y rfl rfl rfl ?_ | refine l_n rfl rfl rfl rfl (hk := ?_) | refine l_n' rfl rfl rfl (hk := ?_) | refine l_spnd rfl rfl rfl (h1 := fun hc => ?_) (h2 := fun hc => ?_) | refine l_spd rfl rfl rfl (h1 := fun hc => ?_) (h2 := fun hc => ?_) | refine l_spn rfl rfl rfl (h1 := fun hc => ?_) (h2 := fun hc => ?_) | refine l_sp rfl rfl rfl (h1 := fun hc => ?_) (h2 := fun hc => ?_)))
    · rw [if_neg (by simpa using hc), decide_eq_false (by simpa using hc)]
      refine en_end (hf := Try.results22) (hr := ?_); simp only [ne, nf, nl, nr, lget, reduceIte, Nat.reduceEqDiff]; first | rfl | refine congrArg RVb ?_ | refine congrArg RVi ?_ | skip
    · rw [if_pos hc, decide_eq_true hc]
      refine en_end (hf := Try.results22) (hr := ?_); simp only [ne, nf, nl, nr, lget, reduceIte, Nat.reduceEqDiff]; first | rfl | refine congrArg RVb ?_ | refine congrArg RVi ?_ | skip

theorem implHolds_ok (L R : List (List Int)) (a : Int) (left who : Bool) : FCr Try.prog 26 [RLp L R, RVi a, RVb left, RVb who] (.tup [RVb (okAt L R a && decide (winner L R a left ≠ if who then 2 else 1)), RVb (okAt L R a)]) := by
  have hS := implOutcome_ok L R a left
  cases ho : okAt L R a with
  | false =>
    rw [ho] at hS
    refine (fcr_in Try.func26 rfl (by simp only [Try.ntmps26, anys, List.length_cons, List.length_nil, Nat.reduceAdd, Nat.reduceSub, List.replicate_succ, List.replicate_zero, List.cons_append, List.nil_append] <;> rfl) ?_)
    repeat' first
      | refine w_seq ?_
      | refine w_region ?_
      | refine l_nil ?_
      | refine rt_n ?_
      | refine w_ret ?_
      | refine rt_ret ?_
      | refine w_skip ?_
      | refine w_cond_t rfl ?_
      | refine w_cond_f rfl ?_
      | refine w_cnd rfl (fun hc => ?_) (fun hc => ?_)
      | refine w_cd rfl (fun hc => ?_) (fun hc => ?_)
      | refine w_cn rfl (fun hc => ?_) (fun hc => ?_)
      | refine w_cond rfl (fun hc => ?_) (fun hc => ?_)
      | (refine l_o ?_; first | refine l_op rfl (by first | (apply k_callf; first | exact ops_callf (hfc := hS) | fail) | fail) (hk := ?_) | refine l_op (hk := ?_))
    refine en_end (hf := Try.results26) (hr := ?_); simp only [ne, nf, nl, nr, lget, reduceIte, Nat.reduceEqDiff]; first | rfl | refine congrArg RVb ?_ | refine congrArg RVi ?_ | skip
  | true =>
    rw [ho] at hS
    cases who with
    | true =>
      refine (fcr_in Try.func26 rfl (by simp only [Try.ntmps26, anys, List.length_cons, List.length_nil, Nat.reduceAdd, Nat.reduceSub, List.replicate_succ, List.replicate_zero, List.cons_append, List.nil_append] <;> rfl) ?_)
      repeat' first
        | refine w_seq ?_
        | refine w_region ?_
        | refine l_nil ?_
        | refine rt_n ?_
        | refine w_ret ?_
        | refine rt_ret ?_
        | refine w_skip ?_
        | refine w_cond_t rfl ?_
        | refine w_cond_f rfl ?_
        | refine w_cnd rfl (fun hc => ?_) (fun hc => ?_)
        | refine w_cd rfl (fun hc => ?_) (fun hc => ?_)
        | refine w_cn rfl (fun hc => ?_) (fun hc => ?_)
        | refine w_cond rfl (fun hc => ?_) (fun hc => ?_)
        | (refine l_o ?_; first | refine l_op rfl (by first | (apply k_callf; first | exact ops_callf (hfc := hS) | fail) | fail) (hk := ?_) | refine l_op (hk := ?_))
      refine en_end (hf := Try.results26) (hr := ?_); simp only [ne, nf, nl, nr, lget, reduceIte, Nat.reduceEqDiff]; first | rfl | refine congrArg RVb ?_ | refine congrArg RVi ?_ | skip
    | false =>
      refine (fcr_in Try.func26 rfl (by simp only [Try.ntmps26, anys, List.length_cons, List.length_nil, Nat.reduceAdd, Nat.reduceSub, List.replicate_succ, List.replicate_zero, List.cons_append, List.nil_append] <;> rfl) ?_)
      repeat' first
        | refine w_seq ?_
        | refine w_region ?_
        | refine l_nil ?_
        | refine rt_n ?_
        | refine w_ret ?_
        | refine rt_ret ?_
        | refine w_skip ?_
        | refine w_cond_t rfl ?_
        | refine w_cond_f rfl ?_
        | refine w_cnd rfl (fun hc => ?_) (fun hc => ?_)
        | refine w_cd rfl (fun hc => ?_) (fun hc => ?_)
        | refine w_cn rfl (fun hc => ?_) (fun hc => ?_)
        | refine w_cond rfl (fun hc => ?_) (fun hc => ?_)
        | (refine l_o ?_; first | refine l_op rfl (by first | (apply k_callf; first | exact ops_callf (hfc := hS) | fail) | fail) (hk := ?_) | refine l_op (hk := ?_))
      refine en_end (hf := Try.results26) (hr := ?_); simp only [ne, nf, nl, nr, lget, reduceIte, Nat.reduceEqDiff]; first | rfl | refine congrArg RVb ?_ | refine congrArg RVi ?_ | skip

/-- The table of who wins. -/
def tbl (L R : List (List Int)) : List Int := if goodLp L R then (finG L R).map (·.1) else []
theorem implTable_ok (L R : List (List Int)) : FCr Try.prog 28 [RLp L R] (.tup [OIs (tbl L R), RVb (goodLp L R)]) := by
  cases hg : goodLp L R with
  | false =>
    have h1 : tbl L R = [] := by simp [tbl, hg]
    rw [h1]
    refine (fcr_in Try.func28 rfl (by simp only [Try.ntmps28, anys, List.length_cons, List.length_nil, Nat.reduceAdd, Nat.reduceSub, List.replicate_succ, List.replicate_zero, List.cons_append, List.nil_append] <;> rfl) ?_)
    repeat' first
      | refine w_seq ?_
      | refine w_block ?_
      | refine rb_n ?_
      | refine rb_ret ?_
      | refine rb_eq ?_
      | refine rb_ne (by rfl) ?_
      | refine w_exit ?_
      | refine rt_exit ?_
      | refine w_region ?_
      | refine l_nil ?_
      | refine rt_n ?_
      | refine w_ret ?_
      | refine rt_ret ?_
      | refine w_skip ?_
      | refine w_cond_t rfl ?_
      | refine w_cond_f rfl ?_
      | refine w_cnd rfl (fun hc => ?_) (fun hc => ?_)
      | refine w_cd rfl (fun hc => ?_) (fun hc => ?_)
      | refine w_cn rfl (fun hc => ?_) (fun hc => ?_)
      | refine w_cond rfl (fun hc => ?_) (fun hc => ?_)
      | (refine l_o ?_; first | refine l_op rfl (by first | (apply k_callf; first | exact ops_callf (hfc := hg ▸ implGood_ok L R) | fail) | fail) (hk := ?_) | refine l_op (hk := ?_))
    refine en_endn ([.ow 1 [], RVb false]) (hf := Try.results28) (hr := ?_); simp only [ne]; first | rfl | skip
  | true =>
    have h1 : tbl L R = (finG L R).map (·.1) := by simp [tbl, hg]
    have hl := finG_len (L := L) (R := R)
    have g := (goodN hg).len
    have hN := newArenaG hg
    rw [h1]
    generalize finG L R = fi at *
    refine (fcr_in Try.func28 rfl (by simp only [Try.ntmps28, anys, List.length_cons, List.length_nil, Nat.reduceAdd, Nat.reduceSub, List.replicate_succ, List.replicate_zero, List.cons_append, List.nil_append] <;> rfl) ?_)
    repeat' first
      | refine w_seq ?_
      | refine w_block ?_
      | refine rb_n ?_
      | refine rb_ret ?_
      | refine rb_eq ?_
      | refine rb_ne (by rfl) ?_
      | refine w_exit ?_
      | refine rt_exit ?_
      | refine w_region ?_
      | refine l_nil ?_
      | refine rt_n ?_
      | refine w_ret ?_
      | refine rt_ret ?_
      | refine w_skip ?_
      | refine w_cond_t rfl ?_
      | refine w_cond_f rfl ?_
      | refine w_cnd rfl (fun hc => ?_) (fun hc => ?_)
      | refine w_cd rfl (fun hc => ?_) (fun hc => ?_)
      | refine w_cn rfl (fun hc => ?_) (fun hc => ?_)
      | refine w_cond rfl (fun hc => ?_) (fun hc => ?_)
      | (refine l_o ?_; first | refine l_op rfl (by first | (apply k_callf; first | exact ops_callf (hfc := hg ▸ implGood_ok L R) | exact ops_callv (hfc := hN) | fail) | fail) (hk := ?_) | refine l_op (hk := ?_))
    refine w_loopm (ι := Nat × List Int) (fun k => [(18, RVn k.1), (4, .ref 10 0 k.2.length), (10, .any)]) (fun k => [(1015, 1, (nxtG L R).map ONs), (2015, 2, fi.map RR), (10, 1, k.2.map RVi), (1, 2, [.agg [RIss L, RIss R]])]) (fun k => k.1 ≤ fi.length ∧ k.2 = (fi.take k.1).map (·.1)) (fun k => fi.length - k.1) (0, []) (h0 := ?_) (hs := ?_) (round := ?_)
    · simp
    · refine le_eq (by (repeat' first | exact .nil | refine .keep ?_ | refine .any ?_); first | done | fail) rfl rfl
    · intro ⟨k, m⟩ ⟨hk, hm⟩
      dsimp only at hk hm ⊢
      have hml : m.length = k := by rw [hm]; simp; omega
      repeat' first
        | refine w_seq ?_
        | refine w_block ?_
        | refine rb_n ?_
        | refine rb_ret ?_
        | refine rb_eq ?_
        | refine rb_ne (by rfl) ?_
        | refine w_exit ?_
        | refine rt_exit ?_
        | refine w_region ?_
        | refine l_nil ?_
        | refine rt_n ?_
        | refine w_ret ?_
        | refine rt_ret ?_
        | refine w_skip ?_
        | refine w_cond_t rfl ?_
        | refine w_cond_f rfl ?_
        | refine w_cnd rfl (fun hc => ?_) (fun hc => ?_)
        | refine w_cd rfl (fun hc => ?_) (fun hc => ?_)
        | refine w_cn rfl (fun hc => ?_) (fun hc => ?_)
        | refine w_cond rfl (fun hc => ?_) (fun hc => ?_)
        | (refine l_o ?_; first | refine l_op (hk := ?_))
      · refine rn_mk (k + 1, m ++ [fi[k].1]) ?_ (by first | omega | (dsimp only; omega)) (le_dropd 6 (by simp only [nz]; rfl) (by simp only [nz, reduceIte, Nat.reduceEqDiff] <;> rfl) (le_eq (by (repeat' first | exact .nil | refine .keep ?_ | refine .any ?_); first | done | fail) rfl rfl))
        exact ⟨by omega, by subst hm; rw [List.take_succ_eq_append_getElem (by omega), List.map_append]; rfl⟩
      · obtain rfl : k = fi.length := by omega
        rw [List.take_length] at hm
        subst hm
        refine en_end (hf := Try.results28) (hr := ?_); simp only [ne, nf, nl, nr, lget, reduceIte, Nat.reduceEqDiff]; first | rfl | refine congrArg RVb ?_ | refine congrArg RVi ?_ | skip
end Go.Proofs.Ytoekdkoadienmaa
