/- What the reference tells of a loop: who wins, in how many moves, who holds out, the table. The same as the program. For all loops and places. -/
import Derived.Test.YtoekdkoadienmaaOut
import Derived.Test.YtoekdkoadienmaaSpecSolve
namespace Go.Proofs.Ytoekdkoadienmaa
open Eng
attribute [local irreducible] OpS OpG FC FCr Rel Fl Ef DR Fs
set_option linter.unusedSimpArgs false
set_option maxHeartbeats 0
set_option maxRecDepth 100000

/-- What the reference solves of a loop. -/
def sG (L R : List (List Int)) : List Int × List Int := sRounds (nxtG L R) (2 * L.length) (2 * L.length + 1)
theorem tellsG {L R} (h : goodLp L R = true) : Tells (2 * L.length) (finG L R) (sG L R) := by
  have ha := nxtOf_alt (goodN h).inside
  rw [toN_len] at ha
  exact rounds_tell ha _
theorem finG_wf (L R) : Wf (finG L R) ((2 * L.length + 1 : Nat) : Int) := fin_wf _ _
theorem solveG {L R} (h : goodLp L R = true) : FCr Try.prog 54 [RLp L R] (.tup [OIs (sG L R).1, OIs (sG L R).2]) := by
  have g := goodN h
  have hN := l25Solve_ok (toN L) (toN R) g.inside (by rw [toN_len]; have := g.len; omega) (fun l hl => by have := g.lL l hl; omega) (fun l hl => by have := g.lR l hl; omega)
  rw [← g.eL, ← g.eR, toN_len] at hN
  exact hN
def told (s : Int) (left : Bool) : Int := if s = 0 then 0 else if decide (s = 1) = left then 1 else 2
theorem told_eq {L R} (h : goodLp L R = true) {j : Nat} (hj : j < 2 * L.length) {left : Bool} (hl : left = decide (j % 2 = 0)) : told ((sG L R).1.getD j 0) left = ((finG L R).getD j (0, 0)).1 := by
  have t := (tellsG h).st j hj
  have w := finG_wf L R j
  rw [t]
  simp only [told, stc, mv] at *
  subst hl
  generalize (finG L R).getD j (0, 0) = r at *
  have h2 : j % 2 = 0 ∨ j % 2 = 1 := by omega
  rcases w with rfl | ⟨h1 | h1, _⟩
  · rfl
  · rw [h1]; rcases h2 with h2 | h2 <;> simp [h2]
  · rw [h1]; rcases h2 with h2 | h2 <;> simp [h2]
theorem stN_left (a : Nat) (left : Bool) : left = decide (stN a left % 2 = 0) := by
  unfold stN; cases left
  · simp; try omega
  · simp
theorem sG_zero {L R} (h : goodLp L R = true) {j : Nat} (hj : j < 2 * L.length) : (sG L R).1.getD j 0 = 0 ↔ ((finG L R).getD j (0, 0)).1 = 0 := by
  have t := (tellsG h).st j hj
  rw [t]
  generalize ((finG L R).getD j (0, 0)).1 = x
  unfold stc
  split
  · simp [*]
  · split
    · have := mv12 j
      constructor
      · intro h; omega
      · intro h; omega
    · simp [*]

theorem specOutcome_ok (L R : List (List Int)) (a : Int) (left : Bool) : FCr Try.prog 23 [RLp L R, RVi a, RVb left] (.tup [RVi (winner L R a left), RVb (okAt L R a)]) := by
  have hA := l25At_ok L R a
  cases ho : okAt L R a with
  | false =>
    rw [ho] at hA
    have h1 : winner L R a left = 0 := by simp [winner, ho]
    rw [h1]
    refine (fcr_in Try.func23 rfl (by simp only [Try.ntmps23, anys, List.length_cons, List.length_nil, Nat.reduceAdd, Nat.reduceSub, List.replicate_succ, List.replicate_zero, List.cons_append, List.nil_append] <;> rfl) ?_)
    repeat' first
      | refine w_seq ?_
      | refine w_region ?_
      | refine l_nil ?_
      | refine rt_n ?_
      | refine w_ret ?_
      | refine rt_ret ?_
      | refine w_skip ?_
      | refine w_cond_t rfl ?_
      | refine w_cond_f rfl ?_
      | refine w_cnd rfl (fun hc => ?_) (fun hc => ?_)
      | refine w_cd rfl (fun hc => ?_) (fun hc => ?_)
      | refine w_cn rfl (fun hc => ?_) (fun hc => ?_)
      | refine w_cond rfl (fun hc => ?_) (fun hc => ?_)
      | (refine l_o ?_; first | refine l_op rfl (by first | (apply k_callf; first | exact ops_callf (hfc := hA) | fail) | fail) (hk := ?_) | refine l_op (hk := ?_))
    refine en_end (hf := Try.results23) (hr := ?_); simp only [ne, nf, nl, nr, lget, reduceIte, Nat.reduceEqDiff]; first | rfl | refine congrArg RVb ?_ | refine congrArg RVi ?_ | skip
  | true =>
    rw [ho] at hA
    obtain ⟨hg, hb1, hb2⟩ := okAt_good ho
    have g := (goodN hg).len
    have hst := stN_lt (left := left) ho
    rw [finG_len] at hst
    have hT := l25Told_ok ((sG L R).1.getD (stN a.toNat left) 0) left
    have hq := told_eq hg hst (stN_left a.toNat left)
    have hS := solveG hg
    have hlen := (tellsG hg).l1
    have h1 : winner L R a left = told ((sG L R).1.getD (stN a.toNat left) 0) left := by rw [winner, ho, if_pos rfl, hq]
    rw [h1]
    clear hq h1
    obtain ⟨n, rfl⟩ := Int.eq_ofNat_of_zero_le hb1
    rw [Int.toNat_natCast] at *
    have hD := l25Side_ok n left (by omega)
    generalize stN n left = s at *
    generalize sG L R = q at *
    rw [gd (show s < q.1.length by omega)] at hT ⊢
    unfold told
    refine (fcr_in Try.func23 rfl (by simp only [Try.ntmps23, anys, List.length_cons, List.length_nil, Nat.reduceAdd, Nat.reduceSub, List.replicate_succ, List.replicate_zero, List.cons_append, List.nil_append] <;> rfl) ?_)
    repeat' first
      | refine w_seq ?_
      | refine w_region ?_
      | refine l_nil ?_
      | refine rt_n ?_
      | refine w_ret ?_
      | refine rt_ret ?_
      | refine w_skip ?_
      | refine w_cond_t rfl ?_
      | refine w_cond_f rfl ?_
      | refine w_cnd rfl (fun hc => ?_) (fun hc => ?_)
      | refine w_cd rfl (fun hc => ?_) (fun hc => ?_)
      | refine w_cn rfl (fun hc => ?_) (fun hc => ?_)
      | refine w_cond rfl (fun hc => ?_) (fun hc => ?_)
      | (refine l_o ?_; first | refine l_op rfl (by first | (apply k_callf; first | exact ops_callf (hfc := hA) | exact ops_callf (hfc := hS) | exact ops_callf (hfc := hD) | exact ops_callf (hfc := hT) | fail) | fail) (hk := ?_) | refine l_op (hk := ?_))
    refine en_end (hf := Try.results23) (hr := ?_); simp only [ne, nf, nl, nr, lget, reduceIte, Nat.reduceEqDiff]; first | rfl | refine congrArg RVb ?_ | refine congrArg RVi ?_ | skip

theorem specWinIn_ok (L R : List (List Int)) (a : Int) (left : Bool) : FCr Try.prog 21 [RLp L R, RVi a, RVb left] (.tup [RVi (turnsTo L R a left), RVb (okAt L R a && decide (winner L R a left ≠ 0))]) := by
  have hA := l25At_ok L R a
  cases ho : okAt L R a with
  | false =>
    rw [ho] at hA
    have h1 : turnsTo L R a left = 0 := by simp [turnsTo, ho]
    rw [h1]
    refine (fcr_in Try.func21 rfl (by simp only [Try.ntmps21, anys, List.length_cons, List.length_nil, Nat.reduceAdd, Nat.reduceSub, List.replicate_succ, List.replicate_zero, List.cons_append, List.nil_append] <;> rfl) ?_)
    repeat' first
      | refine w_seq ?_
      | refine w_region ?_
      | refine l_nil ?_
      | refine rt_n ?_
      | refine w_ret ?_
      | refine rt_ret ?_
      | refine w_skip ?_
      | refine w_cond_t rfl ?_
      | refine w_cond_f rfl ?_
      | refine w_cnd rfl (fun hc => ?_) (fun hc => ?_)
      | refine w_cd rfl (fun hc => ?_) (fun hc => ?_)
      | refine w_cn rfl (fun hc => ?_) (fun hc => ?_)
      | refine w_cond rfl (fun hc => ?_) (fun hc => ?_)
      | (refine l_o ?_; first | refine l_eqnil rfl (by kernel_rfl) (by intro b; simp only [nz]; rfl) (fun b hb => ?_) | refine l_op rfl (by first | (apply k_callf; first | exact ops_callf (hfc := hA) | fail) | fail) (hk := ?_) | refine l_op (hk := ?_))
    refine en_end (hf := Try.results21) (hr := ?_); simp only [ne, nf, nl, nr, lget, reduceIte, Nat.reduceEqDiff]; first | rfl | refine congrArg RVb ?_ | refine congrArg RVi ?_ | skip
  | true =>
    rw [ho] at hA
    obtain ⟨hg, hb1, hb2⟩ := okAt_good ho
    have g := (goodN hg).len
    have hst := stN_lt (left := left) ho
    rw [finG_len] at hst
    have hz := sG_zero hg hst
    have hm := (tellsG hg).mvs _ hst
    have hS := solveG hg
    have hlen := (tellsG hg).l1
    have hlen2 := (tellsG hg).l2
    have h0 : winner L R a left = ((finG L R).getD (stN a.toNat left) (0, 0)).1 := by rw [winner, ho, if_pos rfl]
    have h1 : turnsTo L R a left = if ((finG L R).getD (stN a.toNat left) (0, 0)).1 ≠ 0 then ((finG L R).getD (stN a.toNat left) (0, 0)).2 else 0 := by unfold turnsTo; rw [ho]; simp only [Bool.true_and, decide_eq_true_eq]
    rw [h0, h1, ← hm]
    clear h0 h1 hm
    generalize ((finG L R).getD (stN a.toNat left) (0, 0)).1 = x at *
    obtain ⟨n, rfl⟩ := Int.eq_ofNat_of_zero_le hb1
    rw [Int.toNat_natCast] at *
    have hD := l25Side_ok n left (by omega)
    generalize stN n left = s at *
    generalize sG L R = q at *
    rw [gd (show s < q.1.length by omega)] at hz
    rw [gd (show s < q.2.length by omega)]
    refine (fcr_in Try.func21 rfl (by simp only [Try.ntmps21, anys, List.length_cons, List.length_nil, Nat.reduceAdd, Nat.reduceSub, List.replicate_succ, List.replicate_zero, List.cons_append, List.nil_append] <;> rfl) ?_)
    repeat' first
      | refine w_seq ?_
      | refine w_region ?_
      | refine l_nil ?_
      | refine rt_n ?_
      | refine w_ret ?_
      | refine rt_ret ?_
      | refine w_skip ?_
      | refine w_cond_t rfl ?_
      | refine w_cond_f rfl ?_
      | refine w_cnd rfl (fun hc => ?_) (fun hc => ?_)
      | refine w_cd rfl (fun hc => ?_) (fun hc => ?_)
      | refine w_cn rfl (fun hc => ?_) (fun hc => ?_)
      | refine w_cond rfl (fun hc => ?_) (fun hc => ?_)
      | (refine l_o ?_; first | refine l_eqnil rfl (by kernel_rfl) (by intro b; simp only [nz]; rfl) (fun b hb => ?_) | refine l_op rfl (by first | (apply k_callf; first | exact ops_callf (hfc := hA) | exact ops_callf (hfc := hS) | exact ops_callf (hfc := hD) | fail) | fail) (hk := ?_) | refine l_op (hk := ?_))
    · have h1 := hz.1 hc
      rw [if_neg (by simpa using h1), decide_eq_false (by simpa using h1)]
      refine en_end (hf := Try.results21) (hr := ?_); simp only [ne, nf, nl, nr, lget, reduceIte, Nat.reduceEqDiff]; first | rfl | refine congrArg RVb ?_ | refine congrArg RVi ?_ | skip
    · have h1 : x ≠ 0 := fun h => hc (hz.2 h)
      rw [if_pos h1, decide_eq_true h1]
      refine en_end (hf := Try.results21) (hr := ?_); simp only [ne, nf, nl, nr, lget, reduceIte, Nat.reduceEqDiff]; first | rfl | refine congrArg RVb ?_ | refine congrArg RVi ?_ | skip

theorem specHolds_ok (L R : List (List Int)) (a : Int) (left who : Bool) : FCr Try.prog 25 [RLp L R, RVi a, RVb left, RVb who] (.tup [RVb (okAt L R a && decide (winner L R a left ≠ if who then 2 else 1)), RVb (okAt L R a)]) := by
  have hS := specOutcome_ok L R a left
  cases ho : okAt L R a with
  | false =>
    rw [ho] at hS
    refine (fcr_in Try.func25 rfl (by simp only [Try.ntmps25, anys, List.length_cons, List.length_nil, Nat.reduceAdd, Nat.reduceSub, List.replicate_succ, List.replicate_zero, List.cons_append, List.nil_append] <;> rfl) ?_)
    repeat' first
      | refine w_seq ?_
      | refine w_region ?_
      | refine l_nil ?_
      | refine rt_n ?_
      | refine w_ret ?_
      | refine rt_ret ?_
      | refine w_skip ?_
      | refine w_cond_t rfl ?_
      | refine w_cond_f rfl ?_
      | refine w_cnd rfl (fun hc => ?_) (fun hc => ?_)
      | refine w_cd rfl (fun hc => ?_) (fun hc => ?_)
      | refine w_cn rfl (fun hc => ?_) (fun hc => ?_)
      | refine w_cond rfl (fun hc => ?_) (fun hc => ?_)
      | (refine l_o ?_; first | refine l_op rfl (by first | (apply k_callf; first | exact ops_callf (hfc := hS) | fail) | fail) (hk := ?_) | refine l_op (hk := ?_))
    refine en_end (hf := Try.results25) (hr := ?_); simp only [ne, nf, nl, nr, lget, reduceIte, Nat.reduceEqDiff]; first | rfl | refine congrArg RVb ?_ | refine congrArg RVi ?_ | skip
  | true =>
    rw [ho] at hS
    cases who with
    | true =>
      refine (fcr_in Try.func25 rfl (by simp only [Try.ntmps25, anys, List.length_cons, List.length_nil, Nat.reduceAdd, Nat.reduceSub, List.replicate_succ, List.replicate_zero, List.cons_append, List.nil_append] <;> rfl) ?_)
      repeat' first
        | refine w_seq ?_
        | refine w_region ?_
        | refine l_nil ?_
        | refine rt_n ?_
        | refine w_ret ?_
        | refine rt_ret ?_
        | refine w_skip ?_
        | refine w_cond_t rfl ?_
        | refine w_cond_f rfl ?_
        | refine w_cnd rfl (fun hc => ?_) (fun hc => ?_)
        | refine w_cd rfl (fun hc => ?_) (fun hc => ?_)
        | refine w_cn rfl (fun hc => ?_) (fun hc => ?_)
        | refine w_cond rfl (fun hc => ?_) (fun hc => ?_)
        | (refine l_o ?_; first | refine l_op rfl (by first | (apply k_callf; first | exact ops_callf (hfc := hS) | fail) | fail) (hk := ?_) | refine l_op (hk := ?_))
      refine en_end (hf := Try.results25) (hr := ?_); simp only [ne, nf, nl, nr, lget, reduceIte, Nat.reduceEqDiff]; first | rfl | refine congrArg RVb ?_ | refine congrArg RVi ?_ | skip
    | false =>
      refine (fcr_in Try.func25 rfl (by simp only [Try.ntmps25, anys, List.length_cons, List.length_nil, Nat.reduceAdd, Nat.reduceSub, List.replicate_succ, List.replicate_zero, List.cons_append, List.nil_append] <;> rfl) ?_)
      repeat' first
        | refine w_seq ?_
        | refine w_region ?_
        | refine l_nil ?_
        | refine rt_n ?_
        | refine w_ret ?_
        | refine rt_ret ?_
        | refine w_skip ?_
        | refine w_cond_t rfl ?_
        | refine w_cond_f rfl ?_
        | refine w_cnd rfl (fun hc => ?_) (fun hc => ?_)
        | refine w_cd rfl (fun hc => ?_) (fun hc => ?_)
        | refine w_cn rfl (fun hc => ?_) (fun hc => ?_)
        | refine w_cond rfl (fun hc => ?_) (fun hc => ?_)
        | (refine l_o ?_; first | refine l_op rfl (by first | (apply k_callf; first | exact ops_callf (hfc := hS) | fail) | fail) (hk := ?_) | refine l_op (hk := ?_))
      refine en_end (hf := Try.results25) (hr := ?_); simp only [ne, nf, nl, nr, lget, reduceIte, Nat.reduceEqDiff]; first | rfl | refine congrArg RVb ?_ | refine congrArg RVi ?_ | skip

theorem specTable_ok (L R : List (List Int)) : FCr Try.prog 27 [RLp L R] (.tup [OIs (tbl L R), RVb (goodLp L R)]) := by
  cases hg : goodLp L R with
  | false =>
    have h1 : tbl L R = [] := by simp [tbl, hg]
    rw [h1]
    refine (fcr_in Try.func27 rfl (by simp only [Try.ntmps27, anys, List.length_cons, List.length_nil, Nat.reduceAdd, Nat.reduceSub, List.replicate_succ, List.replicate_zero, List.cons_append, List.nil_append] <;> rfl) ?_)
    repeat' first
      | refine w_seq ?_
      | refine w_block ?_
      | refine rb_n ?_
      | refine rb_ret ?_
      | refine rb_eq ?_
      | refine rb_ne (by rfl) ?_
      | refine w_exit ?_
      | refine rt_exit ?_
      | refine w_region ?_
      | refine l_nil ?_
      | refine rt_n ?_
      | refine w_ret ?_
      | refine rt_ret ?_
      | refine w_skip ?_
      | refine w_cond_t rfl ?_
      | refine w_cond_f rfl ?_
      | refine w_cnd rfl (fun hc => ?_) (fun hc => ?_)
      | refine w_cd rfl (fun hc => ?_) (fun hc => ?_)
      | refine w_cn rfl (fun hc => ?_) (fun hc => ?_)
      | refine w_cond rfl (fun hc => ?_) (fun hc => ?_)
      | (refine l_o ?_; first | refine l_eqnil rfl (by kernel_rfl) (by intro b; simp only [nz]; rfl) (fun b hb => ?_) | refine l_op rfl (by first | (apply k_callf; first | exact ops_callf (hfc := hg ▸ specGood_ok L R) | fail) | fail) (hk := ?_) | refine l_op (hk := ?_))
    refine en_endn ([.ow 1 [], RVb false]) (hf := Try.results27) (hr := ?_); simp only [ne]; first | rfl | skip
  | true =>
    have h1 : tbl L R = (finG L R).map (·.1) := by simp [tbl, hg]
    have g := (goodN hg).len
    have hlen := (tellsG hg).l1
    have hfl := finG_len (L := L) (R := R)
    have hS := solveG hg
    have ht : ∀ (j : Nat) (h : j < (sG L R).1.length) (h2 : j < (finG L R).length), (if (sG L R).1[j] = 0 then 0 else if decide ((sG L R).1[j] = 1) = decide (((j % 2 : Nat) : Int) = 0) then 1 else 2) = (finG L R)[j].1 := by
      intro j h h2
      have := told_eq hg (j := j) (left := decide (((j % 2 : Nat) : Int) = 0)) (by omega) (by by_cases h : j % 2 = 0 <;> simp [h]; omega)
      rw [gd h, gd h2] at this
      exact this
    rw [h1]
    clear h1
    generalize sG L R = q at *
    generalize finG L R = fi at *
    refine (fcr_in Try.func27 rfl (by simp only [Try.ntmps27, anys, List.length_cons, List.length_nil, Nat.reduceAdd, Nat.reduceSub, List.replicate_succ, List.replicate_zero, List.cons_append, List.nil_append] <;> rfl) ?_)
    repeat' first
      | refine w_seq ?_
      | refine w_block ?_
      | refine rb_n ?_
      | refine rb_ret ?_
      | refine rb_eq ?_
      | refine rb_ne (by rfl) ?_
      | refine w_exit ?_
      | refine rt_exit ?_
      | refine w_region ?_
      | refine l_nil ?_
      | refine rt_n ?_
      | refine w_ret ?_
      | refine rt_ret ?_
      | refine w_skip ?_
      | refine w_cond_t rfl ?_
      | refine w_cond_f rfl ?_
      | refine w_cnd rfl (fun hc => ?_) (fun hc => ?_)
      | refine w_cd rfl (fun hc => ?_) (fun hc => ?_)
      | refine w_cn rfl (fun hc => ?_) (fun hc => ?_)
      | refine w_cond rfl (fun hc => ?_) (fun hc => ?_)
      | (refine l_o ?_; first | refine l_eqnil rfl (by kernel_rfl) (by intro b; simp only [nz]; rfl) (fun b hb => ?_) | refine l_op rfl (by first | (apply k_callf; first | exact ops_callf (hfc := hg ▸ specGood_ok L R) | exact ops_callf (hfc := hS) | fail) | fail) (hk := ?_) | refine l_op (hk := ?_))
    refine w_loopm (ι := Nat × List Int) (fun k => [(7, RVn k.1), (6, .ref 16 0 k.2.length), (16, .any)]) (fun k => [(16, 1, k.2.map RVi), (1, 2, [.agg [RIss L, RIss R]])]) (fun k => k.1 ≤ fi.length ∧ k.2 = (fi.take k.1).map (·.1)) (fun k => fi.length - k.1) (0, []) (h0 := ?_) (hs := ?_) (round := ?_)
    · simp
    · refine le_eq (by (repeat' first | exact .nil | refine .keep ?_ | refine .any ?_); first | done | fail) rfl rfl
    · intro ⟨k, m⟩ ⟨hk, hm⟩
      dsimp only at hk hm ⊢
      have hml : m.length = k := by rw [hm]; simp; omega
      by_cases hkl : k < fi.length
      · have h1 := ht k (by omega) hkl
        have hT := l25Told_ok (q.1[k]'(by omega)) (decide (((k % 2 : Nat) : Int) = 0))
        rw [h1] at hT
        repeat' first
          | refine w_seq ?_
          | refine w_block ?_
          | refine rb_n ?_
          | refine rb_ret ?_
          | refine rb_eq ?_
          | refine rb_ne (by rfl) ?_
          | refine w_exit ?_
          | refine rt_exit ?_
          | refine w_region ?_
          | refine l_nil ?_
          | refine rt_n ?_
          | refine w_ret ?_
          | refine rt_ret ?_
          | refine w_skip ?_
          | refine w_cond_t rfl ?_
          | refine w_cond_f rfl ?_
          | refine w_cnd rfl (fun hc => ?_) (fun hc => ?_)
          | refine w_cd rfl (fun hc => ?_) (fun hc => ?_)
          | refine w_cn rfl (fun hc => ?_) (fun hc => ?_)
          | refine w_cond rfl (fun hc => ?_) (fun hc => ?_)
          | (refine l_o ?_; first | refine l_eqnil rfl (by kernel_rfl) (by intro b; simp only [nz]; rfl) (fun b hb => ?_) | refine l_op rfl (by first | (apply k_rem; first | exact ops_remn (n := 2) rfl rfl (by omega) | fail) | (apply k_callf; first | exact ops_callf (hfc := hT) | fail) | fail) (hk := ?_) | refine l_op (hk := ?_))
        · refine rn_mk (k + 1, m ++ [fi[k].1]) ?_ (by first | omega | (dsimp only; omega)) (le_eq (by (repeat' first | exact .nil | refine .keep ?_ | refine .any ?_); first | done | fail) rfl rfl)
          exact ⟨by omega, by subst hm; rw [List.take_succ_eq_append_getElem (by omega), List.map_append]; rfl⟩
        · omega
      · repeat' first
          | refine w_seq ?_
          | refine w_block ?_
          | refine rb_n ?_
          | refine rb_ret ?_
          | refine rb_eq ?_
          | refine rb_ne (by rfl) ?_
          | refine w_exit ?_
          | refine rt_exit ?_
          | refine w_region ?_
          | refine l_nil ?_
          | refine rt_n ?_
          | refine w_ret ?_
          | refine rt_ret ?_
          | refine w_skip ?_
          | refine w_cond_t rfl ?_
          | refine w_cond_f rfl ?_
          | refine w_cnd rfl (fun hc => ?_) (fun hc => ?_)
          | refine w_cd rfl (fun hc => ?_) (fun hc => ?_)
          | refine w_cn rfl (fun hc => ?_) (fun hc => ?_)
          | refine w_cond rfl (fun hc => ?_) (fun hc => ?_)
          | (exfalso; omega)
          | (refine l_o ?_; first | refine l_eqnil rfl (by kernel_rfl) (by intro b; simp only [nz]; rfl) (fun b hb => ?_) | refine l_op (hk := ?_))
        obtain rfl : k = fi.length := by omega
        rw [List.take_length] at hm
        subst hm
        refine en_end (hf := Try.results27) (hr := ?_); simp only [ne, nf, nl, nr, lget, reduceIte, Nat.reduceEqDiff]; first | rfl | refine congrArg RVb ?_ | refine congrArg RVi ?_ | skip
end Go.Proofs.Ytoekdkoadienmaa
