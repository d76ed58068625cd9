/- What the program tells of a solved loop: who wins, in how many moves, who holds out, the table. For all loops and places. -/
import Derived.Test.YtmplelnodamedaaSolved
import Derived.Test.YtmplelnodamedaaTurnsFrom
namespace Go.Proofs.Ytmplelnodamedaa
open Eng
attribute [local irreducible] OpS OpG FC FCr Rel Fl Ef DR Fs
set_option linter.unusedSimpArgs false
set_option maxHeartbeats 0
set_option maxRecDepth 100000

/-- Who wins from a place; in how many moves. -/
def winner (L R : List (List Int)) (a : Int) (left : Bool) : Int := if okAt L R a then ((finG L R).getD (stN a.toNat left) (0, 0)).1 else 0
def turnsTo (L R : List (List Int)) (a : Int) (left : Bool) : Int := if okAt L R a && decide ((((finG L R).getD (stN a.toNat left) (0, 0)).1) ≠ 0) then ((finG L R).getD (stN a.toNat left) (0, 0)).2 else 0
theorem okAt_good {L R a} (h : okAt L R a = true) : goodLp L R = true ∧ 0 ≤ a ∧ a < L.length := by simp [okAt] at h; exact ⟨h.1.1, h.1.2, h.2⟩
theorem stN_lt {L R : List (List Int)} {a} {left} (h : okAt L R a = true) : stN a.toNat left < (finG L R).length := by
  have := okAt_good h
  rw [finG_len]; unfold stN; split <;> omega

theorem implOutcome_ok (L R : List (List Int)) (a : Int) (left : Bool) : FCr Try.prog 12 [RLp L R, RVi a, RVb left] (.tup [RVi (winner L R a left), RVb (okAt L R a)]) := by
  have hS := solved_ok L R a left
  cases ho : okAt L R a with
  | false =>
    rw [ho] at hS
    have h1 : winner L R a left = 0 := by simp [winner, ho]
    rw [h1]
    refine (fcr_in Try.func12 rfl (by simp only [Try.ntmps12, anys, List.length_cons, List.length_nil, Nat.reduceAdd, Nat.reduceSub, List.replicate_succ, List.replicate_zero, List.cons_append, List.nil_append] <;> rfl) ?_)
    repeat' first
      | refine w_seq ?_
      | refine w_region ?_
      | refine l_nil ?_
      | refine rt_n ?_
      | refine w_ret ?_
      | refine rt_ret ?_
      | refine w_skip ?_
      | refine w_cond_t rfl ?_
      | refine w_cond_f rfl ?_
      | refine w_cnd rfl (fun hc => ?_) (fun hc => ?_)
      | refine w_cd rfl (fun hc => ?_) (fun hc => ?_)
      | refine w_cn rfl (fun hc => ?_) (fun hc => ?_)
      | refine w_cond rfl (fun hc => ?_) (fun hc => ?_)
      | (refine l_o ?_; first | refine l_op rfl (by first | (apply k_callf; first | exact ops_callv (hfc := hS) | fail) | fail) (hk := ?_) | refine l_op (hk := ?_))
    refine en_end (hf := Try.results12) (hr := ?_); simp only [ne, nf, nl, nr, lget, reduceIte, Nat.reduceEqDiff]; first | rfl | refine congrArg RVb ?_ | refine congrArg RVi ?_ | skip
  | true =>
    have g := (goodN (okAt_good ho).1).len
    have hst := stN_lt (left := left) ho
    have hl := finG_len (L := L) (R := R)
    have h1 : winner L R a left = ((finG L R)[stN a.toNat left]).1 := by rw [winner, ho, if_pos rfl, gd hst]
    have h2 : slvB L R a = finG L R := by simp [slvB, ho]
    have h3 : slvS L R a left = stN a.toNat left := by simp [slvS, ho]
    rw [ho, h2, h3] at hS
    rw [h1]
    generalize stN a.toNat left = s at *
    generalize finG L R = fi at *
    refine (fcr_in Try.func12 rfl (by simp only [Try.ntmps12, anys, List.length_cons, List.length_nil, Nat.reduceAdd, Nat.reduceSub, List.replicate_succ, List.replicate_zero, List.cons_append, List.nil_append] <;> rfl) ?_)
    repeat' first
      | refine w_seq ?_
      | refine w_region ?_
      | refine l_nil ?_
      | refine rt_n ?_
      | refine w_ret ?_
      | refine rt_ret ?_
      | refine w_skip ?_
      | refine w_cond_t rfl ?_
      | refine w_cond_f rfl ?_
      | refine w_cnd rfl (fun hc => ?_) (fun hc => ?_)
      | refine w_cd rfl (fun hc => ?_) (fun hc => ?_)
      | refine w_cn rfl (fun hc => ?_) (fun hc => ?_)
      | refine w_cond rfl (fun hc => ?_) (fun hc => ?_)
      | (refine l_o ?_; first | refine l_op rfl (by first | (apply k_callf; first | exact ops_callv (hfc := hS) | fail) | fail) (hk := ?_) | refine l_op (hk := ?_))
    refine en_end (hf := Try.results12) (hr := ?_); simp only [ne, nf, nl, nr, lget, reduceIte, Nat.reduceEqDiff]; first | rfl | refine congrArg RVb ?_ | refine congrArg RVi ?_ | skip

/-- The table of who wins. -/
def tbl (L R : List (List Int)) : List Int := if goodLp L R then (finG L R).map (·.1) else []
end Go.Proofs.Ytmplelnodamedaa
/- The program's IsStopper and LongestTurns. For all loops and places. -/
namespace Go.Proofs.Ytmplelnodamedaa
open Eng
attribute [local irreducible] OpS OpG FC FCr Rel Fl Ef DR Fs
set_option linter.unusedSimpArgs false
set_option maxHeartbeats 0
set_option maxRecDepth 100000

/-- Going in depth through all of a loop's states. -/
def dfsG (L R : List (List Int)) : Bool × DS := allD (nxtG L R) (2 * L.length) (List.range (2 * L.length)) (q0 (2 * L.length))
/-- Whether no play is without end. -/
def stops (L R : List (List Int)) : Bool := goodLp L R && (dfsG L R).1
def longest (L R : List (List Int)) (a : Int) (left : Bool) : Nat := if okAt L R a && (dfsG L R).1 then (dfsG L R).2.2.getD (stN a.toNat left) 0 else 0
theorem turnsFromG {L R} (h : goodLp L R = true) : FCr Try.prog 39 [RLp L R] (.tup [if (dfsG L R).1 then ONs (dfsG L R).2.2 else .v (.slice none 0 0), RVb (dfsG L R).1]) := by
  have g := goodN h
  have hN := turnsFrom_ok (toN L) (toN R) g.inside (by rw [toN_len]; have := g.len; omega) (fun l hl => by have := g.lL l hl; omega) (fun l hl => by have := g.lR l hl; omega) (dfsG L R) (by rw [toN_len]; rfl)
  have e : RLp L R = .agg [RNss (toN L), RNss (toN R)] := by show RV.agg _ = _; rw [g.eL, g.eR]
  rw [e]
  exact hN
theorem allD_wk {nxt n} (hin : In nxt n) : ∀ (ss : List Nat) (q : DS), (∀ s ∈ ss, s < n) → q.1.length = n → q.2.length = n → DBd q → (∀ k, q.1.getD k 0 ≤ 2) → Wk n q (allD nxt n ss q).2 := by
  intro ss
  induction ss with
  | nil => intro q _ h1 h2 h3 _; exact .refl h1 h2 h3
  | cons s ss ih =>
    intro q hs h1 h2 h3 hle
    rw [allD]
    by_cases c : q.1.getD s 0 = 0
    · rw [if_pos c]
      have w := (visD_wk hin n q s (hs s (by simp)) c (by rw [← h1]; exact List.countP_le_length) h1 h2 h3 hle).1
      split
      · exact w.trans (ih _ (fun x hx => hs x (by simp [hx])) w.l1 w.l2 w.bd (fun x => w.two x (hle x)))
      · exact w
    · rw [if_neg c]
      exact ih _ (fun x hx => hs x (by simp [hx])) h1 h2 h3 hle
theorem dfsG_len {L R} (h : goodLp L R = true) : (dfsG L R).2.2.length = 2 * L.length := by
  have hal := nxtOf_alt (goodN h).inside
  rw [toN_len] at hal
  have hle : ∀ k, (q0 (2 * L.length)).1.getD k 0 ≤ 2 := fun k => by rw [show (q0 (2 * L.length)).1.getD k 0 = 0 from getD_rep _ k]; omega
  exact (allD_wk (fun a k hk => (hal a k hk).1) (List.range (2 * L.length)) (q0 (2 * L.length)) (fun s hs => List.mem_range.1 hs) (by simp [q0]) (by simp [q0]) (q0_bd _) hle).l2
theorem isPlace_ok (L R : List (List Int)) (a : Int) : FCr Try.prog 30 [RLp L R, RVi a] (RVb (decide (0 ≤ a) && decide (a < L.length))) := by
  refine (fcr_in Try.func30 rfl (by simp only [Try.ntmps30, anys, List.length_cons, List.length_nil, Nat.reduceAdd, Nat.reduceSub, List.replicate_succ, List.replicate_zero, List.cons_append, List.nil_append] <;> rfl) ?_)
  repeat' first
    | refine w_seq ?_
    | refine w_region ?_
    | refine l_nil ?_
    | refine rt_n ?_
    | refine w_ret ?_
    | refine rt_ret ?_
    | refine w_skip ?_
    | (refine l_o ?_; first | refine l_op (hk := ?_) | (refine l_g ?_; first | refine l_y rfl rfl rfl ?_ | refine l_n rfl rfl rfl rfl (hk := ?_) | refine l_n' rfl rfl rfl (hk := ?_) | refine l_spnd rfl rfl rfl (h1 := fun hc => ?_) (h2 := fun hc => ?_) | refine l_spd rfl rfl rfl (h1 := fun hc => ?_) (h2 := fun hc => ?_) | refine l_spn rfl rfl rfl (h1 := fun hc => ?_) (h2 := fun hc => ?_) | refine l_sp rfl rfl rfl (h1 := fun hc => ?_) (h2 := fun hc => ?_)))
  all_goals refine en_one (hf := Try.results30) (h := ?_); simp only [lget]; first | refine congrArg RVb ?_ | refine congrArg RVi ?_ | skip
  all_goals simp [*]
theorem implLongest_ok (L R : List (List Int)) (a : Int) (left : Bool) : FCr Try.prog 15 [RLp L R, RVi a, RVb left] (.tup [RVn (longest L R a left), RVb (okAt L R a && (dfsG L R).1)]) := by
  have hP := isPlace_ok L R a
  cases hg : goodLp L R with
  | false =>
    have ho : okAt L R a = false := by simp [okAt, hg]
    have h1 : longest L R a left = 0 := by simp [longest, ho]
    rw [h1, ho]
    refine (fcr_in Try.func15 rfl (by simp only [Try.ntmps15, anys, List.length_cons, List.length_nil, Nat.reduceAdd, Nat.reduceSub, List.replicate_succ, List.replicate_zero, List.cons_append, List.nil_append] <;> rfl) ?_)
    repeat' first
      | refine w_seq ?_
      | refine w_region ?_
      | refine l_nil ?_
      | refine rt_n ?_
      | refine w_ret ?_
      | refine rt_ret ?_
      | refine w_skip ?_
      | refine w_cond_t rfl ?_
      | refine w_cond_f rfl ?_
      | refine w_cnd rfl (fun hc => ?_) (fun hc => ?_)
      | refine w_cd rfl (fun hc => ?_) (fun hc => ?_)
      | refine w_cn rfl (fun hc => ?_) (fun hc => ?_)
      | refine w_cond rfl (fun hc => ?_) (fun hc => ?_)
      | (refine l_o ?_; first | refine l_op rfl (by first | (apply k_callf; first | exact ops_callf (hfc := hg ▸ implGood_ok L R) | fail) | fail) (hk := ?_) | refine l_op (hk := ?_) | (refine l_g ?_; first | refine l_y rfl rfl rfl ?_ | refine l_n rfl rfl rfl rfl (hk := ?_) | refine l_n' rfl rfl rfl (hk := ?_) | refine l_spnd rfl rfl rfl (h1 := fun hc => ?_) (h2 := fun hc => ?_) | refine l_spd rfl rfl rfl (h1 := fun hc => ?_) (h2 := fun hc => ?_) | refine l_spn rfl rfl rfl (h1 := fun hc => ?_) (h2 := fun hc => ?_) | refine l_sp rfl rfl rfl (h1 := fun hc => ?_) (h2 := fun hc => ?_)))
    refine en_end (hf := Try.results15) (hr := ?_); simp only [ne, nf, nl, nr, lget, reduceIte, Nat.reduceEqDiff]; first | rfl | refine congrArg RVb ?_ | refine congrArg RVi ?_ | skip
  | true =>
    have hok : okAt L R a = (decide (0 ≤ a) && decide (a < L.length)) := by simp [okAt, hg]
    rw [← hok] at hP
    cases ho : okAt L R a with
    | false =>
      rw [ho] at hP
      have h1 : longest L R a left = 0 := by simp [longest, ho]
      rw [h1]
      refine (fcr_in Try.func15 rfl (by simp only [Try.ntmps15, anys, List.length_cons, List.length_nil, Nat.reduceAdd, Nat.reduceSub, List.replicate_succ, List.replicate_zero, List.cons_append, List.nil_append] <;> rfl) ?_)
      repeat' first
        | refine w_seq ?_
        | refine w_region ?_
        | refine l_nil ?_
        | refine rt_n ?_
        | refine w_ret ?_
        | refine rt_ret ?_
        | refine w_skip ?_
        | refine w_cond_t rfl ?_
        | refine w_cond_f rfl ?_
        | refine w_cnd rfl (fun hc => ?_) (fun hc => ?_)
        | refine w_cd rfl (fun hc => ?_) (fun hc => ?_)
        | refine w_cn rfl (fun hc => ?_) (fun hc => ?_)
        | refine w_cond rfl (fun hc => ?_) (fun hc => ?_)
        | (refine l_o ?_; first | refine l_op rfl (by first | (apply k_callf; first | exact ops_callf (hfc := hg ▸ implGood_ok L R) | exact ops_callf (hfc := hP) | fail) | fail) (hk := ?_) | refine l_op (hk := ?_) | (refine l_g ?_; first | refine l_y rfl rfl rfl ?_ | refine l_n rfl rfl rfl rfl (hk := ?_) | refine l_n' rfl rfl rfl (hk := ?_) | refine l_spnd rfl rfl rfl (h1 := fun hc => ?_) (h2 := fun hc => ?_) | refine l_spd rfl rfl rfl (h1 := fun hc => ?_) (h2 := fun hc => ?_) | refine l_spn rfl rfl rfl (h1 := fun hc => ?_) (h2 := fun hc => ?_) | refine l_sp rfl rfl rfl (h1 := fun hc => ?_) (h2 := fun hc => ?_)))
      refine en_end (hf := Try.results15) (hr := ?_); simp only [ne, nf, nl, nr, lget, reduceIte, Nat.reduceEqDiff]; first | rfl | refine congrArg RVb ?_ | refine congrArg RVi ?_ | skip
    | true =>
      rw [ho] at hP
      have hb := okAt_good ho
      have g := (goodN hg).len
      have hT := turnsFromG hg
      have hlen := dfsG_len hg
      have hst := stN_lt (left := left) ho
      rw [finG_len] at hst
      have h1 : longest L R a left = if (dfsG L R).1 then (dfsG L R).2.2.getD (stN a.toNat left) 0 else 0 := by unfold longest; rw [ho, Bool.true_and]
      rw [h1]
      generalize dfsG L R = d at *
      obtain ⟨b, ph, tn⟩ := d
      obtain ⟨n, rfl⟩ := Int.eq_ofNat_of_zero_le hb.2.1
      rw [Int.toNat_natCast] at *
      cases b with
      | false =>
        simp only [Bool.false_eq_true, if_false] at hT ⊢
        refine (fcr_in Try.func15 rfl (by simp only [Try.ntmps15, anys, List.length_cons, List.length_nil, Nat.reduceAdd, Nat.reduceSub, List.replicate_succ, List.replicate_zero, List.cons_append, List.nil_append] <;> rfl) ?_)
        repeat' first
          | refine w_seq ?_
          | refine w_region ?_
          | refine l_nil ?_
          | refine rt_n ?_
          | refine w_ret ?_
          | refine rt_ret ?_
          | refine w_skip ?_
          | refine w_cond_t rfl ?_
          | refine w_cond_f rfl ?_
          | refine w_cnd rfl (fun hc => ?_) (fun hc => ?_)
          | refine w_cd rfl (fun hc => ?_) (fun hc => ?_)
          | refine w_cn rfl (fun hc => ?_) (fun hc => ?_)
          | refine w_cond rfl (fun hc => ?_) (fun hc => ?_)
          | (refine l_o ?_; first | refine l_op rfl (by first | (apply k_callf; first | exact ops_callf (hfc := hg ▸ implGood_ok L R) | exact ops_callf (hfc := hP) | exact ops_callf (hfc := hT) | fail) | fail) (hk := ?_) | refine l_op (hk := ?_) | (refine l_g ?_; first | refine l_y rfl rfl rfl ?_ | refine l_n rfl rfl rfl rfl (hk := ?_) | refine l_n' rfl rfl rfl (hk := ?_) | refine l_spnd rfl rfl rfl (h1 := fun hc => ?_) (h2 := fun hc => ?_) | refine l_spd rfl rfl rfl (h1 := fun hc => ?_) (h2 := fun hc => ?_) | refine l_spn rfl rfl rfl (h1 := fun hc => ?_) (h2 := fun hc => ?_) | refine l_sp rfl rfl rfl (h1 := fun hc => ?_) (h2 := fun hc => ?_)))
        refine en_end (hf := Try.results15) (hr := ?_); simp only [ne, nf, nl, nr, lget, reduceIte, Nat.reduceEqDiff]; first | rfl | refine congrArg RVb ?_ | refine congrArg RVi ?_ | skip
      | true =>
        simp only [if_true] at hT ⊢
        dsimp only at hlen
        rw [gd (by omega)]
        refine (fcr_in Try.func15 rfl (by simp only [Try.ntmps15, anys, List.length_cons, List.length_nil, Nat.reduceAdd, Nat.reduceSub, List.replicate_succ, List.replicate_zero, List.cons_append, List.nil_append] <;> rfl) ?_)
        repeat' first
          | refine w_seq ?_
          | refine w_region ?_
          | refine l_nil ?_
          | refine rt_n ?_
          | refine w_ret ?_
          | refine rt_ret ?_
          | refine w_skip ?_
          | refine w_cond_t rfl ?_
          | refine w_cond_f rfl ?_
          | refine w_cnd rfl (fun hc => ?_) (fun hc => ?_)
          | refine w_cd rfl (fun hc => ?_) (fun hc => ?_)
          | refine w_cn rfl (fun hc => ?_) (fun hc => ?_)
          | refine w_cond rfl (fun hc => ?_) (fun hc => ?_)
          | (refine l_o ?_; first | refine l_op rfl (by first | (apply k_callf; first | exact ops_callf (hfc := hg ▸ implGood_ok L R) | exact ops_callf (hfc := hP) | exact ops_callf (hfc := hT) | exact ops_callf (hfc := stateOf_ok n left (by omega)) | fail) | fail) (hk := ?_) | refine l_op (hk := ?_) | (refine l_g ?_; first | refine l_y rfl rfl rfl ?_ | refine l_n rfl rfl rfl rfl (hk := ?_) | refine l_n' rfl rfl rfl (hk := ?_) | refine l_spnd rfl rfl rfl (h1 := fun hc => ?_) (h2 := fun hc => ?_) | refine l_spd rfl rfl rfl (h1 := fun hc => ?_) (h2 := fun hc => ?_) | refine l_spn rfl rfl rfl (h1 := fun hc => ?_) (h2 := fun hc => ?_) | refine l_sp rfl rfl rfl (h1 := fun hc => ?_) (h2 := fun hc => ?_)))
        refine en_end (hf := Try.results15) (hr := ?_); simp only [ne, nf, nl, nr, lget, reduceIte, Nat.reduceEqDiff]; first | rfl | refine congrArg RVb ?_ | refine congrArg RVi ?_ | skip
end Go.Proofs.Ytmplelnodamedaa
