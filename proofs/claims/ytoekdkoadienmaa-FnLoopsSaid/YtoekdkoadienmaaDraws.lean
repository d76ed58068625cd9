/- The draws of the loops' laws. For all bytes. -/
import Derived.Test.YtoekdkoadienmaaDraw
namespace Go.Proofs.Ytoekdkoadienmaa
open Eng
attribute [local irreducible] OpS OpG FC FCr Rel Fl Ef DR Fs
set_option linter.unusedSimpArgs false
set_option maxHeartbeats 0
set_option maxRecDepth 100000

theorem rBig_ok (l : List UInt8) : FCr Try.prog 35 [RYs l] (RVb (decide ((65536 : Int) < (l.length : Nat)))) := by
  refine (fcr_in Try.func35 rfl (by simp only [Try.ntmps35, anys, List.length_cons, List.length_nil, Nat.reduceAdd, Nat.reduceSub, List.replicate_succ, List.replicate_zero, List.cons_append, List.nil_append] <;> rfl) ?_)
  repeat' first
    | refine w_seq ?_
    | refine w_region ?_
    | refine l_nil ?_
    | refine rt_n ?_
    | refine w_ret ?_
    | refine rt_ret ?_
    | refine w_skip ?_
    | (refine l_o ?_; first | refine l_op (hk := ?_))
  refine en_one (hf := Try.results35) (h := ?_); simp only [lget]; first | refine congrArg RVb ?_ | refine congrArg RVi ?_ | skip
theorem rInts_ok (l m : List Int) : FCr Try.prog 37 [RIs l, RIs m] (RVb (decide (l = m))) := by
  refine fcr_lens fun hL => ?_
  simp only [lnk] at hL
  refine (fcr_in Try.func37 rfl (by simp only [Try.ntmps37, anys, List.length_cons, List.length_nil, Nat.reduceAdd, Nat.reduceSub, List.replicate_succ, List.replicate_zero, List.cons_append, List.nil_append] <;> rfl) ?_)
  repeat' first
    | refine w_seq ?_
    | refine w_block ?_
    | refine rb_n ?_
    | refine rb_ret ?_
    | refine rb_eq ?_
    | refine rb_ne (by rfl) ?_
    | refine w_exit ?_
    | refine rt_exit ?_
    | refine w_region ?_
    | refine l_nil ?_
    | refine rt_n ?_
    | refine w_ret ?_
    | refine rt_ret ?_
    | refine w_skip ?_
    | refine w_cond_t rfl ?_
    | refine w_cond_f rfl ?_
    | refine w_cnd rfl (fun hc => ?_) (fun hc => ?_)
    | refine w_cd rfl (fun hc => ?_) (fun hc => ?_)
    | refine w_cn rfl (fun hc => ?_) (fun hc => ?_)
    | refine w_cond rfl (fun hc => ?_) (fun hc => ?_)
    | (refine l_o ?_; first | refine l_op (hk := ?_))
    | refine d_nil ?_
    | (refine d_o ?_; first | refine d_fl (hk := ?_) | refine d_ef (hk := ?_))
    | (refine w_o ?_; first | refine w_draw (id := 6) (fun _ => true) (fun k => [].contains k) [] 64 (by kernel_rfl) rfl (by kernel_rfl) (by simp [nm, nset, -List.map_take, -List.map_drop]) ?_)
  · refine en_one (hf := Try.results37) (h := ?_); simp only [lget]; first | refine congrArg RVb ?_ | refine congrArg RVi ?_ | skip
    grind
  have hn : l.length = m.length := by omega
  clear hc
  refine w_loopm (ι := Nat) (fun k => [(5, RVi k)]) (fun _ => []) (fun k => k ≤ l.length ∧ ((l.drop k = m.drop k) ↔ l = m)) (fun k => l.length - k) 0 (h0 := ?_) (hs := ?_) (round := ?_)
  · simp
  · refine le_eq (by (repeat' first | exact .nil | refine .keep ?_ | refine .any ?_); first | done | fail) rfl rfl
  · intro k ⟨hk, hg⟩
    repeat' first
      | refine w_seq ?_
      | refine w_block ?_
      | refine rb_n ?_
      | refine rb_ret ?_
      | refine rb_eq ?_
      | refine rb_ne (by rfl) ?_
      | refine w_exit ?_
      | refine rt_exit ?_
      | refine w_region ?_
      | refine l_nil ?_
      | refine rt_n ?_
      | refine w_ret ?_
      | refine rt_ret ?_
      | refine w_skip ?_
      | refine w_cond_t rfl ?_
      | refine w_cond_f rfl ?_
      | refine w_cnd rfl (fun hc => ?_) (fun hc => ?_)
      | refine w_cd rfl (fun hc => ?_) (fun hc => ?_)
      | refine w_cn rfl (fun hc => ?_) (fun hc => ?_)
      | refine w_cond rfl (fun hc => ?_) (fun hc => ?_)
      | (refine l_o ?_; first | refine l_op (hk := ?_))
      | refine d_nil ?_
      | (refine d_o ?_; first | refine d_fl (hk := ?_) | refine d_ef (hk := ?_))
      | (refine w_o ?_; first | refine w_draw (id := 6) (fun _ => true) (fun k => [].contains k) [] 64 (by kernel_rfl) rfl (by kernel_rfl) (by simp [nm, nset, -List.map_take, -List.map_drop]) ?_)
    · refine en_one (hf := Try.results37) (h := ?_); simp only [lget]; first | refine congrArg RVb ?_ | refine congrArg RVi ?_ | skip
      grind [drop_both]
    · refine rn_mk (k + 1) ?_ (by first | omega | (dsimp only; omega)) (le_eq (by (repeat' first | exact .nil | refine .keep ?_ | refine .any ?_); first | done | fail) rfl rfl)
      grind [drop_both]
    · refine en_one (hf := Try.results37) (h := ?_); simp only [lget]; first | refine congrArg RVb ?_ | refine congrArg RVi ?_ | skip
      grind [dn]
/-- The reader at the beginning. -/
abbrev cur0 (code : List UInt8) : Cur := ⟨code, 0, 0⟩
theorem drawGood_ok (code : List UInt8) : FCr Try.prog 61 [RYs code] (.agg [OIss (loose (cur0 code) 7).2.1, OIss (loose (cur0 code) 7).2.2]) := by
  have h := loose_ok (cur0 code) 7 (by simp) (by omega) (by omega)
  generalize loose (cur0 code) 7 = q at *
  refine (fcr_in Try.func61 rfl (by simp only [Try.ntmps61, anys, List.length_cons, List.length_nil, Nat.reduceAdd, Nat.reduceSub, List.replicate_succ, List.replicate_zero, List.cons_append, List.nil_append] <;> rfl) ?_)
  repeat' first
    | refine w_seq ?_
    | refine w_region ?_
    | refine l_nil ?_
    | refine rt_n ?_
    | refine w_ret ?_
    | refine rt_ret ?_
    | refine w_skip ?_
    | (refine l_o ?_; first | refine l_op rfl (by first | (apply k_callf; first | exact ops_callP 5 [RCur q.1] (hfc := h) | fail) | fail) (hk := ?_) | refine l_op (hk := ?_))
  refine en_end (hf := Try.results61) (hr := ?_); simp only [ne, nf, nl, nr, lget, reduceIte, Nat.reduceEqDiff]; first | rfl | refine congrArg RVb ?_ | refine congrArg RVi ?_ | skip
theorem drawTable_ok (code : List UInt8) : FCr Try.prog 36 [RYs code] (.agg [OIss (loose (cur0 code) 7).2.1, OIss (loose (cur0 code) 7).2.2]) := by
  have h := drawGood_ok code
  refine (fcr_in Try.func36 rfl (by simp only [Try.ntmps36, anys, List.length_cons, List.length_nil, Nat.reduceAdd, Nat.reduceSub, List.replicate_succ, List.replicate_zero, List.cons_append, List.nil_append] <;> rfl) ?_)
  repeat' first
    | refine w_seq ?_
    | refine w_region ?_
    | refine l_nil ?_
    | refine rt_n ?_
    | refine w_ret ?_
    | refine rt_ret ?_
    | refine w_skip ?_
    | (refine l_o ?_; first | refine l_op rfl (by first | (apply k_callf; first | exact ops_callv (hfc := h) | fail) | fail) (hk := ?_) | refine l_op (hk := ?_))
  refine en_end (hf := Try.results36) (hr := ?_); simp only [ne, nf, nl, nr, lget, reduceIte, Nat.reduceEqDiff]; first | rfl | refine congrArg RVb ?_ | refine congrArg RVi ?_ | skip
theorem loose_at (c : Cur) (most : Nat) (h0 : 0 < most) : (loose c most).1.at_ ≤ c.at_ + 200 + 16 * most := by
  obtain ⟨s1, s2, s3, s4⟩ := drawLp_small c most h0
  have hf : ∀ (f : Nat) (q : Cur × List (List Int) × List (List Int)), (fillLp f q).1.at_ ≤ q.1.at_ + 2 * f := by
    intro f
    induction f with
    | zero => intro q; exact Nat.le_refl _
    | succ f ih =>
      intro q
      have := pickC_at q.1 2
      simp only [fillLp]
      split
      · have := ih (pickC q.1 2, q.2.1 ++ [[0]], q.2.2 ++ [[]]); dsimp only at this; omega
      · dsimp only; omega
  have k1 := pickC_at (drawLp c most).1 12
  have k2 := pickC_at (pickC (drawLp c most).1 12) (drawLp c most).2.1.length
  have k3 := pickC_at (pickC (pickC (drawLp c most).1 12) (drawLp c most).2.1.length) 4
  have k4 := pickC_at (pickC (pickC (pickC (drawLp c most).1 12) (drawLp c most).2.1.length) 4) 3
  unfold loose
  split
  · split
    · dsimp only; omega
    · split
      · dsimp only; omega
      · split
        · dsimp only; omega
        · have := hf 38 (pickC (pickC (pickC (drawLp c most).1 12) (drawLp c most).2.1.length) 4, (drawLp c most).2); dsimp only at this; omega
  · dsimp only; omega
theorem drawOutcome_ok (code : List UInt8) : ∃ (L R : List (List Int)) (a : Int) (left : Bool), -1 ≤ a ∧ a < 9 ∧ FCr Try.prog 67 [RYs code] (.tup [.agg [OIss L, OIss R], RVi a, RVb left]) := by
  have h := loose_ok (cur0 code) 8 (by simp) (by omega) (by omega)
  have ha := loose_at (cur0 code) 8 (by omega)
  have h1 := pick_ok (loose (cur0 code) 8).1 10 (by simp at ha; omega) (by omega)
  have h2 := pickC_at (loose (cur0 code) 8).1 10
  have h3 := one_ok (pickC (loose (cur0 code) 8).1 10) 2 (by simp at ha; omega) (by omega)
  have h4 := pickV_lt (loose (cur0 code) 8).1 10 (by omega)
  refine ⟨(loose (cur0 code) 8).2.1, (loose (cur0 code) 8).2.2, (pickV (loose (cur0 code) 8).1 10 : Nat) - 1, decide (((pickV (pickC (loose (cur0 code) 8).1 10) 2 : Nat) : Int) = 0), by omega, by omega, ?_⟩
  generalize loose (cur0 code) 8 = q at *
  generalize pickV (pickC q.1 10) 2 = y at *
  generalize pickC (pickC q.1 10) 2 = c4 at *
  generalize pickC q.1 10 = c3 at *
  generalize pickV q.1 10 = x at *
  refine (fcr_in Try.func67 rfl (by simp only [Try.ntmps67, anys, List.length_cons, List.length_nil, Nat.reduceAdd, Nat.reduceSub, List.replicate_succ, List.replicate_zero, List.cons_append, List.nil_append] <;> rfl) ?_)
  repeat' first
    | refine w_seq ?_
    | refine w_region ?_
    | refine l_nil ?_
    | refine rt_n ?_
    | refine w_ret ?_
    | refine rt_ret ?_
    | refine w_skip ?_
    | (refine l_o ?_; first | refine l_op rfl (by first | (apply k_callf; first | exact ops_callP (d := 11) 9 [RCur q.1] (hfc := h) | exact ops_callP (d := 14) 9 [RCur c3] (hfc := h1) | exact ops_callP (d := 17) 9 [RCur c4] (hfc := h3) | fail) | fail) (hk := ?_) | refine l_op (hk := ?_))
    | refine e_nil ?_
    | (refine e_o ?_; first | refine e_fl (hk := ?_) | refine e_ef rfl (by first | exact .callP (d := 11) 9 [RCur q.1] (hfc := h) | exact .callP (d := 14) 9 [RCur c3] (hfc := h1) | exact .callP (d := 17) 9 [RCur c4] (hfc := h3) | fail) (hk := ?_) | refine e_ef (hk := ?_))
    | (refine w_o ?_; first | refine w_drawS (id := 3) (rdP [(0, 6)]) (fun k => [2, 5, 6].contains k) [[],[],[]] (by kernel_rfl) rfl (by kernel_rfl) (by simp [nm, nset, -List.map_take, -List.map_drop]) ?_)
  refine en_end (hf := Try.results67) (hr := ?_); simp only [ne, nf, nl, nr, lget, reduceIte, Nat.reduceEqDiff]; first | rfl | refine congrArg RVb ?_ | refine congrArg RVi ?_ | skip
theorem drawMove_ok (code : List UInt8) : ∃ (L R : List (List Int)) (a : Int) (left : Bool), -1 ≤ a ∧ a < 9 ∧ FCr Try.prog 41 [RYs code] (.tup [.agg [OIss L, OIss R], RVi a, RVb left]) := by
  obtain ⟨L, R, a, left, h1, h2, h⟩ := drawOutcome_ok code
  refine ⟨L, R, a, left, h1, h2, ?_⟩
  refine (fcr_in Try.func41 rfl (by simp only [Try.ntmps41, anys, List.length_cons, List.length_nil, Nat.reduceAdd, Nat.reduceSub, List.replicate_succ, List.replicate_zero, List.cons_append, List.nil_append] <;> rfl) ?_)
  repeat' first
    | refine w_seq ?_
    | refine w_region ?_
    | refine l_nil ?_
    | refine rt_n ?_
    | refine w_ret ?_
    | refine rt_ret ?_
    | refine w_skip ?_
    | (refine l_o ?_; first | refine l_op rfl (by first | (apply k_callf; first | exact ops_callv (hfc := h) | fail) | fail) (hk := ?_) | refine l_op (hk := ?_))
  refine en_end (hf := Try.results41) (hr := ?_); simp only [ne, nf, nl, nr, lget, reduceIte, Nat.reduceEqDiff]; first | rfl | refine congrArg RVb ?_ | refine congrArg RVi ?_ | skip
theorem drawHolds_ok (code : List UInt8) : ∃ (L R : List (List Int)) (a : Int) (left who : Bool), -1 ≤ a ∧ a < 9 ∧ FCr Try.prog 39 [RYs code] (.tup [.agg [OIss L, OIss R], RVi a, RVb left, RVb who]) := by
  have h := loose_ok (cur0 code) 8 (by simp) (by omega) (by omega)
  have ha := loose_at (cur0 code) 8 (by omega)
  have h1 := pick_ok (loose (cur0 code) 8).1 10 (by simp at ha; omega) (by omega)
  have h2 := pickC_at (loose (cur0 code) 8).1 10
  have h3 := one_ok (pickC (loose (cur0 code) 8).1 10) 2 (by simp at ha; omega) (by omega)
  have h5 := pickC_at (pickC (loose (cur0 code) 8).1 10) 2
  have h6 := one_ok (pickC (pickC (loose (cur0 code) 8).1 10) 2) 2 (by simp at ha; omega) (by omega)
  have h4 := pickV_lt (loose (cur0 code) 8).1 10 (by omega)
  refine ⟨(loose (cur0 code) 8).2.1, (loose (cur0 code) 8).2.2, (pickV (loose (cur0 code) 8).1 10 : Nat) - 1, decide (((pickV (pickC (loose (cur0 code) 8).1 10) 2 : Nat) : Int) = 0), decide (((pickV (pickC (pickC (loose (cur0 code) 8).1 10) 2) 2 : Nat) : Int) = 0), by omega, by omega, ?_⟩
  generalize loose (cur0 code) 8 = q at *
  generalize pickV (pickC (pickC q.1 10) 2) 2 = z at *
  generalize pickC (pickC (pickC q.1 10) 2) 2 = c5 at *
  generalize pickV (pickC q.1 10) 2 = y at *
  generalize pickC (pickC q.1 10) 2 = c4 at *
  generalize pickC q.1 10 = c3 at *
  generalize pickV q.1 10 = x at *
  refine (fcr_in Try.func39 rfl (by simp only [Try.ntmps39, anys, List.length_cons, List.length_nil, Nat.reduceAdd, Nat.reduceSub, List.replicate_succ, List.replicate_zero, List.cons_append, List.nil_append] <;> rfl) ?_)
  repeat' first
    | refine w_seq ?_
    | refine w_region ?_
    | refine l_nil ?_
    | refine rt_n ?_
    | refine w_ret ?_
    | refine rt_ret ?_
    | refine w_skip ?_
    | (refine l_o ?_; first | refine l_op rfl (by first | (apply k_callf; first | exact ops_callP (d := 12) 10 [RCur q.1] (hfc := h) | exact ops_callP (d := 15) 10 [RCur c3] (hfc := h1) | exact ops_callP (d := 18) 10 [RCur c4] (hfc := h3) | exact ops_callP (d := 20) 10 [RCur c5] (hfc := h6) | fail) | fail) (hk := ?_) | refine l_op (hk := ?_))
    | refine e_nil ?_
    | (refine e_o ?_; first | refine e_fl (hk := ?_) | refine e_ef rfl (by first | exact .callP (d := 12) 10 [RCur q.1] (hfc := h) | exact .callP (d := 15) 10 [RCur c3] (hfc := h1) | exact .callP (d := 18) 10 [RCur c4] (hfc := h3) | exact .callP (d := 20) 10 [RCur c5] (hfc := h6) | fail) (hk := ?_) | refine e_ef (hk := ?_))
    | (refine w_o ?_; first | refine w_drawS (id := 3) (rdP [(0, 7)]) (fun k => [2, 5, 7, 8].contains k) [[],[],[],[]] (by kernel_rfl) rfl (by kernel_rfl) (by simp [nm, nset, -List.map_take, -List.map_drop]) ?_)
  refine en_end (hf := Try.results39) (hr := ?_); simp only [ne, nf, nl, nr, lget, reduceIte, Nat.reduceEqDiff]; first | rfl | refine congrArg RVb ?_ | refine congrArg RVi ?_ | skip
end Go.Proofs.Ytoekdkoadienmaa
