/- What the draws of PruneLoop's and StopAtLeast's laws give. For all bytes. -/
import Derived.Test.YtmalajoglcpijaaHTabs
namespace Go.Proofs.Ytmalajoglcpijaa
open Eng
attribute [local irreducible] OpS OpG FC FCr Rel Fl Ef DR Fs
attribute [local simp] RV.fzR_names
set_option linter.unusedSimpArgs false
set_option maxHeartbeats 0
set_option maxRecDepth 100000

theorem drawReached_ok (code : List UInt8) : ∃ (L R : List (List Int)) (a : Int), -1 ≤ a ∧ a < 8 ∧ FCr Try.prog 73 [RYs code] (.tup [OLp L R, RVi a]) := by
  have h := loose_ok (cur0 code) 7 (by simp) (by omega) (by omega)
  have ha := loose_at (cur0 code) 7 (by omega)
  have h1 := pick_ok (loose (cur0 code) 7).1 9 (by simp at ha; omega) (by omega)
  have h4 := pickV_lt (loose (cur0 code) 7).1 9 (by omega)
  refine ⟨(loose (cur0 code) 7).2.1, (loose (cur0 code) 7).2.2, (pickV (loose (cur0 code) 7).1 9 : Nat) - 1, by omega, by omega, ?_⟩
  generalize loose (cur0 code) 7 = q at *
  generalize pickC q.1 9 = c3 at *
  generalize pickV q.1 9 = x at *
  refine (fcr_in Try.func73 rfl (by simp only [Try.ntmps73, anys, List.length_cons, List.length_nil, Nat.reduceAdd, Nat.reduceSub, List.replicate_succ, List.replicate_zero, List.cons_append, List.nil_append] <;> rfl) ?_)
  repeat' first
    | refine w_seq ?_
    | refine w_region ?_
    | refine l_nil ?_
    | refine rt_n ?_
    | refine w_ret ?_
    | refine rt_ret ?_
    | refine w_skip ?_
    | (refine l_o ?_; first | refine l_op rfl (by first | (apply k_sub; first | exact ops_sub (m := (x : Int)) (n := 1) rfl rfl (by omega) (by omega) | fail) | (apply k_callf; first | exact ops_callP (d := 10) 8 [RCur q.1] (hfc := h) | exact ops_callP (d := 13) 8 [RCur c3] (hfc := h1) | fail) | fail) (hk := ?_) | refine l_op (hk := ?_))
    | refine e_nil ?_
    | (refine e_o ?_; first | refine e_fl rfl (by first | exact .pl (by first | (apply q_sub; first | exact fs_sub (m := (x : Int)) (n := 1) rfl rfl (by omega) (by omega) | fail) | fail) | fail) (hk := ?_) | refine e_fl (hk := ?_) | refine e_ef rfl (by first | exact .callP (d := 10) 8 [RCur q.1] (hfc := h) | exact .callP (d := 13) 8 [RCur c3] (hfc := h1) | fail) (hk := ?_) | refine e_ef (hk := ?_))
    | (refine w_o ?_; first | refine w_drawS (id := 3) (rdP [(0, 5)]) (fun k => [2, 4].contains k) [[],[]] (by kernel_rfl) rfl (by kernel_rfl) (by simp [nm, nset, -List.map_take, -List.map_drop]) ?_)
  refine en_le _ (le_drop 5 (by simp only [nz, nf, nl, nb, nr, ng, nq, nu, reduceIte, Nat.reduceEqDiff, Nat.reduceAdd]; rfl) (by simp only [nz, nf, nl, nb, nr, ng, nq, nu, reduceIte, Nat.reduceEqDiff, Nat.reduceAdd]; rfl)) ?_
  refine en_end (hf := Try.results73) (hr := ?_); simp only [ne, nf, nl, nr, lget, reduceIte, Nat.reduceEqDiff]; first | rfl | refine congrArg RVb ?_ | refine congrArg RVi ?_ | skip
theorem drawPr_ok (code : List UInt8) : ∃ (L R : List (List Int)) (a : Int), -1 ≤ a ∧ a < 8 ∧ FCr Try.prog 43 [RYs code] (.tup [OLp L R, RVi a]) := by
  obtain ⟨L, R, a, h1, h2, h⟩ := drawReached_ok code
  refine ⟨L, R, a, h1, h2, ?_⟩
  refine (fcr_in Try.func43 rfl (by simp only [Try.ntmps43, anys, List.length_cons, List.length_nil, Nat.reduceAdd, Nat.reduceSub, List.replicate_succ, List.replicate_zero, List.cons_append, List.nil_append] <;> rfl) ?_)
  repeat' first
    | refine w_seq ?_
    | refine w_region ?_
    | refine l_nil ?_
    | refine rt_n ?_
    | refine w_ret ?_
    | refine rt_ret ?_
    | refine w_skip ?_
    | (refine l_o ?_; first | refine l_op rfl (by first | (apply k_callf; first | exact ops_callv (hfc := h) | fail) | fail) (hk := ?_) | refine l_op (hk := ?_))
  refine en_end (hf := Try.results43) (hr := ?_); simp only [ne, nf, nl, nr, lget, reduceIte, Nat.reduceEqDiff]; first | rfl | refine congrArg RVb ?_ | refine congrArg RVi ?_ | skip
theorem fillLp_len : ∀ (f : Nat) (q : Cur × List (List Int) × List (List Int)), (fillLp f q).2.1.length ≤ q.2.1.length + f
  | 0, q => by simp [fillLp]
  | f + 1, q => by
    rw [fillLp]
    split
    · have := fillLp_len f (pickC q.1 2, q.2.1 ++ [[0]], q.2.2 ++ [[]])
      simp only [List.length_append, List.length_singleton] at this
      omega
    · dsimp only; omega
theorem loose_len (c : Cur) (most : Nat) (h0 : 0 < most) : (loose c most).2.1.length ≤ most + 38 := by
  have h := (drawLp_small c most h0).2.2.1
  unfold loose
  generalize drawLp c most = q at *
  split
  · split
    · simp; omega
    · split
      · dsimp only; omega
      · split
        · simp
        · have := fillLp_len 38 (pickC (pickC (pickC q.1 12) q.2.1.length) 4, q.2)
          dsimp only at this
          omega
  · dsimp only; omega
theorem drawStp_len (c : Cur) (most : Nat) (h0 : 0 < most) (hm : most ≤ 36) : (drawStp c most).2.1.length ≤ 100 := by
  unfold drawStp
  split
  · dsimp only
    unfold nmA
    split
    · simp
    · have := readLp_len (by assumption)
      omega
  · have hl := pickV_lt (pickC c 3) most h0
    have hS := (stpTo_small (pickC (pickC c 3) most, [], []) ⟨rfl, rfl⟩ (1 + pickV (pickC c 3) most)).2.1
    generalize stpTo (pickC (pickC c 3) most, [], []) (1 + pickV (pickC c 3) most) = q at *
    split
    · have := loose_len (pickC q.1 10) 5 (by omega)
      omega
    · dsimp only; omega
theorem drawAL_ok (code : List UInt8) : ∃ (L R : List (List Int)) (u : Int) (L2 R2 : List (List Int)) (v : Nat), FCr Try.prog 35 [RYs code] (.tup [OLp L R, RVi u, OLp L2 R2, RVn v]) := by
  have h1 := drawStp_ok (cur0 code) 5 (by simp) (by omega) (by omega)
  have a1 := drawStp_at (cur0 code) 5 (by omega) (by omega)
  have h2 := drawStp_ok (drawStp (cur0 code) 5).1 5 (by simp at a1; omega) (by omega) (by omega)
  have a2 := drawStp_at (drawStp (cur0 code) 5).1 5 (by omega) (by omega)
  have a0 : (cur0 code).at_ = 0 := rfl
  have l1 := drawStp_len (cur0 code) 5 (by omega) (by omega)
  have l2 := drawStp_len (drawStp (cur0 code) 5).1 5 (by omega) (by omega)
  generalize drawStp (cur0 code) 5 = q at *
  generalize drawStp q.1 5 = z at *
  obtain ⟨c1, L, R⟩ := q
  obtain ⟨c2, L2, R2⟩ := z
  dsimp only at *
  have p1 := pick_ok c2 (L.length + 1) (by omega) (by omega)
  have k1 := pickC_at c2 (L.length + 1)
  have v1 := pickV_lt c2 (L.length + 1) (by omega)
  generalize pickV c2 (L.length + 1) = x at *
  generalize pickC c2 (L.length + 1) = c3 at *
  have p2 := pick_ok c3 10 (by omega) (by omega)
  have k2 := pickC_at c3 10
  have v2 := pickV_lt c3 10 (by omega)
  generalize pickV c3 10 = y at *
  generalize pickC c3 10 = c4 at *
  have p3 := pick_ok c4 (L2.length + 1) (by omega) (by omega)
  have v3 := pickV_lt c4 (L2.length + 1) (by omega)
  generalize pickV c4 (L2.length + 1) = z at *
  generalize pickC c4 (L2.length + 1) = c5 at *
  refine ⟨L, R, (x : Int) - ((y / 9 : Nat) : Int), L2, R2, z, ?_⟩
  refine (fcr_in Try.func35 rfl (by simp only [Try.ntmps35, anys, List.length_cons, List.length_nil, Nat.reduceAdd, Nat.reduceSub, List.replicate_succ, List.replicate_zero, List.cons_append, List.nil_append] <;> rfl) ?_)
  repeat' first
    | refine w_seq ?_
    | refine w_region ?_
    | refine l_nil ?_
    | refine rt_n ?_
    | refine w_ret ?_
    | refine rt_ret ?_
    | refine w_skip ?_
    | (refine l_o ?_; first | refine l_op rfl (by first | (apply k_add; first | exact ops_addn (a := L.length) (b := 1) rfl rfl (by omega) | exact ops_addn (a := L2.length) (b := 1) rfl rfl (by omega) | fail) | (apply k_quo; first | exact ops_quon (m := y) (n := 9) rfl rfl (by omega) (by omega) | fail) | (apply k_sub; first | exact ops_sub (m := (x : Int)) (n := ((y / 9 : Nat) : Int)) rfl rfl (by omega) (by omega) | fail) | (apply k_callf; first | exact ops_callP (d := 14) 12 [RCur c1] (hfc := h1) | exact ops_callP (d := 16) 12 [RCur c2] (hfc := h2) | exact ops_callP (d := 22) 12 [RCur c3] (hfc := p1) | exact ops_callP (d := 24) 12 [RCur c4] (hfc := p2) | exact ops_callP (d := 35) 12 [RCur c5] (hfc := p3) | fail) | fail) (hk := ?_) | refine l_op (hk := ?_))
    | refine e_nil ?_
    | (refine e_o ?_; first | refine e_fl rfl (by first | exact .pl (by first | (apply q_add; first | exact fs_addn (a := L.length) (b := 1) rfl rfl (by omega) | exact fs_addn (a := L2.length) (b := 1) rfl rfl (by omega) | fail) | (apply q_quo; first | exact fs_quon (m := y) (n := 9) rfl rfl (by omega) (by omega) | fail) | (apply q_sub; first | exact fs_sub (m := (x : Int)) (n := ((y / 9 : Nat) : Int)) rfl rfl (by omega) (by omega) | fail) | fail) | fail) (hk := ?_) | refine e_fl (hk := ?_) | refine e_ef rfl (by first | exact .callP (d := 14) 12 [RCur c1] (hfc := h1) | exact .callP (d := 16) 12 [RCur c2] (hfc := h2) | exact .callP (d := 22) 12 [RCur c3] (hfc := p1) | exact .callP (d := 24) 12 [RCur c4] (hfc := p2) | exact .callP (d := 35) 12 [RCur c5] (hfc := p3) | fail) (hk := ?_) | refine e_ef (hk := ?_))
    | (refine w_o ?_; first | refine w_drawS (id := 5) (rdP [(0, 7), (2, 8), (4, 8), (5, 8)]) (fun k => [8, 9, 11].contains k) [[],[],[]] (by kernel_rfl) rfl (by kernel_rfl) (by simp [nm, nset, -List.map_take, -List.map_drop]) ?_)
  -- DBG
  refine en_le _ (le_trans (le_drop 7 (by simp only [nz, nf, nl, nb, nr, ng, nq, nu, reduceIte, Nat.reduceEqDiff, Nat.reduceAdd]; rfl) (by simp only [nz, nf, nl, nb, nr, ng, nq, nu, reduceIte, Nat.reduceEqDiff, Nat.reduceAdd]; rfl)) (le_drop 8 (by simp only [nz, nf, nl, nb, nr, ng, nq, nu, reduceIte, Nat.reduceEqDiff, Nat.reduceAdd]; rfl) (by simp only [nz, nf, nl, nb, nr, ng, nq, nu, reduceIte, Nat.reduceEqDiff, Nat.reduceAdd]; rfl))) ?_
  refine en_end (hf := Try.results35) (hr := ?_); simp only [ne, nf, nl, nr, lget, reduceIte, Nat.reduceEqDiff]; first | rfl | refine congrArg RVb ?_ | refine congrArg RVi ?_ | skip
end Go.Proofs.Ytmalajoglcpijaa
