/- What the program tells of a solved loop: who wins, in how many moves, who holds out, the table. For all loops and places. -/
import Derived.Test.YtoekdkoadienmaaSolved
namespace Go.Proofs.Ytoekdkoadienmaa
open Eng
attribute [local irreducible] OpS OpG FC FCr Rel Fl Ef DR
set_option linter.unusedSimpArgs false
set_option maxHeartbeats 0
set_option maxRecDepth 100000

/-- Who wins from a place; in how many moves. -/
def winner (L R : List (List Int)) (a : Int) (left : Bool) : Int := if okAt L R a then ((finG L R).getD (stN a.toNat left) (0, 0)).1 else 0
def turnsTo (L R : List (List Int)) (a : Int) (left : Bool) : Int := if okAt L R a && decide ((((finG L R).getD (stN a.toNat left) (0, 0)).1) ≠ 0) then ((finG L R).getD (stN a.toNat left) (0, 0)).2 else 0
theorem okAt_good {L R a} (h : okAt L R a = true) : goodLp L R = true ∧ 0 ≤ a ∧ a < L.length := by simp [okAt] at h; exact ⟨h.1.1, h.1.2, h.2⟩
theorem stN_lt {L R : List (List Int)} {a} {left} (h : okAt L R a = true) : stN a.toNat left < (finG L R).length := by
  have := okAt_good h
  rw [finG_len]; unfold stN; split <;> omega

theorem implOutcome_ok (L R : List (List Int)) (a : Int) (left : Bool) : FCr Try.prog 24 [RLp L R, RVi a, RVb left] (.tup [RVi (winner L R a left), RVb (okAt L R a)]) := by
  have hS := solved_ok L R a left
  cases ho : okAt L R a with
  | false =>
    rw [ho] at hS
    have h1 : winner L R a left = 0 := by simp [winner, ho]
    rw [h1]
    refine (fcr_in Try.func24 rfl (by simp only [Try.ntmps24, anys, List.length_cons, List.length_nil, Nat.reduceAdd, Nat.reduceSub, List.replicate_succ, List.replicate_zero, List.cons_append, List.nil_append] <;> rfl) ?_)
    repeat' first
      | refine w_seq ?_
      | refine w_region ?_
      | refine l_nil ?_
      | refine rt_n ?_
      | refine w_ret ?_
      | refine rt_ret ?_
      | refine w_skip ?_
      | refine w_cond_t rfl ?_
      | refine w_cond_f rfl ?_
      | refine w_cnd rfl (fun hc => ?_) (fun hc => ?_)
      | refine w_cd rfl (fun hc => ?_) (fun hc => ?_)
      | refine w_cn rfl (fun hc => ?_) (fun hc => ?_)
      | refine w_cond rfl (fun hc => ?_) (fun hc => ?_)
      | (refine l_o ?_; refine l_op rfl (by first | exact ops_move | exact ops_assign | (apply k_extract; first | exact ops_extract rfl rfl | fail) | (apply k_not; first | exact ops_not rfl | fail) | (apply k_load; first | exact ops_load_psh rfl rfl (by decide +kernel) | exact ops_load_psha rfl (by decide +kernel) (by kernel_rfl) (by simp) | exact ops_load_map rfl rfl (by omega) rfl (by decide +kernel) | exact ops_load_mapa rfl rfl (by omega) rfl (by decide +kernel) (by kernel_rfl) | exact ops_load_mapj rfl rfl (by omega) rfl rfl (by decide +kernel) | exact ops_load_ptr rfl rfl rfl rfl rfl (by decide +kernel) | exact ops_load_ptra rfl rfl rfl rfl (by decide +kernel) (by kernel_rfl) | fail) | (apply k_fieldAddr; first | exact ops_fld_psh (off := 0) rfl (by decide +kernel) rfl | exact ops_fld_psh (off := 1) rfl (by decide +kernel) rfl | exact ops_fld_psh (off := 2) rfl (by decide +kernel) rfl | exact ops_fld_psh (off := 3) rfl (by decide +kernel) rfl | exact ops_fld_ptr (off := 0) rfl (by decide +kernel) rfl (by first | (simp; done) | (simp; omega) | fail) | exact ops_fld_ptr (off := 1) rfl (by decide +kernel) rfl (by first | (simp; done) | (simp; omega) | fail) | exact ops_fld_ptr (off := 2) rfl (by decide +kernel) rfl (by first | (simp; done) | (simp; omega) | fail) | exact ops_fld_ptr (off := 3) rfl (by decide +kernel) rfl (by first | (simp; done) | (simp; omega) | fail) | exact ops_fld_map (off := 0) rfl (by decide +kernel) rfl (by omega) | exact ops_fld_map (off := 1) rfl (by decide +kernel) rfl (by omega) | exact ops_fld_map (off := 2) rfl (by decide +kernel) rfl (by omega) | exact ops_fld_map (off := 3) rfl (by decide +kernel) rfl (by omega) | fail) | (apply k_indexAddr; first | exact ops_idx_map rfl rfl (by omega) (by kernel_rfl) (by kernel_rfl) | exact ops_idx_refm rfl rfl (by omega) rfl (by omega) (by kernel_rfl) (by kernel_rfl) | exact ops_idx_mapI rfl rfl (by omega) (by omega) (by kernel_rfl) (by kernel_rfl) | exact ops_idx_refmI rfl rfl (by omega) (by omega) rfl (by omega) (by kernel_rfl) (by kernel_rfl) | exact ops_idx_ref rfl rfl (by omega) rfl (by simp) (by kernel_rfl) (by kernel_rfl) | fail) | (apply k_box; first | exact ops_box (r := _) rfl rfl (by simp [nm]) (by simp [nm]) (by simp [nm]) | exact ops_boxa rfl (by simp) (by simp [nm]) (by simp [nm]) (by simp [nm]) | fail) | (apply k_alloc; first | exact ops_alloca (zs := _) rfl (by decide) rfl (by simp [nm]) (by simp [nm]) | exact ops_alloc rfl rfl (by simp [nm]) (by simp [nm]) | fail) | (apply k_store; first | exact ops_store_sealm rfl rfl rfl (by omega) rfl (by kernel_rfl) rfl (by simp) (by simp [nm]) (by decide) | exact ops_store_map rfl rfl rfl (by omega) rfl rfl (by kernel_rfl) | exact ops_store rfl rfl rfl rfl (by simp [RV.cellsL]) rfl (by kernel_rfl) | exact ops_storea rfl rfl rfl rfl rfl rfl (by kernel_rfl) | exact ops_storea_map rfl rfl rfl (by omega) rfl rfl (by kernel_rfl) | fail) | (apply k_callf; first | exact ops_callv (by first | rfl | (simp only [nz, nf, vw, nr, reduceIte, Nat.reduceEqDiff, ne_eq, not_false_eq_true]; rfl) | (simp [view1, viewC, olook, nv, nz, nf, *]; fail_if_success show _)) rfl (by kernel_rfl) (hS) (by simp [RV.resOkT, RV.resOk, RV.isAgg, nm]) (by simp [ns]) (by simp [nz, nm]) (by simp [nz, nm]) | fail) | fail) (by simp only [nz, nf, nl, nb, nr, reduceIte, Nat.reduceEqDiff, Nat.reduceAdd]; rfl) ?_)
    refine en_end (by first | exact .inl rfl | exact .inr rfl) Try.results24 (by decide) rfl (by kernel_rfl) rfl (by simp [ne, nm, lget] <;> omega) ?_; simp only [ne, nf, nl, nr, lget, reduceIte, Nat.reduceEqDiff]; first | rfl | refine congrArg RVb ?_ | refine congrArg RVi ?_ | skip
  | true =>
    have g := (goodN (okAt_good ho).1).len
    have hst := stN_lt (left := left) ho
    have hl := finG_len (L := L) (R := R)
    have h1 : winner L R a left = ((finG L R)[stN a.toNat left]).1 := by rw [winner, ho, if_pos rfl, gd hst]
    have h2 : slvB L R a = finG L R := by simp [slvB, ho]
    have h3 : slvS L R a left = stN a.toNat left := by simp [slvS, ho]
    rw [ho, h2, h3] at hS
    rw [h1]
    generalize stN a.toNat left = s at *
    generalize finG L R = fi at *
    refine (fcr_in Try.func24 rfl (by simp only [Try.ntmps24, anys, List.length_cons, List.length_nil, Nat.reduceAdd, Nat.reduceSub, List.replicate_succ, List.replicate_zero, List.cons_append, List.nil_append] <;> rfl) ?_)
    repeat' first
      | refine w_seq ?_
      | refine w_region ?_
      | refine l_nil ?_
      | refine rt_n ?_
      | refine w_ret ?_
      | refine rt_ret ?_
      | refine w_skip ?_
      | refine w_cond_t rfl ?_
      | refine w_cond_f rfl ?_
      | refine w_cnd rfl (fun hc => ?_) (fun hc => ?_)
      | refine w_cd rfl (fun hc => ?_) (fun hc => ?_)
      | refine w_cn rfl (fun hc => ?_) (fun hc => ?_)
      | refine w_cond rfl (fun hc => ?_) (fun hc => ?_)
      | (refine l_o ?_; refine l_op rfl (by first | exact ops_move | exact ops_assign | (apply k_extract; first | exact ops_extract rfl rfl | fail) | (apply k_not; first | exact ops_not rfl | fail) | (apply k_load; first | exact ops_load_psh rfl rfl (by decide +kernel) | exact ops_load_psha rfl (by decide +kernel) (by kernel_rfl) (by simp) | exact ops_load_map rfl rfl (by omega) rfl (by decide +kernel) | exact ops_load_mapa rfl rfl (by omega) rfl (by decide +kernel) (by kernel_rfl) | exact ops_load_mapj rfl rfl (by omega) rfl rfl (by decide +kernel) | exact ops_load_ptr rfl rfl rfl rfl rfl (by decide +kernel) | exact ops_load_ptra rfl rfl rfl rfl (by decide +kernel) (by kernel_rfl) | fail) | (apply k_fieldAddr; first | exact ops_fld_psh (off := 0) rfl (by decide +kernel) rfl | exact ops_fld_psh (off := 1) rfl (by decide +kernel) rfl | exact ops_fld_psh (off := 2) rfl (by decide +kernel) rfl | exact ops_fld_psh (off := 3) rfl (by decide +kernel) rfl | exact ops_fld_ptr (off := 0) rfl (by decide +kernel) rfl (by first | (simp; done) | (simp; omega) | fail) | exact ops_fld_ptr (off := 1) rfl (by decide +kernel) rfl (by first | (simp; done) | (simp; omega) | fail) | exact ops_fld_ptr (off := 2) rfl (by decide +kernel) rfl (by first | (simp; done) | (simp; omega) | fail) | exact ops_fld_ptr (off := 3) rfl (by decide +kernel) rfl (by first | (simp; done) | (simp; omega) | fail) | exact ops_fld_map (off := 0) rfl (by decide +kernel) rfl (by omega) | exact ops_fld_map (off := 1) rfl (by decide +kernel) rfl (by omega) | exact ops_fld_map (off := 2) rfl (by decide +kernel) rfl (by omega) | exact ops_fld_map (off := 3) rfl (by decide +kernel) rfl (by omega) | fail) | (apply k_indexAddr; first | exact ops_idx_map rfl rfl (by omega) (by kernel_rfl) (by kernel_rfl) | exact ops_idx_refm rfl rfl (by omega) rfl (by omega) (by kernel_rfl) (by kernel_rfl) | exact ops_idx_mapI rfl rfl (by omega) (by omega) (by kernel_rfl) (by kernel_rfl) | exact ops_idx_refmI rfl rfl (by omega) (by omega) rfl (by omega) (by kernel_rfl) (by kernel_rfl) | exact ops_idx_ref rfl rfl (by omega) rfl (by simp) (by kernel_rfl) (by kernel_rfl) | fail) | (apply k_box; first | exact ops_box (r := _) rfl rfl (by simp [nm]) (by simp [nm]) (by simp [nm]) | exact ops_boxa rfl (by simp) (by simp [nm]) (by simp [nm]) (by simp [nm]) | fail) | (apply k_alloc; first | exact ops_alloca (zs := _) rfl (by decide) rfl (by simp [nm]) (by simp [nm]) | exact ops_alloc rfl rfl (by simp [nm]) (by simp [nm]) | fail) | (apply k_store; first | exact ops_store_sealm rfl rfl rfl (by omega) rfl (by kernel_rfl) rfl (by simp) (by simp [nm]) (by decide) | exact ops_store_map rfl rfl rfl (by omega) rfl rfl (by kernel_rfl) | exact ops_store rfl rfl rfl rfl (by simp [RV.cellsL]) rfl (by kernel_rfl) | exact ops_storea rfl rfl rfl rfl rfl rfl (by kernel_rfl) | exact ops_storea_map rfl rfl rfl (by omega) rfl rfl (by kernel_rfl) | fail) | (apply k_callf; first | exact ops_callv (by first | rfl | (simp only [nz, nf, vw, nr, reduceIte, Nat.reduceEqDiff, ne_eq, not_false_eq_true]; rfl) | (simp [view1, viewC, olook, nv, nz, nf, *]; fail_if_success show _)) rfl (by kernel_rfl) (hS) (by simp [RV.resOkT, RV.resOk, RV.isAgg, nm]) (by simp [ns]) (by simp [nz, nm]) (by simp [nz, nm]) | fail) | fail) (by simp only [nz, nf, nl, nb, nr, reduceIte, Nat.reduceEqDiff, Nat.reduceAdd]; rfl) ?_)
    refine en_end (by first | exact .inl rfl | exact .inr rfl) Try.results24 (by decide) rfl (by kernel_rfl) rfl (by simp [ne, nm, lget] <;> omega) ?_; simp only [ne, nf, nl, nr, lget, reduceIte, Nat.reduceEqDiff]; first | rfl | refine congrArg RVb ?_ | refine congrArg RVi ?_ | skip

theorem implWinIn_ok (L R : List (List Int)) (a : Int) (left : Bool) : FCr Try.prog 22 [RLp L R, RVi a, RVb left] (.tup [RVi (turnsTo L R a left), RVb (okAt L R a && decide (winner L R a left ≠ 0))]) := by
  have hS := solved_ok L R a left
  cases ho : okAt L R a with
  | false =>
    rw [ho] at hS
    have h1 : turnsTo L R a left = 0 := by simp [turnsTo, ho]
    rw [h1]
    refine (fcr_in Try.func22 rfl (by simp only [Try.ntmps22, anys, List.length_cons, List.length_nil, Nat.reduceAdd, Nat.reduceSub, List.replicate_succ, List.replicate_zero, List.cons_append, List.nil_append] <;> rfl) ?_)
    repeat' first
      | refine w_seq ?_
      | refine w_region ?_
      | refine l_nil ?_
      | refine rt_n ?_
      | refine w_ret ?_
      | refine rt_ret ?_
      | refine w_skip ?_
      | refine w_cond_t rfl ?_
      | refine w_cond_f rfl ?_
      | refine w_cnd rfl (fun hc => ?_) (fun hc => ?_)
      | refine w_cd rfl (fun hc => ?_) (fun hc => ?_)
      | refine w_cn rfl (fun hc => ?_) (fun hc => ?_)
      | refine w_cond rfl (fun hc => ?_) (fun hc => ?_)
      | (refine l_o ?_; first | refine l_eqnil rfl (by kernel_rfl) (by intro b; simp only [nz]; rfl) (fun b hb => ?_) | refine l_op rfl (by first | exact ops_move | exact ops_assign | (apply k_eql; first | exact ops_eqi rfl rfl | exact ops_eqs rfl rfl | exact ops_eqb rfl rfl (by kernel_rfl) | fail) | (apply k_extract; first | exact ops_extract rfl rfl | fail) | (apply k_not; first | exact ops_not rfl | fail) | (apply k_pick; first | exact ops_pick_t rfl | exact ops_pick_f rfl | exact ops_pick_b rfl rfl rfl | exact ops_pick_i rfl rfl rfl | fail) | (apply k_load; first | exact ops_load_psh rfl rfl (by decide +kernel) | exact ops_load_psha rfl (by decide +kernel) (by kernel_rfl) (by simp) | exact ops_load_map rfl rfl (by omega) rfl (by decide +kernel) | exact ops_load_mapa rfl rfl (by omega) rfl (by decide +kernel) (by kernel_rfl) | exact ops_load_mapj rfl rfl (by omega) rfl rfl (by decide +kernel) | exact ops_load_ptr rfl rfl rfl rfl rfl (by decide +kernel) | exact ops_load_ptra rfl rfl rfl rfl (by decide +kernel) (by kernel_rfl) | fail) | (apply k_fieldAddr; first | exact ops_fld_psh (off := 0) rfl (by decide +kernel) rfl | exact ops_fld_psh (off := 1) rfl (by decide +kernel) rfl | exact ops_fld_psh (off := 2) rfl (by decide +kernel) rfl | exact ops_fld_psh (off := 3) rfl (by decide +kernel) rfl | exact ops_fld_ptr (off := 0) rfl (by decide +kernel) rfl (by first | (simp; done) | (simp; omega) | fail) | exact ops_fld_ptr (off := 1) rfl (by decide +kernel) rfl (by first | (simp; done) | (simp; omega) | fail) | exact ops_fld_ptr (off := 2) rfl (by decide +kernel) rfl (by first | (simp; done) | (simp; omega) | fail) | exact ops_fld_ptr (off := 3) rfl (by decide +kernel) rfl (by first | (simp; done) | (simp; omega) | fail) | exact ops_fld_map (off := 0) rfl (by decide +kernel) rfl (by omega) | exact ops_fld_map (off := 1) rfl (by decide +kernel) rfl (by omega) | exact ops_fld_map (off := 2) rfl (by decide +kernel) rfl (by omega) | exact ops_fld_map (off := 3) rfl (by decide +kernel) rfl (by omega) | fail) | (apply k_indexAddr; first | exact ops_idx_map rfl rfl (by omega) (by kernel_rfl) (by kernel_rfl) | exact ops_idx_refm rfl rfl (by omega) rfl (by omega) (by kernel_rfl) (by kernel_rfl) | exact ops_idx_mapI rfl rfl (by omega) (by omega) (by kernel_rfl) (by kernel_rfl) | exact ops_idx_refmI rfl rfl (by omega) (by omega) rfl (by omega) (by kernel_rfl) (by kernel_rfl) | exact ops_idx_ref rfl rfl (by omega) rfl (by simp) (by kernel_rfl) (by kernel_rfl) | fail) | (apply k_box; first | exact ops_box (r := _) rfl rfl (by simp [nm]) (by simp [nm]) (by simp [nm]) | exact ops_boxa rfl (by simp) (by simp [nm]) (by simp [nm]) (by simp [nm]) | fail) | (apply k_alloc; first | exact ops_alloca (zs := _) rfl (by decide) rfl (by simp [nm]) (by simp [nm]) | exact ops_alloc rfl rfl (by simp [nm]) (by simp [nm]) | fail) | (apply k_store; first | exact ops_store_sealm rfl rfl rfl (by omega) rfl (by kernel_rfl) rfl (by simp) (by simp [nm]) (by decide) | exact ops_store_map rfl rfl rfl (by omega) rfl rfl (by kernel_rfl) | exact ops_store rfl rfl rfl rfl (by simp [RV.cellsL]) rfl (by kernel_rfl) | exact ops_storea rfl rfl rfl rfl rfl rfl (by kernel_rfl) | exact ops_storea_map rfl rfl rfl (by omega) rfl rfl (by kernel_rfl) | fail) | (apply k_callf; first | exact ops_callv (by first | rfl | (simp only [nz, nf, vw, nr, reduceIte, Nat.reduceEqDiff, ne_eq, not_false_eq_true]; rfl) | (simp [view1, viewC, olook, nv, nz, nf, *]; fail_if_success show _)) rfl (by kernel_rfl) (hS) (by simp [RV.resOkT, RV.resOk, RV.isAgg, nm]) (by simp [ns]) (by simp [nz, nm]) (by simp [nz, nm]) | fail) | fail) (by simp only [nz, nf, nl, nb, nr, reduceIte, Nat.reduceEqDiff, Nat.reduceAdd]; rfl) ?_ | (refine l_g ?_; first | refine l_y rfl rfl rfl ?_ | refine l_n rfl rfl rfl rfl (by simp only [nz, nf, nl, nb, nr, reduceIte, Nat.reduceEqDiff, Nat.reduceAdd]; rfl) ?_ | refine l_n' rfl rfl rfl (by simp only [nz, nf, nl, nb, nr, reduceIte, Nat.reduceEqDiff, Nat.reduceAdd]; rfl) ?_ | refine l_spnd rfl rfl rfl (by simp only [nz, nf, nl, nb, nr, reduceIte, Nat.reduceEqDiff, Nat.reduceAdd]; rfl) (by simp only [nz, nf, nl, nb, nr, reduceIte, Nat.reduceEqDiff, Nat.reduceAdd]; rfl) (fun hc => ?_) (fun hc => ?_) | refine l_spd rfl rfl rfl (by simp only [nz, nf, nl, nb, nr, reduceIte, Nat.reduceEqDiff, Nat.reduceAdd]; rfl) (by simp only [nz, nf, nl, nb, nr, reduceIte, Nat.reduceEqDiff, Nat.reduceAdd]; rfl) (fun hc => ?_) (fun hc => ?_) | refine l_spn rfl rfl rfl (by simp only [nz, nf, nl, nb, nr, reduceIte, Nat.reduceEqDiff, Nat.reduceAdd]; rfl) (by simp only [nz, nf, nl, nb, nr, reduceIte, Nat.reduceEqDiff, Nat.reduceAdd]; rfl) (fun hc => ?_) (fun hc => ?_) | refine l_sp rfl rfl rfl (by simp only [nz, nf, nl, nb, nr, reduceIte, Nat.reduceEqDiff, Nat.reduceAdd]; rfl) (by simp only [nz, nf, nl, nb, nr, reduceIte, Nat.reduceEqDiff, Nat.reduceAdd]; rfl) (fun hc => ?_) (fun hc => ?_)))
    refine en_end (by first | exact .inl rfl | exact .inr rfl) Try.results22 (by decide) rfl (by kernel_rfl) rfl (by simp [ne, nm, lget] <;> omega) ?_; simp only [ne, nf, nl, nr, lget, reduceIte, Nat.reduceEqDiff]; first | rfl | refine congrArg RVb ?_ | refine congrArg RVi ?_ | skip
  | true =>
    have g := (goodN (okAt_good ho).1).len
    have hst := stN_lt (left := left) ho
    have hl := finG_len (L := L) (R := R)
    have h0 : winner L R a left = ((finG L R)[stN a.toNat left]).1 := by rw [winner, ho, if_pos rfl, gd hst]
    have h1 : turnsTo L R a left = if ((finG L R)[stN a.toNat left]).1 ≠ 0 then ((finG L R)[stN a.toNat left]).2 else 0 := by rw [turnsTo, ho, gd hst]; simp
    have h2 : slvB L R a = finG L R := by simp [slvB, ho]
    have h3 : slvS L R a left = stN a.toNat left := by simp [slvS, ho]
    rw [ho, h2, h3] at hS
    rw [h0, h1]
    clear h0 h1
    generalize stN a.toNat left = s at *
    generalize finG L R = fi at *
    refine (fcr_in Try.func22 rfl (by simp only [Try.ntmps22, anys, List.length_cons, List.length_nil, Nat.reduceAdd, Nat.reduceSub, List.replicate_succ, List.replicate_zero, List.cons_append, List.nil_append] <;> rfl) ?_)
    repeat' first
      | refine w_seq ?_
      | refine w_region ?_
      | refine l_nil ?_
      | refine rt_n ?_
      | refine w_ret ?_
      | refine rt_ret ?_
      | refine w_skip ?_
      | refine w_cond_t rfl ?_
      | refine w_cond_f rfl ?_
      | refine w_cnd rfl (fun hc => ?_) (fun hc => ?_)
      | refine w_cd rfl (fun hc => ?_) (fun hc => ?_)
      | refine w_cn rfl (fun hc => ?_) (fun hc => ?_)
      | refine w_cond rfl (fun hc => ?_) (fun hc => ?_)
      | (refine l_o ?_; first | refine l_eqnil rfl (by kernel_rfl) (by intro b; simp only [nz]; rfl) (fun b hb => ?_) | refine l_op rfl (by first | exact ops_move | exact ops_assign | (apply k_eql; first | exact ops_eqi rfl rfl | exact ops_eqs rfl rfl | exact ops_eqb rfl rfl (by kernel_rfl) | fail) | (apply k_extract; first | exact ops_extract rfl rfl | fail) | (apply k_not; first | exact ops_not rfl | fail) | (apply k_pick; first | exact ops_pick_t rfl | exact ops_pick_f rfl | exact ops_pick_b rfl rfl rfl | exact ops_pick_i rfl rfl rfl | fail) | (apply k_load; first | exact ops_load_psh rfl rfl (by decide +kernel) | exact ops_load_psha rfl (by decide +kernel) (by kernel_rfl) (by simp) | exact ops_load_map rfl rfl (by omega) rfl (by decide +kernel) | exact ops_load_mapa rfl rfl (by omega) rfl (by decide +kernel) (by kernel_rfl) | exact ops_load_mapj rfl rfl (by omega) rfl rfl (by decide +kernel) | exact ops_load_ptr rfl rfl rfl rfl rfl (by decide +kernel) | exact ops_load_ptra rfl rfl rfl rfl (by decide +kernel) (by kernel_rfl) | fail) | (apply k_fieldAddr; first | exact ops_fld_psh (off := 0) rfl (by decide +kernel) rfl | exact ops_fld_psh (off := 1) rfl (by decide +kernel) rfl | exact ops_fld_psh (off := 2) rfl (by decide +kernel) rfl | exact ops_fld_psh (off := 3) rfl (by decide +kernel) rfl | exact ops_fld_ptr (off := 0) rfl (by decide +kernel) rfl (by first | (simp; done) | (simp; omega) | fail) | exact ops_fld_ptr (off := 1) rfl (by decide +kernel) rfl (by first | (simp; done) | (simp; omega) | fail) | exact ops_fld_ptr (off := 2) rfl (by decide +kernel) rfl (by first | (simp; done) | (simp; omega) | fail) | exact ops_fld_ptr (off := 3) rfl (by decide +kernel) rfl (by first | (simp; done) | (simp; omega) | fail) | exact ops_fld_map (off := 0) rfl (by decide +kernel) rfl (by omega) | exact ops_fld_map (off := 1) rfl (by decide +kernel) rfl (by omega) | exact ops_fld_map (off := 2) rfl (by decide +kernel) rfl (by omega) | exact ops_fld_map (off := 3) rfl (by decide +kernel) rfl (by omega) | fail) | (apply k_indexAddr; first | exact ops_idx_map rfl rfl (by omega) (by kernel_rfl) (by kernel_rfl) | exact ops_idx_refm rfl rfl (by omega) rfl (by omega) (by kernel_rfl) (by kernel_rfl) | exact ops_idx_mapI rfl rfl (by omega) (by omega) (by kernel_rfl) (by kernel_rfl) | exact ops_idx_refmI rfl rfl (by omega) (by omega) rfl (by omega) (by kernel_rfl) (by kernel_rfl) | exact ops_idx_ref rfl rfl (by omega) rfl (by simp) (by kernel_rfl) (by kernel_rfl) | fail) | (apply k_box; first | exact ops_box (r := _) rfl rfl (by simp [nm]) (by simp [nm]) (by simp [nm]) | exact ops_boxa rfl (by simp) (by simp [nm]) (by simp [nm]) (by simp [nm]) | fail) | (apply k_alloc; first | exact ops_alloca (zs := _) rfl (by decide) rfl (by simp [nm]) (by simp [nm]) | exact ops_alloc rfl rfl (by simp [nm]) (by simp [nm]) | fail) | (apply k_store; first | exact ops_store_sealm rfl rfl rfl (by omega) rfl (by kernel_rfl) rfl (by simp) (by simp [nm]) (by decide) | exact ops_store_map rfl rfl rfl (by omega) rfl rfl (by kernel_rfl) | exact ops_store rfl rfl rfl rfl (by simp [RV.cellsL]) rfl (by kernel_rfl) | exact ops_storea rfl rfl rfl rfl rfl rfl (by kernel_rfl) | exact ops_storea_map rfl rfl rfl (by omega) rfl rfl (by kernel_rfl) | fail) | (apply k_callf; first | exact ops_callv (by first | rfl | (simp only [nz, nf, vw, nr, reduceIte, Nat.reduceEqDiff, ne_eq, not_false_eq_true]; rfl) | (simp [view1, viewC, olook, nv, nz, nf, *]; fail_if_success show _)) rfl (by kernel_rfl) (hS) (by simp [RV.resOkT, RV.resOk, RV.isAgg, nm]) (by simp [ns]) (by simp [nz, nm]) (by simp [nz, nm]) | fail) | fail) (by simp only [nz, nf, nl, nb, nr, reduceIte, Nat.reduceEqDiff, Nat.reduceAdd]; rfl) ?_ | (refine l_g ?_; first | refine l_y rfl rfl rfl ?_ | refine l_n rfl rfl rfl rfl (by simp only [nz, nf, nl, nb, nr, reduceIte, Nat.reduceEqDiff, Nat.reduceAdd]; rfl) ?_ | refine l_n' rfl rfl rfl (by simp only [nz, nf, nl, nb, nr, reduceIte, Nat.reduceEqDiff, Nat.reduceAdd]; rfl) ?_ | refine l_spnd rfl rfl rfl (by simp only [nz, nf, nl, nb, nr, reduceIte, Nat.reduceEqDiff, Nat.reduceAdd]; rfl) (by simp only [nz, nf, nl, nb, nr, reduceIte, Nat.reduceEqDiff, Nat.reduceAdd]; rfl) (fun hc => ?_) (fun hc => ?_) | refine l_spd rfl rfl rfl (by simp only [nz, nf, nl, nb, nr, reduceIte, Nat.reduceEqDiff, Nat.reduceAdd]; rfl) (by simp only [nz, nf, nl, nb, nr, reduceIte, Nat.reduceEqDiff, Nat.reduceAdd]; rfl) (fun hc => ?_) (fun hc => ?_) | refine l_spn rfl rfl rfl (by simp only [nz, nf, nl, nb, nr, reduceIte, Nat.reduceEqDiff, Nat.reduceAdd]; rfl) (by simp only [nz, nf, nl, nb, nr, reduceIte, Nat.reduceEqDiff, Nat.reduceAdd]; rfl) (fun hc => ?_) (fun hc => ?_) | refine l_sp rfl rfl rfl (by simp only [nz, nf, nl, nb, nr, reduceIte, Nat.reduceEqDiff, Nat.reduceAdd]; rfl) (by simp only [nz, nf, nl, nb, nr, reduceIte, Nat.reduceEqDiff, Nat.reduceAdd]; rfl) (fun hc => ?_) (fun hc => ?_)))
    · rw [if_neg (by simpa using hc), decide_eq_false (by simpa using hc)]
      refine en_end (by first | exact .inl rfl | exact .inr rfl) Try.results22 (by decide) rfl (by kernel_rfl) rfl (by simp [ne, nm, lget] <;> omega) ?_; simp only [ne, nf, nl, nr, lget, reduceIte, Nat.reduceEqDiff]; first | rfl | refine congrArg RVb ?_ | refine congrArg RVi ?_ | skip
    · rw [if_pos hc, decide_eq_true hc]
      refine en_end (by first | exact .inl rfl | exact .inr rfl) Try.results22 (by decide) rfl (by kernel_rfl) rfl (by simp [ne, nm, lget] <;> omega) ?_; simp only [ne, nf, nl, nr, lget, reduceIte, Nat.reduceEqDiff]; first | rfl | refine congrArg RVb ?_ | refine congrArg RVi ?_ | skip

theorem implHolds_ok (L R : List (List Int)) (a : Int) (left who : Bool) : FCr Try.prog 26 [RLp L R, RVi a, RVb left, RVb who] (.tup [RVb (okAt L R a && decide (winner L R a left ≠ if who then 2 else 1)), RVb (okAt L R a)]) := by
  have hS := implOutcome_ok L R a left
  cases ho : okAt L R a with
  | false =>
    rw [ho] at hS
    refine (fcr_in Try.func26 rfl (by simp only [Try.ntmps26, anys, List.length_cons, List.length_nil, Nat.reduceAdd, Nat.reduceSub, List.replicate_succ, List.replicate_zero, List.cons_append, List.nil_append] <;> rfl) ?_)
    repeat' first
      | refine w_seq ?_
      | refine w_region ?_
      | refine l_nil ?_
      | refine rt_n ?_
      | refine w_ret ?_
      | refine rt_ret ?_
      | refine w_skip ?_
      | refine w_cond_t rfl ?_
      | refine w_cond_f rfl ?_
      | refine w_cnd rfl (fun hc => ?_) (fun hc => ?_)
      | refine w_cd rfl (fun hc => ?_) (fun hc => ?_)
      | refine w_cn rfl (fun hc => ?_) (fun hc => ?_)
      | refine w_cond rfl (fun hc => ?_) (fun hc => ?_)
      | (refine l_o ?_; refine l_op rfl (by first | exact ops_move | exact ops_assign | (apply k_neq; first | exact ops_nei rfl rfl | exact ops_nes rfl rfl | exact ops_neb rfl rfl (by kernel_rfl) | fail) | (apply k_extract; first | exact ops_extract rfl rfl | fail) | (apply k_not; first | exact ops_not rfl | fail) | (apply k_load; first | exact ops_load_psh rfl rfl (by decide +kernel) | exact ops_load_psha rfl (by decide +kernel) (by kernel_rfl) (by simp) | exact ops_load_map rfl rfl (by omega) rfl (by decide +kernel) | exact ops_load_mapa rfl rfl (by omega) rfl (by decide +kernel) (by kernel_rfl) | exact ops_load_mapj rfl rfl (by omega) rfl rfl (by decide +kernel) | exact ops_load_ptr rfl rfl rfl rfl rfl (by decide +kernel) | exact ops_load_ptra rfl rfl rfl rfl (by decide +kernel) (by kernel_rfl) | fail) | (apply k_box; first | exact ops_box (r := _) rfl rfl (by simp [nm]) (by simp [nm]) (by simp [nm]) | exact ops_boxa rfl (by simp) (by simp [nm]) (by simp [nm]) (by simp [nm]) | fail) | (apply k_callf; first | exact ops_callf rfl rfl (by kernel_rfl) (hS) | fail) | fail) (by simp only [nz, nf, nl, nb, nr, reduceIte, Nat.reduceEqDiff, Nat.reduceAdd]; rfl) ?_)
    refine en_end (by first | exact .inl rfl | exact .inr rfl) Try.results26 (by decide) rfl (by kernel_rfl) rfl (by simp [ne, nm, lget] <;> omega) ?_; simp only [ne, nf, nl, nr, lget, reduceIte, Nat.reduceEqDiff]; first | rfl | refine congrArg RVb ?_ | refine congrArg RVi ?_ | skip
  | true =>
    rw [ho] at hS
    cases who with
    | true =>
      refine (fcr_in Try.func26 rfl (by simp only [Try.ntmps26, anys, List.length_cons, List.length_nil, Nat.reduceAdd, Nat.reduceSub, List.replicate_succ, List.replicate_zero, List.cons_append, List.nil_append] <;> rfl) ?_)
      repeat' first
        | refine w_seq ?_
        | refine w_region ?_
        | refine l_nil ?_
        | refine rt_n ?_
        | refine w_ret ?_
        | refine rt_ret ?_
        | refine w_skip ?_
        | refine w_cond_t rfl ?_
        | refine w_cond_f rfl ?_
        | refine w_cnd rfl (fun hc => ?_) (fun hc => ?_)
        | refine w_cd rfl (fun hc => ?_) (fun hc => ?_)
        | refine w_cn rfl (fun hc => ?_) (fun hc => ?_)
        | refine w_cond rfl (fun hc => ?_) (fun hc => ?_)
        | (refine l_o ?_; refine l_op rfl (by first | exact ops_move | exact ops_assign | (apply k_neq; first | exact ops_nei rfl rfl | exact ops_nes rfl rfl | exact ops_neb rfl rfl (by kernel_rfl) | fail) | (apply k_extract; first | exact ops_extract rfl rfl | fail) | (apply k_not; first | exact ops_not rfl | fail) | (apply k_load; first | exact ops_load_psh rfl rfl (by decide +kernel) | exact ops_load_psha rfl (by decide +kernel) (by kernel_rfl) (by simp) | exact ops_load_map rfl rfl (by omega) rfl (by decide +kernel) | exact ops_load_mapa rfl rfl (by omega) rfl (by decide +kernel) (by kernel_rfl) | exact ops_load_mapj rfl rfl (by omega) rfl rfl (by decide +kernel) | exact ops_load_ptr rfl rfl rfl rfl rfl (by decide +kernel) | exact ops_load_ptra rfl rfl rfl rfl (by decide +kernel) (by kernel_rfl) | fail) | (apply k_box; first | exact ops_box (r := _) rfl rfl (by simp [nm]) (by simp [nm]) (by simp [nm]) | exact ops_boxa rfl (by simp) (by simp [nm]) (by simp [nm]) (by simp [nm]) | fail) | (apply k_callf; first | exact ops_callf rfl rfl (by kernel_rfl) (hS) | fail) | fail) (by simp only [nz, nf, nl, nb, nr, reduceIte, Nat.reduceEqDiff, Nat.reduceAdd]; rfl) ?_)
      refine en_end (by first | exact .inl rfl | exact .inr rfl) Try.results26 (by decide) rfl (by kernel_rfl) rfl (by simp [ne, nm, lget] <;> omega) ?_; simp only [ne, nf, nl, nr, lget, reduceIte, Nat.reduceEqDiff]; first | rfl | refine congrArg RVb ?_ | refine congrArg RVi ?_ | skip
    | false =>
      refine (fcr_in Try.func26 rfl (by simp only [Try.ntmps26, anys, List.length_cons, List.length_nil, Nat.reduceAdd, Nat.reduceSub, List.replicate_succ, List.replicate_zero, List.cons_append, List.nil_append] <;> rfl) ?_)
      repeat' first
        | refine w_seq ?_
        | refine w_region ?_
        | refine l_nil ?_
        | refine rt_n ?_
        | refine w_ret ?_
        | refine rt_ret ?_
        | refine w_skip ?_
        | refine w_cond_t rfl ?_
        | refine w_cond_f rfl ?_
        | refine w_cnd rfl (fun hc => ?_) (fun hc => ?_)
        | refine w_cd rfl (fun hc => ?_) (fun hc => ?_)
        | refine w_cn rfl (fun hc => ?_) (fun hc => ?_)
        | refine w_cond rfl (fun hc => ?_) (fun hc => ?_)
        | (refine l_o ?_; refine l_op rfl (by first | exact ops_move | exact ops_assign | (apply k_neq; first | exact ops_nei rfl rfl | exact ops_nes rfl rfl | exact ops_neb rfl rfl (by kernel_rfl) | fail) | (apply k_extract; first | exact ops_extract rfl rfl | fail) | (apply k_not; first | exact ops_not rfl | fail) | (apply k_load; first | exact ops_load_psh rfl rfl (by decide +kernel) | exact ops_load_psha rfl (by decide +kernel) (by kernel_rfl) (by simp) | exact ops_load_map rfl rfl (by omega) rfl (by decide +kernel) | exact ops_load_mapa rfl rfl (by omega) rfl (by decide +kernel) (by kernel_rfl) | exact ops_load_mapj rfl rfl (by omega) rfl rfl (by decide +kernel) | exact ops_load_ptr rfl rfl rfl rfl rfl (by decide +kernel) | exact ops_load_ptra rfl rfl rfl rfl (by decide +kernel) (by kernel_rfl) | fail) | (apply k_box; first | exact ops_box (r := _) rfl rfl (by simp [nm]) (by simp [nm]) (by simp [nm]) | exact ops_boxa rfl (by simp) (by simp [nm]) (by simp [nm]) (by simp [nm]) | fail) | (apply k_callf; first | exact ops_callf rfl rfl (by kernel_rfl) (hS) | fail) | fail) (by simp only [nz, nf, nl, nb, nr, reduceIte, Nat.reduceEqDiff, Nat.reduceAdd]; rfl) ?_)
      refine en_end (by first | exact .inl rfl | exact .inr rfl) Try.results26 (by decide) rfl (by kernel_rfl) rfl (by simp [ne, nm, lget] <;> omega) ?_; simp only [ne, nf, nl, nr, lget, reduceIte, Nat.reduceEqDiff]; first | rfl | refine congrArg RVb ?_ | refine congrArg RVi ?_ | skip

/-- The table of who wins. -/
def tbl (L R : List (List Int)) : List Int := if goodLp L R then (finG L R).map (·.1) else []
theorem implTable_ok (L R : List (List Int)) : FCr Try.prog 28 [RLp L R] (.tup [OIs (tbl L R), RVb (goodLp L R)]) := by
  cases hg : goodLp L R with
  | false =>
    have h1 : tbl L R = [] := by simp [tbl, hg]
    rw [h1]
    refine (fcr_in Try.func28 rfl (by simp only [Try.ntmps28, anys, List.length_cons, List.length_nil, Nat.reduceAdd, Nat.reduceSub, List.replicate_succ, List.replicate_zero, List.cons_append, List.nil_append] <;> rfl) ?_)
    repeat' first
      | refine w_seq ?_
      | refine w_block ?_
      | refine rb_n ?_
      | refine rb_ret ?_
      | refine rb_eq ?_
      | refine rb_ne (by rfl) ?_
      | refine w_exit ?_
      | refine rt_exit ?_
      | refine w_region ?_
      | refine l_nil ?_
      | refine rt_n ?_
      | refine w_ret ?_
      | refine rt_ret ?_
      | refine w_skip ?_
      | refine w_cond_t rfl ?_
      | refine w_cond_f rfl ?_
      | refine w_cnd rfl (fun hc => ?_) (fun hc => ?_)
      | refine w_cd rfl (fun hc => ?_) (fun hc => ?_)
      | refine w_cn rfl (fun hc => ?_) (fun hc => ?_)
      | refine w_cond rfl (fun hc => ?_) (fun hc => ?_)
      | (refine l_o ?_; refine l_op rfl (by first | exact ops_move | exact ops_assign | (apply k_lss; first | exact ops_lss rfl rfl | exact ops_lts rfl rfl | fail) | (apply k_field; first | exact ops_field (off := 0) rfl rfl rfl (by decide +kernel) | exact ops_field (off := 1) rfl rfl rfl (by decide +kernel) | exact ops_field (off := 2) rfl rfl rfl (by decide +kernel) | exact ops_field (off := 3) rfl rfl rfl (by decide +kernel) | fail) | (apply k_add; first | exact ops_inc rfl (by omega) | exact ops_add rfl rfl (by omega) (by omega) | exact ops_cat rfl rfl (by omega) | fail) | (apply k_not; first | exact ops_not rfl | fail) | (apply k_len; first | exact ops_len_sh rfl (by kernel_rfl) | exact ops_len_ref rfl (by kernel_rfl) | exact ops_len_nil rfl (by kernel_rfl) | exact ops_lens rfl (by kernel_rfl) | fail) | (apply k_load; first | exact ops_load_psh rfl rfl (by decide +kernel) | exact ops_load_psha rfl (by decide +kernel) (by kernel_rfl) (by simp) | exact ops_load_map rfl rfl (by omega) rfl (by decide +kernel) | exact ops_load_mapa rfl rfl (by omega) rfl (by decide +kernel) (by kernel_rfl) | exact ops_load_mapj rfl rfl (by omega) rfl rfl (by decide +kernel) | exact ops_load_ptr rfl rfl rfl rfl rfl (by decide +kernel) | exact ops_load_ptra rfl rfl rfl rfl (by decide +kernel) (by kernel_rfl) | fail) | (apply k_fieldAddr; first | exact ops_fld_psh (off := 0) rfl (by decide +kernel) rfl | exact ops_fld_psh (off := 1) rfl (by decide +kernel) rfl | exact ops_fld_psh (off := 2) rfl (by decide +kernel) rfl | exact ops_fld_psh (off := 3) rfl (by decide +kernel) rfl | exact ops_fld_ptr (off := 0) rfl (by decide +kernel) rfl (by first | (simp; done) | (simp; omega) | fail) | exact ops_fld_ptr (off := 1) rfl (by decide +kernel) rfl (by first | (simp; done) | (simp; omega) | fail) | exact ops_fld_ptr (off := 2) rfl (by decide +kernel) rfl (by first | (simp; done) | (simp; omega) | fail) | exact ops_fld_ptr (off := 3) rfl (by decide +kernel) rfl (by first | (simp; done) | (simp; omega) | fail) | exact ops_fld_map (off := 0) rfl (by decide +kernel) rfl (by omega) | exact ops_fld_map (off := 1) rfl (by decide +kernel) rfl (by omega) | exact ops_fld_map (off := 2) rfl (by decide +kernel) rfl (by omega) | exact ops_fld_map (off := 3) rfl (by decide +kernel) rfl (by omega) | fail) | (apply k_indexAddr; first | exact ops_idx_map rfl rfl (by omega) (by kernel_rfl) (by kernel_rfl) | exact ops_idx_refm rfl rfl (by omega) rfl (by omega) (by kernel_rfl) (by kernel_rfl) | exact ops_idx_mapI rfl rfl (by omega) (by omega) (by kernel_rfl) (by kernel_rfl) | exact ops_idx_refmI rfl rfl (by omega) (by omega) rfl (by omega) (by kernel_rfl) (by kernel_rfl) | exact ops_idx_ref rfl rfl (by omega) rfl (by simp) (by kernel_rfl) (by kernel_rfl) | fail) | (apply k_box; first | exact ops_box (r := _) rfl rfl (by simp [nm]) (by simp [nm]) (by simp [nm]) | exact ops_boxa rfl (by simp) (by simp [nm]) (by simp [nm]) (by simp [nm]) | fail) | (apply k_alloc; first | exact ops_alloca (zs := _) rfl (by decide) rfl (by simp [nm]) (by simp [nm]) | exact ops_alloc rfl rfl (by simp [nm]) (by simp [nm]) | fail) | (apply k_store; first | exact ops_store_sealm rfl rfl rfl (by omega) rfl (by kernel_rfl) rfl (by simp) (by simp [nm]) (by decide) | exact ops_store_map rfl rfl rfl (by omega) rfl rfl (by kernel_rfl) | exact ops_store rfl rfl rfl rfl (by simp [RV.cellsL]) rfl (by kernel_rfl) | exact ops_storea rfl rfl rfl rfl rfl rfl (by kernel_rfl) | exact ops_storea_map rfl rfl rfl (by omega) rfl rfl (by kernel_rfl) | fail) | (apply k_buildSlice; first | exact ops_buildSlice (k := 1) rfl rfl rfl (by decide) (by decide) (by kernel_rfl) (by decide +kernel) rfl (by simp [nm]) (by simp [nm, oerase, St.get, lget]) (by simp [nm, oerase, St.get, lget]) | exact ops_buildSlice (k := 2) rfl rfl rfl (by decide) (by decide) (by kernel_rfl) (by decide +kernel) rfl (by simp [nm]) (by simp [nm, oerase, St.get, lget]) (by simp [nm, oerase, St.get, lget]) | exact ops_buildSlice (k := 4) rfl rfl rfl (by decide) (by decide) (by kernel_rfl) (by decide +kernel) rfl (by simp [nm]) (by simp [nm, oerase, St.get, lget]) (by simp [nm, oerase, St.get, lget]) | fail) | (apply k_append; first | exact ap_seal rfl rfl rfl rfl rfl (by simp) rfl (by simp) (by simp [nm, oerase, St.get, lget]) (by decide) (by decide) (by decide) (by simp [nm, oerase, St.get, lget]) (by simp [nm, oerase, St.get, lget]) ⟨by kernel_rfl, by kernel_rfl, by kernel_rfl, by kernel_rfl⟩ (by simp; omega) | exact ap_own rfl rfl rfl rfl (by decide) (by simp) (by simp) (by simp) (by simp [nm, oerase, St.get, lget]) (by simp [nm, oerase, St.get, lget]) (by simp [nm, oerase, St.get, lget]) ⟨by kernel_rfl, by kernel_rfl, by kernel_rfl, by kernel_rfl⟩ (by simp; omega) | exact ap_sh rfl rfl rfl (by simp) (by first | exact wd_all fun _ => rfl | simp [RV.width]) (by simp [nm, oerase, St.get, lget]) (by simp [nm, oerase, St.get, lget]) ⟨by kernel_rfl, by kernel_rfl, by kernel_rfl, by kernel_rfl⟩ (by simp; omega) | exact ap_nil rfl rfl rfl (by decide) (by simp) (by simp) (by decide) (by simp) (by simp [nm, oerase, St.get, lget]) (by simp [nm, oerase, St.get, lget]) (by simp [nm, oerase, St.get, lget]) (by simp [nm, oerase, St.get, lget]) ⟨by kernel_rfl, by kernel_rfl, by kernel_rfl, by kernel_rfl⟩ (by simp; omega) | exact ap_nilsh rfl rfl (by decide) (by simp) (by first | exact wd_all fun _ => rfl | simp [RV.width]) (by simp [nm, oerase, St.get, lget]) (by simp [nm, oerase, St.get, lget]) ⟨by kernel_rfl, by kernel_rfl, by kernel_rfl, by kernel_rfl⟩ (by simp; omega) | fail) | (apply k_callf; first | exact ops_callf rfl rfl (by kernel_rfl) (hg ▸ implGood_ok L R) | fail) | fail) (by simp only [nz, nf, nl, nb, nr, reduceIte, Nat.reduceEqDiff, Nat.reduceAdd]; rfl) ?_)
    refine en_endn ([.ow 1 [], RVb false]) (by first | exact .inl rfl | exact .inr rfl) Try.results28 (by decide) rfl (by kernel_rfl) rfl (by simp [ne, nm, lget] <;> omega) (by simp only [ne, nf, nl, nr, lget, reduceIte, Nat.reduceEqDiff]; repeat' first | exact .nil | refine .now (by decide) ?_ | refine .sh ?_ | refine .agg ?_ ?_ | refine .keep ?_) ?_; simp only [ne]; first | rfl | skip
  | true =>
    have h1 : tbl L R = (finG L R).map (·.1) := by simp [tbl, hg]
    have hl := finG_len (L := L) (R := R)
    have g := (goodN hg).len
    have hN := newArenaG hg
    rw [h1]
    generalize finG L R = fi at *
    refine (fcr_in Try.func28 rfl (by simp only [Try.ntmps28, anys, List.length_cons, List.length_nil, Nat.reduceAdd, Nat.reduceSub, List.replicate_succ, List.replicate_zero, List.cons_append, List.nil_append] <;> rfl) ?_)
    repeat' first
      | refine w_seq ?_
      | refine w_block ?_
      | refine rb_n ?_
      | refine rb_ret ?_
      | refine rb_eq ?_
      | refine rb_ne (by rfl) ?_
      | refine w_exit ?_
      | refine rt_exit ?_
      | refine w_region ?_
      | refine l_nil ?_
      | refine rt_n ?_
      | refine w_ret ?_
      | refine rt_ret ?_
      | refine w_skip ?_
      | refine w_cond_t rfl ?_
      | refine w_cond_f rfl ?_
      | refine w_cnd rfl (fun hc => ?_) (fun hc => ?_)
      | refine w_cd rfl (fun hc => ?_) (fun hc => ?_)
      | refine w_cn rfl (fun hc => ?_) (fun hc => ?_)
      | refine w_cond rfl (fun hc => ?_) (fun hc => ?_)
      | (refine l_o ?_; refine l_op rfl (by first | exact ops_move | exact ops_assign | (apply k_lss; first | exact ops_lss rfl rfl | exact ops_lts rfl rfl | fail) | (apply k_field; first | exact ops_field (off := 0) rfl rfl rfl (by decide +kernel) | exact ops_field (off := 1) rfl rfl rfl (by decide +kernel) | exact ops_field (off := 2) rfl rfl rfl (by decide +kernel) | exact ops_field (off := 3) rfl rfl rfl (by decide +kernel) | fail) | (apply k_add; first | exact ops_inc rfl (by omega) | exact ops_add rfl rfl (by omega) (by omega) | exact ops_cat rfl rfl (by omega) | fail) | (apply k_not; first | exact ops_not rfl | fail) | (apply k_len; first | exact ops_len_sh rfl (by kernel_rfl) | exact ops_len_ref rfl (by kernel_rfl) | exact ops_len_nil rfl (by kernel_rfl) | exact ops_lens rfl (by kernel_rfl) | fail) | (apply k_load; first | exact ops_load_psh rfl rfl (by decide +kernel) | exact ops_load_psha rfl (by decide +kernel) (by kernel_rfl) (by simp) | exact ops_load_map rfl rfl (by omega) rfl (by decide +kernel) | exact ops_load_mapa rfl rfl (by omega) rfl (by decide +kernel) (by kernel_rfl) | exact ops_load_mapj rfl rfl (by omega) rfl rfl (by decide +kernel) | exact ops_load_ptr rfl rfl rfl rfl rfl (by decide +kernel) | exact ops_load_ptra rfl rfl rfl rfl (by decide +kernel) (by kernel_rfl) | fail) | (apply k_fieldAddr; first | exact ops_fld_psh (off := 0) rfl (by decide +kernel) rfl | exact ops_fld_psh (off := 1) rfl (by decide +kernel) rfl | exact ops_fld_psh (off := 2) rfl (by decide +kernel) rfl | exact ops_fld_psh (off := 3) rfl (by decide +kernel) rfl | exact ops_fld_ptr (off := 0) rfl (by decide +kernel) rfl (by first | (simp; done) | (simp; omega) | fail) | exact ops_fld_ptr (off := 1) rfl (by decide +kernel) rfl (by first | (simp; done) | (simp; omega) | fail) | exact ops_fld_ptr (off := 2) rfl (by decide +kernel) rfl (by first | (simp; done) | (simp; omega) | fail) | exact ops_fld_ptr (off := 3) rfl (by decide +kernel) rfl (by first | (simp; done) | (simp; omega) | fail) | exact ops_fld_map (off := 0) rfl (by decide +kernel) rfl (by omega) | exact ops_fld_map (off := 1) rfl (by decide +kernel) rfl (by omega) | exact ops_fld_map (off := 2) rfl (by decide +kernel) rfl (by omega) | exact ops_fld_map (off := 3) rfl (by decide +kernel) rfl (by omega) | fail) | (apply k_indexAddr; first | exact ops_idx_map rfl rfl (by omega) (by kernel_rfl) (by kernel_rfl) | exact ops_idx_refm rfl rfl (by omega) rfl (by omega) (by kernel_rfl) (by kernel_rfl) | exact ops_idx_mapI rfl rfl (by omega) (by omega) (by kernel_rfl) (by kernel_rfl) | exact ops_idx_refmI rfl rfl (by omega) (by omega) rfl (by omega) (by kernel_rfl) (by kernel_rfl) | exact ops_idx_ref rfl rfl (by omega) rfl (by simp) (by kernel_rfl) (by kernel_rfl) | fail) | (apply k_box; first | exact ops_box (r := _) rfl rfl (by simp [nm]) (by simp [nm]) (by simp [nm]) | exact ops_boxa rfl (by simp) (by simp [nm]) (by simp [nm]) (by simp [nm]) | fail) | (apply k_alloc; first | exact ops_alloca (zs := _) rfl (by decide) rfl (by simp [nm]) (by simp [nm]) | exact ops_alloc rfl rfl (by simp [nm]) (by simp [nm]) | fail) | (apply k_store; first | exact ops_store_sealm rfl rfl rfl (by omega) rfl (by kernel_rfl) rfl (by simp) (by simp [nm]) (by decide) | exact ops_store_map rfl rfl rfl (by omega) rfl rfl (by kernel_rfl) | exact ops_store rfl rfl rfl rfl (by simp [RV.cellsL]) rfl (by kernel_rfl) | exact ops_storea rfl rfl rfl rfl rfl rfl (by kernel_rfl) | exact ops_storea_map rfl rfl rfl (by omega) rfl rfl (by kernel_rfl) | fail) | (apply k_buildSlice; first | exact ops_buildSlice (k := 1) rfl rfl rfl (by decide) (by decide) (by kernel_rfl) (by decide +kernel) rfl (by simp [nm]) (by simp [nm, oerase, St.get, lget]) (by simp [nm, oerase, St.get, lget]) | exact ops_buildSlice (k := 2) rfl rfl rfl (by decide) (by decide) (by kernel_rfl) (by decide +kernel) rfl (by simp [nm]) (by simp [nm, oerase, St.get, lget]) (by simp [nm, oerase, St.get, lget]) | exact ops_buildSlice (k := 4) rfl rfl rfl (by decide) (by decide) (by kernel_rfl) (by decide +kernel) rfl (by simp [nm]) (by simp [nm, oerase, St.get, lget]) (by simp [nm, oerase, St.get, lget]) | fail) | (apply k_append; first | exact ap_seal rfl rfl rfl rfl rfl (by simp) rfl (by simp) (by simp [nm, oerase, St.get, lget]) (by decide) (by decide) (by decide) (by simp [nm, oerase, St.get, lget]) (by simp [nm, oerase, St.get, lget]) ⟨by kernel_rfl, by kernel_rfl, by kernel_rfl, by kernel_rfl⟩ (by simp; omega) | exact ap_own rfl rfl rfl rfl (by decide) (by simp) (by simp) (by simp) (by simp [nm, oerase, St.get, lget]) (by simp [nm, oerase, St.get, lget]) (by simp [nm, oerase, St.get, lget]) ⟨by kernel_rfl, by kernel_rfl, by kernel_rfl, by kernel_rfl⟩ (by simp; omega) | exact ap_sh rfl rfl rfl (by simp) (by first | exact wd_all fun _ => rfl | simp [RV.width]) (by simp [nm, oerase, St.get, lget]) (by simp [nm, oerase, St.get, lget]) ⟨by kernel_rfl, by kernel_rfl, by kernel_rfl, by kernel_rfl⟩ (by simp; omega) | exact ap_nil rfl rfl rfl (by decide) (by simp) (by simp) (by decide) (by simp) (by simp [nm, oerase, St.get, lget]) (by simp [nm, oerase, St.get, lget]) (by simp [nm, oerase, St.get, lget]) (by simp [nm, oerase, St.get, lget]) ⟨by kernel_rfl, by kernel_rfl, by kernel_rfl, by kernel_rfl⟩ (by simp; omega) | exact ap_nilsh rfl rfl (by decide) (by simp) (by first | exact wd_all fun _ => rfl | simp [RV.width]) (by simp [nm, oerase, St.get, lget]) (by simp [nm, oerase, St.get, lget]) ⟨by kernel_rfl, by kernel_rfl, by kernel_rfl, by kernel_rfl⟩ (by simp; omega) | fail) | (apply k_callf; first | exact ops_callf rfl rfl (by kernel_rfl) (hg ▸ implGood_ok L R) | exact ops_callv (by first | rfl | (simp only [nz, nf, vw, nr, reduceIte, Nat.reduceEqDiff, ne_eq, not_false_eq_true]; rfl) | (simp [view1, viewC, olook, nv, nz, nf, *]; fail_if_success show _)) rfl (by kernel_rfl) (hN) (by simp [RV.resOkT, RV.resOk, RV.isAgg, nm]) (by simp [ns]) (by simp [nz, nm]) (by simp [nz, nm]) | fail) | fail) (by simp only [nz, nf, nl, nb, nr, reduceIte, Nat.reduceEqDiff, Nat.reduceAdd]; rfl) ?_)
    refine w_loopm (ι := Nat × List Int) (fun k => [(18, RVn k.1), (4, .ref 10 0 k.2.length), (10, .any)]) (fun k => [(1015, 1, (nxtG L R).map ONs), (2015, 2, fi.map RR), (10, 1, k.2.map RVi), (1, 2, [.agg [RIss L, RIss R]])]) (fun k => k.1 ≤ fi.length ∧ k.2 = (fi.take k.1).map (·.1)) (fun k => fi.length - k.1) (0, []) (by simp only [wr, List.filterMap_cons, List.filterMap_nil, List.cons_append, List.nil_append, List.append_nil] <;> rfl) (by simp only [forget, lset] <;> rfl) (by intro i; simp only [puts, lset] <;> rfl) ?_ ?_ ?_
    · simp
    · refine le_eq (by (repeat' first | exact .nil | refine .keep ?_ | refine .any ?_); first | done | fail) rfl rfl
    · intro ⟨k, m⟩ ⟨hk, hm⟩
      dsimp only at hk hm ⊢
      have hml : m.length = k := by rw [hm]; simp; omega
      repeat' first
        | refine w_seq ?_
        | refine w_block ?_
        | refine rb_n ?_
        | refine rb_ret ?_
        | refine rb_eq ?_
        | refine rb_ne (by rfl) ?_
        | refine w_exit ?_
        | refine rt_exit ?_
        | refine w_region ?_
        | refine l_nil ?_
        | refine rt_n ?_
        | refine w_ret ?_
        | refine rt_ret ?_
        | refine w_skip ?_
        | refine w_cond_t rfl ?_
        | refine w_cond_f rfl ?_
        | refine w_cnd rfl (fun hc => ?_) (fun hc => ?_)
        | refine w_cd rfl (fun hc => ?_) (fun hc => ?_)
        | refine w_cn rfl (fun hc => ?_) (fun hc => ?_)
        | refine w_cond rfl (fun hc => ?_) (fun hc => ?_)
        | (refine l_o ?_; refine l_op rfl (by first | exact ops_move | exact ops_assign | (apply k_lss; first | exact ops_lss rfl rfl | exact ops_lts rfl rfl | fail) | (apply k_field; first | exact ops_field (off := 0) rfl rfl rfl (by decide +kernel) | exact ops_field (off := 1) rfl rfl rfl (by decide +kernel) | exact ops_field (off := 2) rfl rfl rfl (by decide +kernel) | exact ops_field (off := 3) rfl rfl rfl (by decide +kernel) | fail) | (apply k_add; first | exact ops_inc rfl (by omega) | exact ops_add rfl rfl (by omega) (by omega) | exact ops_cat rfl rfl (by omega) | fail) | (apply k_not; first | exact ops_not rfl | fail) | (apply k_len; first | exact ops_len_sh rfl (by kernel_rfl) | exact ops_len_ref rfl (by kernel_rfl) | exact ops_len_nil rfl (by kernel_rfl) | exact ops_lens rfl (by kernel_rfl) | fail) | (apply k_load; first | exact ops_load_psh rfl rfl (by decide +kernel) | exact ops_load_psha rfl (by decide +kernel) (by kernel_rfl) (by simp) | exact ops_load_map rfl rfl (by omega) rfl (by decide +kernel) | exact ops_load_mapa rfl rfl (by omega) rfl (by decide +kernel) (by kernel_rfl) | exact ops_load_mapj rfl rfl (by omega) rfl rfl (by decide +kernel) | exact ops_load_ptr rfl rfl rfl rfl rfl (by decide +kernel) | exact ops_load_ptra rfl rfl rfl rfl (by decide +kernel) (by kernel_rfl) | fail) | (apply k_fieldAddr; first | exact ops_fld_psh (off := 0) rfl (by decide +kernel) rfl | exact ops_fld_psh (off := 1) rfl (by decide +kernel) rfl | exact ops_fld_psh (off := 2) rfl (by decide +kernel) rfl | exact ops_fld_psh (off := 3) rfl (by decide +kernel) rfl | exact ops_fld_ptr (off := 0) rfl (by decide +kernel) rfl (by first | (simp; done) | (simp; omega) | fail) | exact ops_fld_ptr (off := 1) rfl (by decide +kernel) rfl (by first | (simp; done) | (simp; omega) | fail) | exact ops_fld_ptr (off := 2) rfl (by decide +kernel) rfl (by first | (simp; done) | (simp; omega) | fail) | exact ops_fld_ptr (off := 3) rfl (by decide +kernel) rfl (by first | (simp; done) | (simp; omega) | fail) | exact ops_fld_map (off := 0) rfl (by decide +kernel) rfl (by omega) | exact ops_fld_map (off := 1) rfl (by decide +kernel) rfl (by omega) | exact ops_fld_map (off := 2) rfl (by decide +kernel) rfl (by omega) | exact ops_fld_map (off := 3) rfl (by decide +kernel) rfl (by omega) | fail) | (apply k_indexAddr; first | exact ops_idx_map rfl rfl (by omega) (by kernel_rfl) (by kernel_rfl) | exact ops_idx_refm rfl rfl (by omega) rfl (by omega) (by kernel_rfl) (by kernel_rfl) | exact ops_idx_mapI rfl rfl (by omega) (by omega) (by kernel_rfl) (by kernel_rfl) | exact ops_idx_refmI rfl rfl (by omega) (by omega) rfl (by omega) (by kernel_rfl) (by kernel_rfl) | exact ops_idx_ref rfl rfl (by omega) rfl (by simp) (by kernel_rfl) (by kernel_rfl) | fail) | (apply k_box; first | exact ops_box (r := _) rfl rfl (by simp [nm]) (by simp [nm]) (by simp [nm]) | exact ops_boxa rfl (by simp) (by simp [nm]) (by simp [nm]) (by simp [nm]) | fail) | (apply k_alloc; first | exact ops_alloca (zs := _) rfl (by decide) rfl (by simp [nm]) (by simp [nm]) | exact ops_alloc rfl rfl (by simp [nm]) (by simp [nm]) | fail) | (apply k_store; first | exact ops_store_sealm rfl rfl rfl (by omega) rfl (by kernel_rfl) rfl (by simp) (by simp [nm]) (by decide) | exact ops_store_map rfl rfl rfl (by omega) rfl rfl (by kernel_rfl) | exact ops_store rfl rfl rfl rfl (by simp [RV.cellsL]) rfl (by kernel_rfl) | exact ops_storea rfl rfl rfl rfl rfl rfl (by kernel_rfl) | exact ops_storea_map rfl rfl rfl (by omega) rfl rfl (by kernel_rfl) | fail) | (apply k_buildSlice; first | exact ops_buildSlice (k := 1) rfl rfl rfl (by decide) (by decide) (by kernel_rfl) (by decide +kernel) rfl (by simp [nm]) (by simp [nm, oerase, St.get, lget]) (by simp [nm, oerase, St.get, lget]) | exact ops_buildSlice (k := 2) rfl rfl rfl (by decide) (by decide) (by kernel_rfl) (by decide +kernel) rfl (by simp [nm]) (by simp [nm, oerase, St.get, lget]) (by simp [nm, oerase, St.get, lget]) | exact ops_buildSlice (k := 4) rfl rfl rfl (by decide) (by decide) (by kernel_rfl) (by decide +kernel) rfl (by simp [nm]) (by simp [nm, oerase, St.get, lget]) (by simp [nm, oerase, St.get, lget]) | fail) | (apply k_append; first | exact ap_seal rfl rfl rfl rfl rfl (by simp) rfl (by simp) (by simp [nm, oerase, St.get, lget]) (by decide) (by decide) (by decide) (by simp [nm, oerase, St.get, lget]) (by simp [nm, oerase, St.get, lget]) ⟨by kernel_rfl, by kernel_rfl, by kernel_rfl, by kernel_rfl⟩ (by simp; omega) | exact ap_own rfl rfl rfl rfl (by decide) (by simp) (by simp) (by simp) (by simp [nm, oerase, St.get, lget]) (by simp [nm, oerase, St.get, lget]) (by simp [nm, oerase, St.get, lget]) ⟨by kernel_rfl, by kernel_rfl, by kernel_rfl, by kernel_rfl⟩ (by simp; omega) | exact ap_sh rfl rfl rfl (by simp) (by first | exact wd_all fun _ => rfl | simp [RV.width]) (by simp [nm, oerase, St.get, lget]) (by simp [nm, oerase, St.get, lget]) ⟨by kernel_rfl, by kernel_rfl, by kernel_rfl, by kernel_rfl⟩ (by simp; omega) | exact ap_nil rfl rfl rfl (by decide) (by simp) (by simp) (by decide) (by simp) (by simp [nm, oerase, St.get, lget]) (by simp [nm, oerase, St.get, lget]) (by simp [nm, oerase, St.get, lget]) (by simp [nm, oerase, St.get, lget]) ⟨by kernel_rfl, by kernel_rfl, by kernel_rfl, by kernel_rfl⟩ (by simp; omega) | exact ap_nilsh rfl rfl (by decide) (by simp) (by first | exact wd_all fun _ => rfl | simp [RV.width]) (by simp [nm, oerase, St.get, lget]) (by simp [nm, oerase, St.get, lget]) ⟨by kernel_rfl, by kernel_rfl, by kernel_rfl, by kernel_rfl⟩ (by simp; omega) | fail) | fail) (by simp only [nz, nf, nl, nb, nr, reduceIte, Nat.reduceEqDiff, Nat.reduceAdd]; rfl) ?_)
      · refine rn_mk (k + 1, m ++ [fi[k].1]) ?_ (by first | omega | (dsimp only; omega)) (le_dropd 6 (by simp only [nz]; rfl) (by simp only [nz, reduceIte, Nat.reduceEqDiff] <;> rfl) (le_eq (by (repeat' first | exact .nil | refine .keep ?_ | refine .any ?_); first | done | fail) rfl rfl))
        exact ⟨by omega, by subst hm; rw [List.take_succ_eq_append_getElem (by omega), List.map_append]; rfl⟩
      · obtain rfl : k = fi.length := by omega
        rw [List.take_length] at hm
        subst hm
        refine en_end (by first | exact .inl rfl | exact .inr rfl) Try.results28 (by decide) rfl (by kernel_rfl) rfl (by simp [ne, nm, lget] <;> omega) ?_; simp only [ne, nf, nl, nr, lget, reduceIte, Nat.reduceEqDiff]; first | rfl | refine congrArg RVb ?_ | refine congrArg RVi ?_ | skip
end Go.Proofs.Ytoekdkoadienmaa
