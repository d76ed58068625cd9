/- Turned loops: what the reference and the program make of a loop is the same. For all loops. -/
import Derived.Test.YtndbplemeakmnaaGood
import Derived.Test.YtndbplemeakmnaaMarks
namespace Go.Proofs.Ytndbplemeakmnaa
open Eng
attribute [local irreducible] OpS OpG FC FCr Rel Fl Ef DR
set_option linter.unusedSimpArgs false
set_option maxHeartbeats 0
set_option maxRecDepth 100000

theorem clone_ok (l : List Int) (h : l.length ≤ 1099511627776) : FCr Try.prog 127 [RIs l] (OIs l) := by
  refine (fcr_in Try.func127 rfl (by simp only [Try.ntmps127, anys, List.length_cons, List.length_nil, Nat.reduceAdd, Nat.reduceSub, List.replicate_succ, List.replicate_zero, List.cons_append, List.nil_append] <;> rfl) ?_)
  repeat' first
    | refine w_seq ?_
    | refine w_region ?_
    | refine l_nil ?_
    | refine rt_n ?_
    | refine w_ret ?_
    | refine rt_ret ?_
    | refine w_skip ?_
    | refine w_cond_t rfl ?_
    | refine w_cond_f rfl ?_
    | refine w_cnd rfl (fun hc => ?_) (fun hc => ?_)
    | refine w_cd rfl (fun hc => ?_) (fun hc => ?_)
    | refine w_cn rfl (fun hc => ?_) (fun hc => ?_)
    | refine w_cond rfl (fun hc => ?_) (fun hc => ?_)
    | (refine l_o ?_; first | refine l_eqnil rfl (by kernel_rfl) (by intro b; simp only [nz]; rfl) (fun b hb => ?_) | refine l_op rfl (by first | exact ops_move | exact ops_assign | (apply k_eql; first | exact ops_eqi rfl rfl | exact ops_eqs rfl rfl | exact ops_eqb rfl rfl (by kernel_rfl) | fail) | (apply k_buildSlice; first | exact ops_buildSlice (k := 1) rfl rfl rfl (by decide) (by decide) (by kernel_rfl) (by kernel_rfl) rfl (by simp [nm]) (by simp [nm, oerase, St.get, lget]) (by simp [nm, oerase, St.get, lget]) | exact ops_buildSlice (k := 2) rfl rfl rfl (by decide) (by decide) (by kernel_rfl) (by kernel_rfl) rfl (by simp [nm]) (by simp [nm, oerase, St.get, lget]) (by simp [nm, oerase, St.get, lget]) | exact ops_buildSlice (k := 4) rfl rfl rfl (by decide) (by decide) (by kernel_rfl) (by kernel_rfl) rfl (by simp [nm]) (by simp [nm, oerase, St.get, lget]) (by simp [nm, oerase, St.get, lget]) | fail) | (apply k_append; first | exact ap_seal rfl rfl rfl rfl rfl (by simp) rfl (by simp) (by simp [nm, oerase, St.get, lget]) (by decide) (by decide) (by decide) (by simp [nm, oerase, St.get, lget]) (by simp [nm, oerase, St.get, lget]) ⟨by kernel_rfl, by kernel_rfl, by kernel_rfl, by kernel_rfl⟩ (by simp; omega) | exact ap_own rfl rfl rfl rfl (by decide) (by simp) (by simp) (by simp) (by simp [nm, oerase, St.get, lget]) (by simp [nm, oerase, St.get, lget]) (by simp [nm, oerase, St.get, lget]) ⟨by kernel_rfl, by kernel_rfl, by kernel_rfl, by kernel_rfl⟩ (by simp; omega) | exact ap_sh rfl rfl rfl (by simp) (by first | exact wd_all fun _ => rfl | simp [RV.width]) (by simp [nm, oerase, St.get, lget]) (by simp [nm, oerase, St.get, lget]) ⟨by kernel_rfl, by kernel_rfl, by kernel_rfl, by kernel_rfl⟩ (by simp; omega) | exact ap_nil rfl rfl rfl (by decide) (by simp) (by simp) (by decide) (by simp) (by simp [nm, oerase, St.get, lget]) (by simp [nm, oerase, St.get, lget]) (by simp [nm, oerase, St.get, lget]) (by simp [nm, oerase, St.get, lget]) ⟨by kernel_rfl, by kernel_rfl, by kernel_rfl, by kernel_rfl⟩ (by simp; omega) | exact ap_nilsh rfl rfl (by decide) (by simp) (by first | exact wd_all fun _ => rfl | simp [RV.width]) (by simp [nm, oerase, St.get, lget]) (by simp [nm, oerase, St.get, lget]) ⟨by kernel_rfl, by kernel_rfl, by kernel_rfl, by kernel_rfl⟩ (by simp; omega) | fail) | fail) (by simp only [nz, nf, nl, nb, reduceIte, Nat.reduceEqDiff, Nat.reduceAdd]; rfl) ?_)
  · have hl : l = [] := by simpa using hb hc
    subst hl
    refine en_le _ (le_nil 2 100 1 (by omega) rfl (by simp [nm]) (by simp [nm]) (by simp only [nz]; rfl)) ?_
    refine en_end (by first | exact .inl rfl | exact .inr rfl) Try.results127 (by decide) rfl (by kernel_rfl) rfl (by simp [ne, nm, lget] <;> omega) ?_; simp only [ne, nf, nl, lget, reduceIte, Nat.reduceEqDiff]; first | rfl | refine congrArg RVb ?_ | refine congrArg RVi ?_ | skip
  · refine en_end (by first | exact .inl rfl | exact .inr rfl) Try.results127 (by decide) rfl (by kernel_rfl) rfl (by simp [ne, nm, lget] <;> omega) ?_; simp only [ne, nf, nl, lget, reduceIte, Nat.reduceEqDiff]; first | rfl | refine congrArg RVb ?_ | refine congrArg RVi ?_ | skip

theorem goodLp_small {L R : List (List Int)} (h : goodLp L R = true) : 1 ≤ L.length ∧ L.length ≤ 36 ∧ R.length = L.length ∧ (∀ r ∈ L, tgtOk L.length r = true) ∧ ∀ r ∈ R, tgtOk L.length r = true := by
  unfold goodLp at h
  split at h
  · cases h
  · rename_i hn
    have hp : ∀ (n : Int) (A B : List (List Int)), A.length = B.length → pairsOk n A B = true → (∀ r ∈ A, tgtOk n r = true) ∧ ∀ r ∈ B, tgtOk n r = true := by
      intro n A
      induction A with
      | nil => intro B hB _; simp at hB; have : B = [] := List.eq_nil_of_length_eq_zero hB.symm; subst this; simp
      | cons a A ih =>
        intro B hB h
        cases B with
        | nil => simp at hB
        | cons b B =>
          simp only [pairsOk] at h
          split at h
          · cases h
          · rename_i hh
            have := ih B (by simpa using hB) h
            grind
    have := hp _ _ _ (by omega) h
    exact ⟨by omega, by omega, by omega, this.1, this.2⟩
theorem tgtOk_len {n : Int} {l : List Int} (h : tgtOk n l = true) : l.length ≤ 24 := by
  unfold tgtOk at h; split at h
  · cases h
  · omega

theorem copied_ok (L : List (List Int)) (h : L.length ≤ 1099511627775) (hl : ∀ r ∈ L, r.length ≤ 1099511627776) : FCr Try.prog 89 [RIss L] (OIss L) := by
  refine (fcr_in Try.func89 rfl (by simp only [Try.ntmps89, anys, List.length_cons, List.length_nil, Nat.reduceAdd, Nat.reduceSub, List.replicate_succ, List.replicate_zero, List.cons_append, List.nil_append] <;> rfl) ?_)
  repeat' first
    | refine w_seq ?_
    | refine w_block ?_
    | refine rb_n ?_
    | refine rb_ret ?_
    | refine rb_eq ?_
    | refine rb_ne (by rfl) ?_
    | refine w_exit ?_
    | refine rt_exit ?_
    | refine w_region ?_
    | refine l_nil ?_
    | refine rt_n ?_
    | refine w_ret ?_
    | refine rt_ret ?_
    | refine w_skip ?_
    | refine w_cond_t rfl ?_
    | refine w_cond_f rfl ?_
    | refine w_cnd rfl (fun hc => ?_) (fun hc => ?_)
    | refine w_cd rfl (fun hc => ?_) (fun hc => ?_)
    | refine w_cn rfl (fun hc => ?_) (fun hc => ?_)
    | refine w_cond rfl (fun hc => ?_) (fun hc => ?_)
    | (refine l_o ?_; refine l_op rfl (by first | exact ops_move | exact ops_assign | (apply k_lss; first | exact ops_lss rfl rfl | exact ops_lts rfl rfl | fail) | (apply k_add; first | exact ops_inc rfl (by omega) | exact ops_add rfl rfl (by omega) (by omega) | exact ops_cat rfl rfl (by omega) | fail) | (apply k_len; first | exact ops_len_sh rfl (by kernel_rfl) | exact ops_len_ref rfl (by kernel_rfl) | exact ops_len_nil rfl (by kernel_rfl) | exact ops_lens rfl (by kernel_rfl) | fail) | (apply k_load; first | exact ops_load_psh rfl rfl (by decide +kernel) | exact ops_load_psha rfl (by decide +kernel) (by kernel_rfl) (by simp) | exact ops_load_map rfl rfl (by omega) rfl (by decide +kernel) | exact ops_load_mapa rfl rfl (by omega) rfl (by decide +kernel) (by kernel_rfl) | exact ops_load_ptr rfl rfl rfl rfl rfl (by decide +kernel) | exact ops_load_ptra rfl rfl rfl rfl (by decide +kernel) (by kernel_rfl) | fail) | (apply k_indexAddr; first | exact ops_idx_map rfl rfl (by omega) (by kernel_rfl) (by kernel_rfl) | exact ops_idx_refm rfl rfl (by omega) rfl (by omega) (by kernel_rfl) (by kernel_rfl) | exact ops_idx_mapI rfl rfl (by omega) (by omega) (by kernel_rfl) (by kernel_rfl) | exact ops_idx_refmI rfl rfl (by omega) (by omega) rfl (by omega) (by kernel_rfl) (by kernel_rfl) | exact ops_idx_ref rfl rfl (by omega) rfl (by simp) (by kernel_rfl) (by kernel_rfl) | fail) | (apply k_buildSlice; first | exact ops_buildSlice (k := 1) rfl rfl rfl (by decide) (by decide) (by kernel_rfl) (by kernel_rfl) rfl (by simp [nm]) (by simp [nm, oerase, St.get, lget]) (by simp [nm, oerase, St.get, lget]) | exact ops_buildSlice (k := 2) rfl rfl rfl (by decide) (by decide) (by kernel_rfl) (by kernel_rfl) rfl (by simp [nm]) (by simp [nm, oerase, St.get, lget]) (by simp [nm, oerase, St.get, lget]) | exact ops_buildSlice (k := 4) rfl rfl rfl (by decide) (by decide) (by kernel_rfl) (by kernel_rfl) rfl (by simp [nm]) (by simp [nm, oerase, St.get, lget]) (by simp [nm, oerase, St.get, lget]) | fail) | (apply k_append; first | exact ap_seal rfl rfl rfl rfl rfl (by simp) rfl (by simp) (by simp [nm, oerase, St.get, lget]) (by decide) (by decide) (by decide) (by simp [nm, oerase, St.get, lget]) (by simp [nm, oerase, St.get, lget]) ⟨by kernel_rfl, by kernel_rfl, by kernel_rfl, by kernel_rfl⟩ (by simp; omega) | exact ap_own rfl rfl rfl rfl (by decide) (by simp) (by simp) (by simp) (by simp [nm, oerase, St.get, lget]) (by simp [nm, oerase, St.get, lget]) (by simp [nm, oerase, St.get, lget]) ⟨by kernel_rfl, by kernel_rfl, by kernel_rfl, by kernel_rfl⟩ (by simp; omega) | exact ap_sh rfl rfl rfl (by simp) (by first | exact wd_all fun _ => rfl | simp [RV.width]) (by simp [nm, oerase, St.get, lget]) (by simp [nm, oerase, St.get, lget]) ⟨by kernel_rfl, by kernel_rfl, by kernel_rfl, by kernel_rfl⟩ (by simp; omega) | exact ap_nil rfl rfl rfl (by decide) (by simp) (by simp) (by decide) (by simp) (by simp [nm, oerase, St.get, lget]) (by simp [nm, oerase, St.get, lget]) (by simp [nm, oerase, St.get, lget]) (by simp [nm, oerase, St.get, lget]) ⟨by kernel_rfl, by kernel_rfl, by kernel_rfl, by kernel_rfl⟩ (by simp; omega) | exact ap_nilsh rfl rfl (by decide) (by simp) (by first | exact wd_all fun _ => rfl | simp [RV.width]) (by simp [nm, oerase, St.get, lget]) (by simp [nm, oerase, St.get, lget]) ⟨by kernel_rfl, by kernel_rfl, by kernel_rfl, by kernel_rfl⟩ (by simp; omega) | fail) | fail) (by simp only [nz, nf, nl, nb, reduceIte, Nat.reduceEqDiff, Nat.reduceAdd]; rfl) ?_)
  refine w_loopm (ι := Nat × List (List Int)) (fun k => [(9, RVi k.1), (3, .ref 6 0 k.2.length), (6, .any)]) (fun k => [(6, 1, k.2.map OIs)]) (fun k => k.1 ≤ L.length ∧ k.2 = L.take k.1) (fun k => L.length - k.1) (0, []) (by simp only [wr, List.filterMap_cons, List.filterMap_nil, List.cons_append, List.nil_append, List.append_nil] <;> rfl) (by simp only [forget, lset] <;> rfl) (by intro i; simp only [puts, lset] <;> rfl) ?_ ?_ ?_
  · simp
  · refine le_eq (by repeat' first | exact .nil | refine .keep ?_ | refine .any ?_) rfl rfl
  · intro ⟨k, m⟩ ⟨hk, hm⟩
    dsimp only at hk hm ⊢
    have hml : m.length = k := by rw [hm]; simp; omega
    repeat' first
      | refine w_seq ?_
      | refine w_block ?_
      | refine rb_n ?_
      | refine rb_ret ?_
      | refine rb_eq ?_
      | refine rb_ne (by rfl) ?_
      | refine w_exit ?_
      | refine rt_exit ?_
      | refine w_region ?_
      | refine l_nil ?_
      | refine rt_n ?_
      | refine w_ret ?_
      | refine rt_ret ?_
      | refine w_skip ?_
      | refine w_cond_t rfl ?_
      | refine w_cond_f rfl ?_
      | refine w_cnd rfl (fun hc => ?_) (fun hc => ?_)
      | refine w_cd rfl (fun hc => ?_) (fun hc => ?_)
      | refine w_cn rfl (fun hc => ?_) (fun hc => ?_)
      | refine w_cond rfl (fun hc => ?_) (fun hc => ?_)
      | (refine l_o ?_; refine l_op rfl (by first | exact ops_move | exact ops_assign | (apply k_lss; first | exact ops_lss rfl rfl | exact ops_lts rfl rfl | fail) | (apply k_add; first | exact ops_inc rfl (by omega) | exact ops_add rfl rfl (by omega) (by omega) | exact ops_cat rfl rfl (by omega) | fail) | (apply k_len; first | exact ops_len_sh rfl (by kernel_rfl) | exact ops_len_ref rfl (by kernel_rfl) | exact ops_len_nil rfl (by kernel_rfl) | exact ops_lens rfl (by kernel_rfl) | fail) | (apply k_load; first | exact ops_load_psh rfl rfl (by decide +kernel) | exact ops_load_psha rfl (by decide +kernel) (by kernel_rfl) (by simp) | exact ops_load_map rfl rfl (by omega) rfl (by decide +kernel) | exact ops_load_mapa rfl rfl (by omega) rfl (by decide +kernel) (by kernel_rfl) | exact ops_load_ptr rfl rfl rfl rfl rfl (by decide +kernel) | exact ops_load_ptra rfl rfl rfl rfl (by decide +kernel) (by kernel_rfl) | fail) | (apply k_indexAddr; first | exact ops_idx_map rfl rfl (by omega) (by kernel_rfl) (by kernel_rfl) | exact ops_idx_refm rfl rfl (by omega) rfl (by omega) (by kernel_rfl) (by kernel_rfl) | exact ops_idx_mapI rfl rfl (by omega) (by omega) (by kernel_rfl) (by kernel_rfl) | exact ops_idx_refmI rfl rfl (by omega) (by omega) rfl (by omega) (by kernel_rfl) (by kernel_rfl) | exact ops_idx_ref rfl rfl (by omega) rfl (by simp) (by kernel_rfl) (by kernel_rfl) | fail) | (apply k_buildSlice; first | exact ops_buildSlice (k := 1) rfl rfl rfl (by decide) (by decide) (by kernel_rfl) (by kernel_rfl) rfl (by simp [nm]) (by simp [nm, oerase, St.get, lget]) (by simp [nm, oerase, St.get, lget]) | exact ops_buildSlice (k := 2) rfl rfl rfl (by decide) (by decide) (by kernel_rfl) (by kernel_rfl) rfl (by simp [nm]) (by simp [nm, oerase, St.get, lget]) (by simp [nm, oerase, St.get, lget]) | exact ops_buildSlice (k := 4) rfl rfl rfl (by decide) (by decide) (by kernel_rfl) (by kernel_rfl) rfl (by simp [nm]) (by simp [nm, oerase, St.get, lget]) (by simp [nm, oerase, St.get, lget]) | fail) | (apply k_append; first | exact ap_seal rfl rfl rfl rfl rfl (by simp) rfl (by simp) (by simp [nm, oerase, St.get, lget]) (by decide) (by decide) (by decide) (by simp [nm, oerase, St.get, lget]) (by simp [nm, oerase, St.get, lget]) ⟨by kernel_rfl, by kernel_rfl, by kernel_rfl, by kernel_rfl⟩ (by simp; omega) | exact ap_own rfl rfl rfl rfl (by decide) (by simp) (by simp) (by simp) (by simp [nm, oerase, St.get, lget]) (by simp [nm, oerase, St.get, lget]) (by simp [nm, oerase, St.get, lget]) ⟨by kernel_rfl, by kernel_rfl, by kernel_rfl, by kernel_rfl⟩ (by simp; omega) | exact ap_sh rfl rfl rfl (by simp) (by first | exact wd_all fun _ => rfl | simp [RV.width]) (by simp [nm, oerase, St.get, lget]) (by simp [nm, oerase, St.get, lget]) ⟨by kernel_rfl, by kernel_rfl, by kernel_rfl, by kernel_rfl⟩ (by simp; omega) | exact ap_nil rfl rfl rfl (by decide) (by simp) (by simp) (by decide) (by simp) (by simp [nm, oerase, St.get, lget]) (by simp [nm, oerase, St.get, lget]) (by simp [nm, oerase, St.get, lget]) (by simp [nm, oerase, St.get, lget]) ⟨by kernel_rfl, by kernel_rfl, by kernel_rfl, by kernel_rfl⟩ (by simp; omega) | exact ap_nilsh rfl rfl (by decide) (by simp) (by first | exact wd_all fun _ => rfl | simp [RV.width]) (by simp [nm, oerase, St.get, lget]) (by simp [nm, oerase, St.get, lget]) ⟨by kernel_rfl, by kernel_rfl, by kernel_rfl, by kernel_rfl⟩ (by simp; omega) | fail) | (apply k_callf; first | exact ops_callv (by first | rfl | (simp only [nz, nf, vw, reduceIte, Nat.reduceEqDiff, ne_eq, not_false_eq_true]; rfl) | (simp [view1, viewC, olook, nv, nz, nf, *]; fail_if_success show _)) rfl (by kernel_rfl) (clone_ok _ (hl _ (List.getElem_mem _))) (by simp [RV.resOkT, RV.resOk, RV.isAgg, nm]) (by simp [ns]) (by simp [nz, nm]) (by simp [nz, nm]) | fail) | fail) (by simp only [nz, nf, nl, nb, reduceIte, Nat.reduceEqDiff, Nat.reduceAdd]; rfl) ?_)
    · refine rn_mk (k + 1, m ++ [L[k]]) ?_ (by first | omega | (dsimp only; omega)) (le_eq (by repeat' first | exact .nil | refine .keep ?_ | refine .any ?_) rfl rfl)
      exact ⟨by omega, by subst hm; rw [List.take_succ_eq_append_getElem (by omega)]⟩
    · refine en_end (by first | exact .inl rfl | exact .inr rfl) Try.results89 (by decide) rfl (by kernel_rfl) rfl (by simp [ne, nm, lget] <;> omega) ?_; simp only [ne, nf, nl, lget, reduceIte, Nat.reduceEqDiff]; first | rfl | refine congrArg RVb ?_ | refine congrArg RVi ?_ | skip
      rw [hm, List.take_of_length_le (by omega)]

theorem l25Lists_ok (L : List (List Int)) (h : L.length ≤ 1099511627775) (hl : ∀ r ∈ L, r.length ≤ 1099511627776) : FCr Try.prog 88 [RIss L] (OIss L) := by
  refine (fcr_in Try.func88 rfl (by simp only [Try.ntmps88, anys, List.length_cons, List.length_nil, Nat.reduceAdd, Nat.reduceSub, List.replicate_succ, List.replicate_zero, List.cons_append, List.nil_append] <;> rfl) ?_)
  repeat' first
    | refine w_seq ?_
    | refine w_block ?_
    | refine rb_n ?_
    | refine rb_ret ?_
    | refine rb_eq ?_
    | refine rb_ne (by rfl) ?_
    | refine w_exit ?_
    | refine rt_exit ?_
    | refine w_region ?_
    | refine l_nil ?_
    | refine rt_n ?_
    | refine w_ret ?_
    | refine rt_ret ?_
    | refine w_skip ?_
    | refine w_cond_t rfl ?_
    | refine w_cond_f rfl ?_
    | refine w_cnd rfl (fun hc => ?_) (fun hc => ?_)
    | refine w_cd rfl (fun hc => ?_) (fun hc => ?_)
    | refine w_cn rfl (fun hc => ?_) (fun hc => ?_)
    | refine w_cond rfl (fun hc => ?_) (fun hc => ?_)
    | (refine l_o ?_; refine l_op rfl (by first | exact ops_move | exact ops_assign | (apply k_lss; first | exact ops_lss rfl rfl | exact ops_lts rfl rfl | fail) | (apply k_add; first | exact ops_inc rfl (by omega) | exact ops_add rfl rfl (by omega) (by omega) | exact ops_cat rfl rfl (by omega) | fail) | (apply k_len; first | exact ops_len_sh rfl (by kernel_rfl) | exact ops_len_ref rfl (by kernel_rfl) | exact ops_len_nil rfl (by kernel_rfl) | exact ops_lens rfl (by kernel_rfl) | fail) | (apply k_load; first | exact ops_load_psh rfl rfl (by decide +kernel) | exact ops_load_psha rfl (by decide +kernel) (by kernel_rfl) (by simp) | exact ops_load_map rfl rfl (by omega) rfl (by decide +kernel) | exact ops_load_mapa rfl rfl (by omega) rfl (by decide +kernel) (by kernel_rfl) | exact ops_load_ptr rfl rfl rfl rfl rfl (by decide +kernel) | exact ops_load_ptra rfl rfl rfl rfl (by decide +kernel) (by kernel_rfl) | fail) | (apply k_indexAddr; first | exact ops_idx_map rfl rfl (by omega) (by kernel_rfl) (by kernel_rfl) | exact ops_idx_refm rfl rfl (by omega) rfl (by omega) (by kernel_rfl) (by kernel_rfl) | exact ops_idx_mapI rfl rfl (by omega) (by omega) (by kernel_rfl) (by kernel_rfl) | exact ops_idx_refmI rfl rfl (by omega) (by omega) rfl (by omega) (by kernel_rfl) (by kernel_rfl) | exact ops_idx_ref rfl rfl (by omega) rfl (by simp) (by kernel_rfl) (by kernel_rfl) | fail) | (apply k_buildSlice; first | exact ops_buildSlice (k := 1) rfl rfl rfl (by decide) (by decide) (by kernel_rfl) (by kernel_rfl) rfl (by simp [nm]) (by simp [nm, oerase, St.get, lget]) (by simp [nm, oerase, St.get, lget]) | exact ops_buildSlice (k := 2) rfl rfl rfl (by decide) (by decide) (by kernel_rfl) (by kernel_rfl) rfl (by simp [nm]) (by simp [nm, oerase, St.get, lget]) (by simp [nm, oerase, St.get, lget]) | exact ops_buildSlice (k := 4) rfl rfl rfl (by decide) (by decide) (by kernel_rfl) (by kernel_rfl) rfl (by simp [nm]) (by simp [nm, oerase, St.get, lget]) (by simp [nm, oerase, St.get, lget]) | fail) | (apply k_append; first | exact ap_seal rfl rfl rfl rfl rfl (by simp) rfl (by simp) (by simp [nm, oerase, St.get, lget]) (by decide) (by decide) (by decide) (by simp [nm, oerase, St.get, lget]) (by simp [nm, oerase, St.get, lget]) ⟨by kernel_rfl, by kernel_rfl, by kernel_rfl, by kernel_rfl⟩ (by simp; omega) | exact ap_own rfl rfl rfl rfl (by decide) (by simp) (by simp) (by simp) (by simp [nm, oerase, St.get, lget]) (by simp [nm, oerase, St.get, lget]) (by simp [nm, oerase, St.get, lget]) ⟨by kernel_rfl, by kernel_rfl, by kernel_rfl, by kernel_rfl⟩ (by simp; omega) | exact ap_sh rfl rfl rfl (by simp) (by first | exact wd_all fun _ => rfl | simp [RV.width]) (by simp [nm, oerase, St.get, lget]) (by simp [nm, oerase, St.get, lget]) ⟨by kernel_rfl, by kernel_rfl, by kernel_rfl, by kernel_rfl⟩ (by simp; omega) | exact ap_nil rfl rfl rfl (by decide) (by simp) (by simp) (by decide) (by simp) (by simp [nm, oerase, St.get, lget]) (by simp [nm, oerase, St.get, lget]) (by simp [nm, oerase, St.get, lget]) (by simp [nm, oerase, St.get, lget]) ⟨by kernel_rfl, by kernel_rfl, by kernel_rfl, by kernel_rfl⟩ (by simp; omega) | exact ap_nilsh rfl rfl (by decide) (by simp) (by first | exact wd_all fun _ => rfl | simp [RV.width]) (by simp [nm, oerase, St.get, lget]) (by simp [nm, oerase, St.get, lget]) ⟨by kernel_rfl, by kernel_rfl, by kernel_rfl, by kernel_rfl⟩ (by simp; omega) | fail) | fail) (by simp only [nz, nf, nl, nb, reduceIte, Nat.reduceEqDiff, Nat.reduceAdd]; rfl) ?_)
  refine w_loopm (ι := Nat × List (List Int)) (fun k => [(4, RVi k.1), (3, .ref 5 0 k.2.length), (5, .any)]) (fun k => [(5, 1, k.2.map OIs)]) (fun k => k.1 ≤ L.length ∧ k.2 = L.take k.1) (fun k => L.length - k.1) (0, []) (by simp only [wr, List.filterMap_cons, List.filterMap_nil, List.cons_append, List.nil_append, List.append_nil] <;> rfl) (by simp only [forget, lset] <;> rfl) (by intro i; simp only [puts, lset] <;> rfl) ?_ ?_ ?_
  · simp
  · refine le_eq (by repeat' first | exact .nil | refine .keep ?_ | refine .any ?_) rfl rfl
  · intro ⟨k, m⟩ ⟨hk, hm⟩
    dsimp only at hk hm ⊢
    have hml : m.length = k := by rw [hm]; simp; omega
    by_cases hkl : k < L.length
    · have hlk := hl L[k] (List.getElem_mem _)
      repeat' first
        | refine w_seq ?_
        | refine w_block ?_
        | refine rb_n ?_
        | refine rb_ret ?_
        | refine rb_eq ?_
        | refine rb_ne (by rfl) ?_
        | refine w_exit ?_
        | refine rt_exit ?_
        | refine w_region ?_
        | refine l_nil ?_
        | refine rt_n ?_
        | refine w_ret ?_
        | refine rt_ret ?_
        | refine w_skip ?_
        | refine w_cond_t rfl ?_
        | refine w_cond_f rfl ?_
        | refine w_cnd rfl (fun hc => ?_) (fun hc => ?_)
        | refine w_cd rfl (fun hc => ?_) (fun hc => ?_)
        | refine w_cn rfl (fun hc => ?_) (fun hc => ?_)
        | refine w_cond rfl (fun hc => ?_) (fun hc => ?_)
        | (refine l_o ?_; refine l_op rfl (by first | exact ops_move | exact ops_assign | (apply k_lss; first | exact ops_lss rfl rfl | exact ops_lts rfl rfl | fail) | (apply k_add; first | exact ops_inc rfl (by omega) | exact ops_add rfl rfl (by omega) (by omega) | exact ops_cat rfl rfl (by omega) | fail) | (apply k_len; first | exact ops_len_sh rfl (by kernel_rfl) | exact ops_len_ref rfl (by kernel_rfl) | exact ops_len_nil rfl (by kernel_rfl) | exact ops_lens rfl (by kernel_rfl) | fail) | (apply k_load; first | exact ops_load_psh rfl rfl (by decide +kernel) | exact ops_load_psha rfl (by decide +kernel) (by kernel_rfl) (by simp) | exact ops_load_map rfl rfl (by omega) rfl (by decide +kernel) | exact ops_load_mapa rfl rfl (by omega) rfl (by decide +kernel) (by kernel_rfl) | exact ops_load_ptr rfl rfl rfl rfl rfl (by decide +kernel) | exact ops_load_ptra rfl rfl rfl rfl (by decide +kernel) (by kernel_rfl) | fail) | (apply k_indexAddr; first | exact ops_idx_map rfl rfl (by omega) (by kernel_rfl) (by kernel_rfl) | exact ops_idx_refm rfl rfl (by omega) rfl (by omega) (by kernel_rfl) (by kernel_rfl) | exact ops_idx_mapI rfl rfl (by omega) (by omega) (by kernel_rfl) (by kernel_rfl) | exact ops_idx_refmI rfl rfl (by omega) (by omega) rfl (by omega) (by kernel_rfl) (by kernel_rfl) | exact ops_idx_ref rfl rfl (by omega) rfl (by simp) (by kernel_rfl) (by kernel_rfl) | fail) | (apply k_buildSlice; first | exact ops_buildSlice (k := 1) rfl rfl rfl (by decide) (by decide) (by kernel_rfl) (by kernel_rfl) rfl (by simp [nm]) (by simp [nm, oerase, St.get, lget]) (by simp [nm, oerase, St.get, lget]) | exact ops_buildSlice (k := 2) rfl rfl rfl (by decide) (by decide) (by kernel_rfl) (by kernel_rfl) rfl (by simp [nm]) (by simp [nm, oerase, St.get, lget]) (by simp [nm, oerase, St.get, lget]) | exact ops_buildSlice (k := 4) rfl rfl rfl (by decide) (by decide) (by kernel_rfl) (by kernel_rfl) rfl (by simp [nm]) (by simp [nm, oerase, St.get, lget]) (by simp [nm, oerase, St.get, lget]) | fail) | (apply k_append; first | exact ap_seal rfl rfl rfl rfl rfl (by simp) rfl (by simp) (by simp [nm, oerase, St.get, lget]) (by decide) (by decide) (by decide) (by simp [nm, oerase, St.get, lget]) (by simp [nm, oerase, St.get, lget]) ⟨by kernel_rfl, by kernel_rfl, by kernel_rfl, by kernel_rfl⟩ (by simp; omega) | exact ap_own rfl rfl rfl rfl (by decide) (by simp) (by simp) (by simp) (by simp [nm, oerase, St.get, lget]) (by simp [nm, oerase, St.get, lget]) (by simp [nm, oerase, St.get, lget]) ⟨by kernel_rfl, by kernel_rfl, by kernel_rfl, by kernel_rfl⟩ (by simp; omega) | exact ap_sh rfl rfl rfl (by simp) (by first | exact wd_all fun _ => rfl | simp [RV.width]) (by simp [nm, oerase, St.get, lget]) (by simp [nm, oerase, St.get, lget]) ⟨by kernel_rfl, by kernel_rfl, by kernel_rfl, by kernel_rfl⟩ (by simp; omega) | exact ap_nil rfl rfl rfl (by decide) (by simp) (by simp) (by decide) (by simp) (by simp [nm, oerase, St.get, lget]) (by simp [nm, oerase, St.get, lget]) (by simp [nm, oerase, St.get, lget]) (by simp [nm, oerase, St.get, lget]) ⟨by kernel_rfl, by kernel_rfl, by kernel_rfl, by kernel_rfl⟩ (by simp; omega) | exact ap_nilsh rfl rfl (by decide) (by simp) (by first | exact wd_all fun _ => rfl | simp [RV.width]) (by simp [nm, oerase, St.get, lget]) (by simp [nm, oerase, St.get, lget]) ⟨by kernel_rfl, by kernel_rfl, by kernel_rfl, by kernel_rfl⟩ (by simp; omega) | fail) | fail) (by simp only [nz, nf, nl, nb, reduceIte, Nat.reduceEqDiff, Nat.reduceAdd]; rfl) ?_)
      · refine rn_mk (k + 1, m ++ [L[k]]) ?_ (by first | omega | (dsimp only; omega)) (le_eq (by repeat' first | exact .nil | refine .keep ?_ | refine .any ?_) rfl rfl)
        exact ⟨by omega, by subst hm; rw [List.take_succ_eq_append_getElem (by omega)]⟩
      · omega
    · repeat' first
        | refine w_seq ?_
        | refine w_block ?_
        | refine rb_n ?_
        | refine rb_ret ?_
        | refine rb_eq ?_
        | refine rb_ne (by rfl) ?_
        | refine w_exit ?_
        | refine rt_exit ?_
        | refine w_region ?_
        | refine l_nil ?_
        | refine rt_n ?_
        | refine w_ret ?_
        | refine rt_ret ?_
        | refine w_skip ?_
        | refine w_cond_t rfl ?_
        | refine w_cond_f rfl ?_
        | refine w_cnd rfl (fun hc => ?_) (fun hc => ?_)
        | refine w_cd rfl (fun hc => ?_) (fun hc => ?_)
        | refine w_cn rfl (fun hc => ?_) (fun hc => ?_)
        | refine w_cond rfl (fun hc => ?_) (fun hc => ?_)
        | (refine l_o ?_; refine l_op rfl (by first | exact ops_move | exact ops_assign | (apply k_lss; first | exact ops_lss rfl rfl | exact ops_lts rfl rfl | fail) | (apply k_add; first | exact ops_inc rfl (by omega) | exact ops_add rfl rfl (by omega) (by omega) | exact ops_cat rfl rfl (by omega) | fail) | (apply k_len; first | exact ops_len_sh rfl (by kernel_rfl) | exact ops_len_ref rfl (by kernel_rfl) | exact ops_len_nil rfl (by kernel_rfl) | exact ops_lens rfl (by kernel_rfl) | fail) | (apply k_load; first | exact ops_load_psh rfl rfl (by decide +kernel) | exact ops_load_psha rfl (by decide +kernel) (by kernel_rfl) (by simp) | exact ops_load_map rfl rfl (by omega) rfl (by decide +kernel) | exact ops_load_mapa rfl rfl (by omega) rfl (by decide +kernel) (by kernel_rfl) | exact ops_load_ptr rfl rfl rfl rfl rfl (by decide +kernel) | exact ops_load_ptra rfl rfl rfl rfl (by decide +kernel) (by kernel_rfl) | fail) | (apply k_indexAddr; first | exact ops_idx_map rfl rfl (by omega) (by kernel_rfl) (by kernel_rfl) | exact ops_idx_refm rfl rfl (by omega) rfl (by omega) (by kernel_rfl) (by kernel_rfl) | exact ops_idx_mapI rfl rfl (by omega) (by omega) (by kernel_rfl) (by kernel_rfl) | exact ops_idx_refmI rfl rfl (by omega) (by omega) rfl (by omega) (by kernel_rfl) (by kernel_rfl) | exact ops_idx_ref rfl rfl (by omega) rfl (by simp) (by kernel_rfl) (by kernel_rfl) | fail) | (apply k_buildSlice; first | exact ops_buildSlice (k := 1) rfl rfl rfl (by decide) (by decide) (by kernel_rfl) (by kernel_rfl) rfl (by simp [nm]) (by simp [nm, oerase, St.get, lget]) (by simp [nm, oerase, St.get, lget]) | exact ops_buildSlice (k := 2) rfl rfl rfl (by decide) (by decide) (by kernel_rfl) (by kernel_rfl) rfl (by simp [nm]) (by simp [nm, oerase, St.get, lget]) (by simp [nm, oerase, St.get, lget]) | exact ops_buildSlice (k := 4) rfl rfl rfl (by decide) (by decide) (by kernel_rfl) (by kernel_rfl) rfl (by simp [nm]) (by simp [nm, oerase, St.get, lget]) (by simp [nm, oerase, St.get, lget]) | fail) | (apply k_append; first | exact ap_seal rfl rfl rfl rfl rfl (by simp) rfl (by simp) (by simp [nm, oerase, St.get, lget]) (by decide) (by decide) (by decide) (by simp [nm, oerase, St.get, lget]) (by simp [nm, oerase, St.get, lget]) ⟨by kernel_rfl, by kernel_rfl, by kernel_rfl, by kernel_rfl⟩ (by simp; omega) | exact ap_own rfl rfl rfl rfl (by decide) (by simp) (by simp) (by simp) (by simp [nm, oerase, St.get, lget]) (by simp [nm, oerase, St.get, lget]) (by simp [nm, oerase, St.get, lget]) ⟨by kernel_rfl, by kernel_rfl, by kernel_rfl, by kernel_rfl⟩ (by simp; omega) | exact ap_sh rfl rfl rfl (by simp) (by first | exact wd_all fun _ => rfl | simp [RV.width]) (by simp [nm, oerase, St.get, lget]) (by simp [nm, oerase, St.get, lget]) ⟨by kernel_rfl, by kernel_rfl, by kernel_rfl, by kernel_rfl⟩ (by simp; omega) | exact ap_nil rfl rfl rfl (by decide) (by simp) (by simp) (by decide) (by simp) (by simp [nm, oerase, St.get, lget]) (by simp [nm, oerase, St.get, lget]) (by simp [nm, oerase, St.get, lget]) (by simp [nm, oerase, St.get, lget]) ⟨by kernel_rfl, by kernel_rfl, by kernel_rfl, by kernel_rfl⟩ (by simp; omega) | exact ap_nilsh rfl rfl (by decide) (by simp) (by first | exact wd_all fun _ => rfl | simp [RV.width]) (by simp [nm, oerase, St.get, lget]) (by simp [nm, oerase, St.get, lget]) ⟨by kernel_rfl, by kernel_rfl, by kernel_rfl, by kernel_rfl⟩ (by simp; omega) | fail) | fail) (by simp only [nz, nf, nl, nb, reduceIte, Nat.reduceEqDiff, Nat.reduceAdd]; rfl) ?_)
      · omega
      · refine en_end (by first | exact .inl rfl | exact .inr rfl) Try.results88 (by decide) rfl (by kernel_rfl) rfl (by simp [ne, nm, lget] <;> omega) ?_; simp only [ne, nf, nl, lget, reduceIte, Nat.reduceEqDiff]; first | rfl | refine congrArg RVb ?_ | refine congrArg RVi ?_ | skip
        rw [hm, List.take_of_length_le (by omega)]
end Go.Proofs.Ytndbplemeakmnaa
