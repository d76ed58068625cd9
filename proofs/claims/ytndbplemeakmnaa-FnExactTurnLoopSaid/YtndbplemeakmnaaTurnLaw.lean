/- The drawn law of TurnLoop answers true. For all loops. -/
import Derived.Test.YtndbplemeakmnaaTurnLoop
namespace Go.Proofs.Ytndbplemeakmnaa
open Eng
attribute [local irreducible] OpS OpG FC FCr Rel Fl Ef DR
set_option linter.unusedSimpArgs false
set_option maxHeartbeats 0
set_option maxRecDepth 100000

theorem lens_szSS (l : List (List Int)) (left : Int) (h0 : 0 ≤ left) (h : 0 ≤ szSS l left) : (lens l l.length : Int) + szSS l left = left := by
  induction l generalizing left with
  | nil => simp [lens, szSS]
  | cons r rs ih =>
    simp only [szSS] at h ⊢
    split at h
    · omega
    · rename_i hh
      rw [if_neg hh]
      have := ih (left - r.length) (by omega) h
      simp only [lens, List.length_cons]
      omega
theorem lens_szLp {L R : List (List Int)} {left : Int} (h : 0 ≤ szLp L R left) : (lens L L.length : Int) + lens R R.length ≤ left := by
  unfold szLp at h
  split at h
  · omega
  · split at h
    · omega
    · rename_i h1 h2
      have hl1 : ¬ left - L.length < 0 := by
        intro hh
        rw [szSSr, if_pos hh] at h1
        omega
      have e1 : szSSr L left = szSS L (left - L.length) := by rw [szSSr, if_neg hl1]
      have hl2 : ¬ szSSr L left - R.length < 0 := by
        intro hh
        have : szSSr R (szSSr L left) = -1 := by rw [szSSr, if_pos hh]
        omega
      have e2 : szSSr R (szSSr L left) = szSS R (szSSr L left - R.length) := by rw [szSSr, if_neg hl2]
      have h3 := lens_szSS L (left - L.length) (by omega) (by rw [← e1]; omega)
      have h4 := lens_szSS R (szSSr L left - R.length) (by omega) (by rw [← e2]; omega)
      rw [← e1] at h3
      rw [← e2] at h4
      omega
theorem markR_all (k : Nat) (L : List (List Int)) : lens (markR k L L.length) (markR k L L.length).length = lens L L.length ∧ heldR k (markR k L L.length) = true := by
  induction L generalizing k with
  | nil => exact ⟨rfl, rfl⟩
  | cons r rs ih =>
    have h := ih (k + r.length)
    simp only [List.length_cons, markR, lens, fromN_length, heldR, heldI_fromN]
    exact ⟨by omega, by simpa using h.2⟩
theorem heldLp_marked (k : Nat) (L R : List (List Int)) : heldLp k (markR k L L.length) (markR (k + lens L L.length) R R.length) = true := by
  simp only [heldLp, (markR_all k L).1, (markR_all k L).2, (markR_all (k + lens L L.length) R).2, Bool.and_self]
theorem lens_le_mul (L : List (List Int)) (n : Nat) (h : ∀ r ∈ L, r.length ≤ n) : lens L L.length ≤ L.length * n := by
  induction L with
  | nil => simp [lens]
  | cons r rs ih =>
    have := ih fun r hr => h r (by simp [hr])
    have := h r (by simp)
    simp only [lens, List.length_cons, Nat.add_mul]
    omega
theorem turn_small (L R : List (List Int)) : (turnA L R).length ≤ 36 ∧ (turnB L R).length ≤ 36 ∧ lens (turnA L R) (turnA L R).length ≤ 864 ∧ lens (turnB L R) (turnB L R).length ≤ 864 := by
  unfold turnA turnB
  cases hg : goodLp L R with
  | false => simp [lens]
  | true =>
    obtain ⟨h1, h2, h3, h4, h5⟩ := goodLp_small hg
    have a := lens_le_mul L 24 fun r hr => tgtOk_len (h4 r hr)
    have b := lens_le_mul R 24 fun r hr => tgtOk_len (h5 r hr)
    simp only [if_true]
    omega

theorem lawTurnLoop_ok (L R : List (List Int)) : FCr Try.prog 4 [RLp L R] (RVb true) := by
  refine (fcr_in Try.func4 rfl (by simp only [Try.ntmps4, anys, List.length_cons, List.length_nil, Nat.reduceAdd, Nat.reduceSub, List.replicate_succ, List.replicate_zero, List.cons_append, List.nil_append] <;> rfl) ?_)
  repeat' first
    | refine w_seq ?_
    | refine w_region ?_
    | refine l_nil ?_
    | refine rt_n ?_
    | refine w_ret ?_
    | refine rt_ret ?_
    | refine w_skip ?_
    | refine w_cond_t rfl ?_
    | refine w_cond_f rfl ?_
    | refine w_cnd rfl (fun hc => ?_) (fun hc => ?_)
    | refine w_cd rfl (fun hc => ?_) (fun hc => ?_)
    | refine w_cn rfl (fun hc => ?_) (fun hc => ?_)
    | refine w_cond rfl (fun hc => ?_) (fun hc => ?_)
    | (refine l_o ?_; first | refine l_op rfl (by first | exact ops_move | exact ops_assign | (apply k_lss; first | exact ops_lss rfl rfl | exact ops_lts rfl rfl | fail) | (apply k_neq; first | exact ops_nei rfl rfl | exact ops_nes rfl rfl | exact ops_neb rfl rfl (by kernel_rfl) | fail) | (apply k_extract; first | exact ops_extract rfl rfl | fail) | (apply k_not; first | exact ops_not rfl | fail) | (apply k_pick; first | exact ops_pick_t rfl | exact ops_pick_f rfl | exact ops_pick_b rfl rfl rfl | exact ops_pick_i rfl rfl rfl | fail) | (apply k_load; first | exact ops_load_psh rfl rfl (by decide +kernel) | exact ops_load_psha rfl (by decide +kernel) (by kernel_rfl) (by simp) | exact ops_load_map rfl rfl (by omega) rfl (by decide +kernel) | exact ops_load_mapa rfl rfl (by omega) rfl (by decide +kernel) (by kernel_rfl) | exact ops_load_ptr rfl rfl rfl rfl rfl (by decide +kernel) | exact ops_load_ptra rfl rfl rfl rfl (by decide +kernel) (by kernel_rfl) | fail) | (apply k_box; first | exact ops_box (r := _) rfl rfl (by simp [nm]) (by simp [nm]) (by simp [nm]) | exact ops_boxa rfl (by simp) (by simp [nm]) (by simp [nm]) (by simp [nm]) | fail) | (apply k_alloc; first | exact ops_alloca (zs := _) rfl (by decide) rfl (by simp [nm]) (by simp [nm]) | exact ops_alloc rfl rfl (by simp [nm]) (by simp [nm]) | fail) | (apply k_store; first | exact ops_store_sealm rfl rfl rfl (by omega) rfl (by kernel_rfl) rfl (by simp) (by simp [nm]) (by decide) | exact ops_store_map rfl rfl rfl (by omega) rfl rfl (by kernel_rfl) | exact ops_store rfl rfl rfl rfl (by simp [RV.cellsL]) rfl (by kernel_rfl) | exact ops_storea rfl rfl rfl rfl rfl rfl (by kernel_rfl) | fail) | (apply k_callf; first | exact ops_callz (by first | rfl | (simp only [nz, nf, vw, reduceIte, Nat.reduceEqDiff, ne_eq, not_false_eq_true]; rfl) | (simp [view1, viewC, olook, nv, nz, nf, *]; fail_if_success show _)) rfl (by kernel_rfl) (szLoop_ok L R 1048576 (by omega) (by omega)) (by simp [ns]) | fail) | fail) (by simp only [nz, nf, nl, nb, reduceIte, Nat.reduceEqDiff, Nat.reduceAdd]; rfl) ?_ | (refine l_g ?_; first | refine l_y rfl rfl rfl ?_ | refine l_n rfl rfl rfl rfl (by simp only [nz, nf, nl, nb, reduceIte, Nat.reduceEqDiff, Nat.reduceAdd]; rfl) ?_ | refine l_n' rfl rfl rfl (by simp only [nz, nf, nl, nb, reduceIte, Nat.reduceEqDiff, Nat.reduceAdd]; rfl) ?_ | refine l_spnd rfl rfl rfl (by simp only [nz, nf, nl, nb, reduceIte, Nat.reduceEqDiff, Nat.reduceAdd]; rfl) (by simp only [nz, nf, nl, nb, reduceIte, Nat.reduceEqDiff, Nat.reduceAdd]; rfl) (fun hc => ?_) (fun hc => ?_) | refine l_spd rfl rfl rfl (by simp only [nz, nf, nl, nb, reduceIte, Nat.reduceEqDiff, Nat.reduceAdd]; rfl) (by simp only [nz, nf, nl, nb, reduceIte, Nat.reduceEqDiff, Nat.reduceAdd]; rfl) (fun hc => ?_) (fun hc => ?_) | refine l_spn rfl rfl rfl (by simp only [nz, nf, nl, nb, reduceIte, Nat.reduceEqDiff, Nat.reduceAdd]; rfl) (by simp only [nz, nf, nl, nb, reduceIte, Nat.reduceEqDiff, Nat.reduceAdd]; rfl) (fun hc => ?_) (fun hc => ?_) | refine l_sp rfl rfl rfl (by simp only [nz, nf, nl, nb, reduceIte, Nat.reduceEqDiff, Nat.reduceAdd]; rfl) (by simp only [nz, nf, nl, nb, reduceIte, Nat.reduceEqDiff, Nat.reduceAdd]; rfl) (fun hc => ?_) (fun hc => ?_)))
    | refine d_nil ?_
    | (refine d_o ?_; first | refine d_fl rfl (by first | exact .move | exact .moveY rfl rfl rfl | exact .assign | exact .assignY rfl rfl rfl | exact .pick_t rfl | exact .pick_f rfl | exact .pick_tY rfl rfl rfl rfl | exact .pick_fY rfl rfl rfl rfl | exact .pl (by first | (apply q_lss; first | exact fs_lss rfl rfl | exact fs_lts rfl rfl | fail) | (apply q_neq; first | exact fs_nei rfl rfl | exact fs_nes rfl rfl | exact fs_neb rfl rfl (by kernel_rfl) | fail) | (apply q_extract; first | exact fs_extract rfl rfl | fail) | (apply q_not; first | exact fs_not rfl | fail) | (apply q_pick; first | exact fs_pick_b rfl rfl rfl | exact fs_pick_i rfl rfl rfl | fail) | (apply q_load; first | exact fs_load_psh rfl rfl (by decide +kernel) | exact fs_load_psha rfl (by decide +kernel) (by kernel_rfl) (by simp) | exact fs_load_map rfl rfl rfl (by omega) rfl (by decide +kernel) | exact fs_load_mapa rfl rfl rfl (by omega) rfl (by decide +kernel) (by kernel_rfl) | exact fs_load_ptr rfl rfl rfl rfl rfl rfl (by decide +kernel) | exact fs_load_ptra rfl rfl rfl rfl rfl (by decide +kernel) (by kernel_rfl) | fail) | fail) | exact .ye rfl rfl rfl (by first | (apply q_lss; first | exact fs_lss rfl rfl | exact fs_lts rfl rfl | fail) | (apply q_neq; first | exact fs_nei rfl rfl | exact fs_nes rfl rfl | exact fs_neb rfl rfl (by kernel_rfl) | fail) | (apply q_extract; first | exact fs_extract rfl rfl | fail) | (apply q_not; first | exact fs_not rfl | fail) | (apply q_pick; first | exact fs_pick_b rfl rfl rfl | exact fs_pick_i rfl rfl rfl | fail) | (apply q_load; first | exact fs_load_psh rfl rfl (by decide +kernel) | exact fs_load_psha rfl (by decide +kernel) (by kernel_rfl) (by simp) | exact fs_load_map rfl rfl rfl (by omega) rfl (by decide +kernel) | exact fs_load_mapa rfl rfl rfl (by omega) rfl (by decide +kernel) (by kernel_rfl) | exact fs_load_ptr rfl rfl rfl rfl rfl rfl (by decide +kernel) | exact fs_load_ptra rfl rfl rfl rfl rfl (by decide +kernel) (by kernel_rfl) | fail) | fail) | exact .no rfl rfl rfl | exact .no' rfl rfl | fail) (by simp only [nz, nf, nl, nb, reduceIte, Nat.reduceEqDiff, Nat.reduceAdd]; rfl) (by first | (simp [nm]; done) | simp [nm, nz, nb]) ?_ | refine d_ef rfl (by first | exact .callz (by first | rfl | (simp only [nz, nf, vw, reduceIte, Nat.reduceEqDiff, ne_eq, not_false_eq_true]; rfl) | (simp [view1, viewC, olook, nv, nz, nf, *]; fail_if_success show _)) rfl (by kernel_rfl) (szLoop_ok L R 1048576 (by omega) (by omega)) (by simp [ns]) | exact .callzY rfl rfl rfl (by first | rfl | (simp only [nz, nf, vw, reduceIte, Nat.reduceEqDiff, ne_eq, not_false_eq_true]; rfl) | (simp [view1, viewC, olook, nv, nz, nf, *]; fail_if_success show _)) rfl (by kernel_rfl) (szLoop_ok L R 1048576 (by omega) (by omega)) (by simp [ns]) | exact .no rfl rfl rfl | exact .no' rfl rfl | exact .store rfl rfl rfl rfl (by simp [RV.cellsL]) rfl (by kernel_rfl) | exact .storea rfl rfl rfl rfl rfl rfl (by kernel_rfl) | fail) (by simp only [nz, nf, nl, nb, reduceIte, Nat.reduceEqDiff, Nat.reduceAdd]; rfl) (by simp only [nz, nf, nl, reduceIte, Nat.reduceEqDiff] <;> rfl) (by first | (simp [nm]; done) | simp [nm, nz, nb]) (by first | exact fun _ _ => rfl | exact ro_of (by simp [olook])) ?_ | (refine d_g ?_; first | refine d_spnd rfl rfl rfl (by simp only [nz, nf, nl, nb, reduceIte, Nat.reduceEqDiff, Nat.reduceAdd]; rfl) (by simp only [nz, nf, nl, nb, reduceIte, Nat.reduceEqDiff, Nat.reduceAdd]; rfl) (fun hc => ?_) (fun hc => ?_) | refine d_spd rfl rfl rfl (by simp only [nz, nf, nl, nb, reduceIte, Nat.reduceEqDiff, Nat.reduceAdd]; rfl) (by simp only [nz, nf, nl, nb, reduceIte, Nat.reduceEqDiff, Nat.reduceAdd]; rfl) (fun hc => ?_) (fun hc => ?_) | refine d_spn rfl rfl rfl (by simp only [nz, nf, nl, nb, reduceIte, Nat.reduceEqDiff, Nat.reduceAdd]; rfl) (by simp only [nz, nf, nl, nb, reduceIte, Nat.reduceEqDiff, Nat.reduceAdd]; rfl) (fun hc => ?_) (fun hc => ?_) | refine d_sp rfl rfl rfl (by simp only [nz, nf, nl, nb, reduceIte, Nat.reduceEqDiff, Nat.reduceAdd]; rfl) (by simp only [nz, nf, nl, nb, reduceIte, Nat.reduceEqDiff, Nat.reduceAdd]; rfl) (fun hc => ?_) (fun hc => ?_)))
    | (refine w_o ?_; first | refine w_draw (id := 10) (fun _ => true) (fun k => [2, 3].contains k) [[], []] 64 (by kernel_rfl) (by kernel_rfl) (by simp [nm]) ?_)
  · refine en_one (by first | exact .inl rfl | exact .inr rfl) Try.results4 rfl rfl ?_; simp only [lget]; first | refine congrArg RVb ?_ | refine congrArg RVi ?_ | skip
  obtain ⟨⟨b1, b2⟩, b3, b4⟩ := szLp_lens (L := L) (R := R) (left := 1048576) (by omega) (by omega)
  have b5 := lens_szLp (L := L) (R := R) (left := 1048576) (by omega)
  obtain ⟨c1, c2, c3, c4⟩ := turn_small L R
  have hT := implTurn_ok L R
  have hS := specTurn_ok L R
  generalize turnA L R = A at *
  generalize turnB L R = B at *
  generalize goodLp L R = G at *
  have hA := markR_all 1 A
  have hB := markR_all (1 + lens A A.length) B
  have hh := heldLp_marked 1 A B
  have hH := heldLoop_ok (markR 1 A A.length) (markR (1 + lens A A.length) B B.length) 1 (by rw [markR_length]; omega) (by rw [markR_length]; omega) (by omega)
  rw [hh, hA.1, hB.1, if_pos rfl] at hH
  have l1 := markR_length 1 A A.length
  have l2 := markR_length (1 + lens A A.length) B B.length
  have t1 := List.take_of_length_le (l := (markR 1 A A.length).map OIs) (i := A.length) (by simp [l1])
  have t2 := List.take_of_length_le (l := (markR (1 + lens A A.length) B B.length).map OIs) (i := B.length) (by simp [l2])
  clear hA hB hh
  repeat' first
    | refine w_seq ?_
    | refine w_region ?_
    | refine l_nil ?_
    | refine rt_n ?_
    | refine w_ret ?_
    | refine rt_ret ?_
    | refine w_skip ?_
    | refine w_cond_t rfl ?_
    | refine w_cond_f rfl ?_
    | refine w_cnd rfl (fun hc => ?_) (fun hc => ?_)
    | refine w_cd rfl (fun hc => ?_) (fun hc => ?_)
    | refine w_cn rfl (fun hc => ?_) (fun hc => ?_)
    | refine w_cond rfl (fun hc => ?_) (fun hc => ?_)
    | (refine l_o ?_; first | refine l_op rfl (by first | exact ops_move | exact ops_assign | (apply k_lss; first | exact ops_lss rfl rfl | exact ops_lts rfl rfl | fail) | (apply k_neq; first | exact ops_nei rfl rfl | exact ops_nes rfl rfl | exact ops_neb rfl rfl (by kernel_rfl) | fail) | (apply k_extract; first | exact ops_extract rfl rfl | fail) | (apply k_not; first | exact ops_not rfl | fail) | (apply k_pick; first | exact ops_pick_t rfl | exact ops_pick_f rfl | exact ops_pick_b rfl rfl rfl | exact ops_pick_i rfl rfl rfl | fail) | (apply k_load; first | exact ops_load_psh rfl rfl (by decide +kernel) | exact ops_load_psha rfl (by decide +kernel) (by kernel_rfl) (by simp) | exact ops_load_map rfl rfl (by omega) rfl (by decide +kernel) | exact ops_load_mapa rfl rfl (by omega) rfl (by decide +kernel) (by kernel_rfl) | exact ops_load_ptr rfl rfl rfl rfl rfl (by decide +kernel) | exact ops_load_ptra rfl rfl rfl rfl (by decide +kernel) (by kernel_rfl) | fail) | (apply k_callf; first | exact ops_callz (by simp [view1, viewC, olook, nz, nf, l1, l2, t1, t2]) rfl (by kernel_rfl) hH (by simp [ns]) | exact ops_callm2 (d := 48) 1026 2026 ((markR 1 L L.length).map OIs) ((markR (1 + lens L L.length) R R.length).map OIs) (by decide) rfl rfl rfl rfl (by kernel_rfl) (markLoop_ok L R 1 (by omega) (by omega) (by omega)) (by simp [nm]) (by simp [nm]) (by simp [ns]) (by simp [RV.resOkT, RV.resOk, RV.isAgg, nm]) (by simp [ns]) (by simp [nz, nm]) (by simp [nz, nm]) | exact ops_callm2 (d := 64) 100001029 200001029 ((markR 1 A A.length).map OIs) ((markR (1 + lens A A.length) B B.length).map OIs) (by decide) rfl rfl rfl rfl (by kernel_rfl) (markLoop_ok A B 1 (by omega) (by omega) (by omega)) (by simp [nm]) (by simp [nm]) (by simp [ns]) (by simp [RV.resOkT, RV.resOk, RV.isAgg, nm]) (by simp [ns]) (by simp [nz, nm]) (by simp [nz, nm]) | exact ops_callv (d := 26) (by first | rfl | (simp only [nz, nf, vw, reduceIte, Nat.reduceEqDiff, ne_eq, not_false_eq_true]; rfl) | (simp [view1, viewC, olook, nv, nz, nf, *]; fail_if_success show _)) rfl (by kernel_rfl) (toLoop_ok L R b1 b2 b3 b4) (by simp [RV.resOkT, RV.resOk, RV.isAgg, nm]) (by simp [ns]) (by simp [nz, nm]) (by simp [nz, nm]) | exact ops_callv (d := 29) (by first | rfl | (simp only [nz, nf, vw, reduceIte, Nat.reduceEqDiff, ne_eq, not_false_eq_true]; rfl) | (simp [view1, viewC, olook, nv, nz, nf, *]; fail_if_success show _)) rfl (by kernel_rfl) (hT) (by simp [RV.resOkT, RV.resOk, RV.isAgg, nm]) (by simp [ns]) (by simp [nz, nm]) (by simp [nz, nm]) | exact ops_callz (d := 44) (by first | rfl | (simp only [nz, nf, vw, reduceIte, Nat.reduceEqDiff, ne_eq, not_false_eq_true]; rfl) | (simp [view1, viewC, olook, nv, nz, nf, *]; fail_if_success show _)) rfl (by kernel_rfl) (eqLoop_ok L R L R) (by simp [ns]) | exact ops_callz (by first | rfl | (simp only [nz, nf, vw, reduceIte, Nat.reduceEqDiff, ne_eq, not_false_eq_true]; rfl) | (simp [view1, viewC, olook, nv, nz, nf, *]; fail_if_success show _)) rfl (by kernel_rfl) (toLoop_ok L R b1 b2 b3 b4) (by simp [ns]) | exact ops_callz (by first | rfl | (simp only [nz, nf, vw, reduceIte, Nat.reduceEqDiff, ne_eq, not_false_eq_true]; rfl) | (simp [view1, viewC, olook, nv, nz, nf, *]; fail_if_success show _)) rfl (by kernel_rfl) (hS) (by simp [ns]) | exact ops_callz (by first | rfl | (simp only [nz, nf, vw, reduceIte, Nat.reduceEqDiff, ne_eq, not_false_eq_true]; rfl) | (simp [view1, viewC, olook, nv, nz, nf, *]; fail_if_success show _)) rfl (by kernel_rfl) (hT) (by simp [ns]) | exact ops_callz (by first | rfl | (simp only [nz, nf, vw, reduceIte, Nat.reduceEqDiff, ne_eq, not_false_eq_true]; rfl) | (simp [view1, viewC, olook, nv, nz, nf, *]; fail_if_success show _)) rfl (by kernel_rfl) (eqLoop_ok A B A B) (by simp [ns]) | fail) | (apply k_box; first | exact ops_box (r := _) rfl rfl (by simp [nm]) (by simp [nm]) (by simp [nm]) | exact ops_boxa rfl (by simp) (by simp [nm]) (by simp [nm]) (by simp [nm]) | fail) | (apply k_alloc; first | exact ops_alloca (zs := _) rfl (by decide) rfl (by simp [nm]) (by simp [nm]) | exact ops_alloc rfl rfl (by simp [nm]) (by simp [nm]) | fail) | (apply k_store; first | exact ops_store_sealm rfl rfl rfl (by omega) rfl (by kernel_rfl) rfl (by simp) (by simp [nm]) (by decide) | exact ops_store_map rfl rfl rfl (by omega) rfl rfl (by kernel_rfl) | exact ops_store rfl rfl rfl rfl (by simp [RV.cellsL]) rfl (by kernel_rfl) | exact ops_storea rfl rfl rfl rfl rfl rfl (by kernel_rfl) | fail) | fail) (by simp only [nz, nf, nl, nb, reduceIte, Nat.reduceEqDiff, Nat.reduceAdd]; rfl) ?_ | (refine l_g ?_; first | refine l_y rfl rfl rfl ?_ | refine l_n rfl rfl rfl rfl (by simp only [nz, nf, nl, nb, reduceIte, Nat.reduceEqDiff, Nat.reduceAdd]; rfl) ?_ | refine l_n' rfl rfl rfl (by simp only [nz, nf, nl, nb, reduceIte, Nat.reduceEqDiff, Nat.reduceAdd]; rfl) ?_ | refine l_spnd rfl rfl rfl (by simp only [nz, nf, nl, nb, reduceIte, Nat.reduceEqDiff, Nat.reduceAdd]; rfl) (by simp only [nz, nf, nl, nb, reduceIte, Nat.reduceEqDiff, Nat.reduceAdd]; rfl) (fun hc => ?_) (fun hc => ?_) | refine l_spd rfl rfl rfl (by simp only [nz, nf, nl, nb, reduceIte, Nat.reduceEqDiff, Nat.reduceAdd]; rfl) (by simp only [nz, nf, nl, nb, reduceIte, Nat.reduceEqDiff, Nat.reduceAdd]; rfl) (fun hc => ?_) (fun hc => ?_) | refine l_spn rfl rfl rfl (by simp only [nz, nf, nl, nb, reduceIte, Nat.reduceEqDiff, Nat.reduceAdd]; rfl) (by simp only [nz, nf, nl, nb, reduceIte, Nat.reduceEqDiff, Nat.reduceAdd]; rfl) (fun hc => ?_) (fun hc => ?_) | refine l_sp rfl rfl rfl (by simp only [nz, nf, nl, nb, reduceIte, Nat.reduceEqDiff, Nat.reduceAdd]; rfl) (by simp only [nz, nf, nl, nb, reduceIte, Nat.reduceEqDiff, Nat.reduceAdd]; rfl) (fun hc => ?_) (fun hc => ?_)))
    | refine d_nil ?_
    | (refine d_o ?_; first | refine d_fl rfl (by first | exact .move | exact .moveY rfl rfl rfl | exact .assign | exact .assignY rfl rfl rfl | exact .pick_t rfl | exact .pick_f rfl | exact .pick_tY rfl rfl rfl rfl | exact .pick_fY rfl rfl rfl rfl | exact .pl (by first | (apply q_lss; first | exact fs_lss rfl rfl | exact fs_lts rfl rfl | fail) | (apply q_neq; first | exact fs_nei rfl rfl | exact fs_nes rfl rfl | exact fs_neb rfl rfl (by kernel_rfl) | fail) | (apply q_extract; first | exact fs_extract rfl rfl | fail) | (apply q_not; first | exact fs_not rfl | fail) | (apply q_pick; first | exact fs_pick_b rfl rfl rfl | exact fs_pick_i rfl rfl rfl | fail) | (apply q_load; first | exact fs_load_psh rfl rfl (by decide +kernel) | exact fs_load_psha rfl (by decide +kernel) (by kernel_rfl) (by simp) | exact fs_load_map rfl rfl rfl (by omega) rfl (by decide +kernel) | exact fs_load_mapa rfl rfl rfl (by omega) rfl (by decide +kernel) (by kernel_rfl) | exact fs_load_ptr rfl rfl rfl rfl rfl rfl (by decide +kernel) | exact fs_load_ptra rfl rfl rfl rfl rfl (by decide +kernel) (by kernel_rfl) | fail) | fail) | exact .ye rfl rfl rfl (by first | (apply q_lss; first | exact fs_lss rfl rfl | exact fs_lts rfl rfl | fail) | (apply q_neq; first | exact fs_nei rfl rfl | exact fs_nes rfl rfl | exact fs_neb rfl rfl (by kernel_rfl) | fail) | (apply q_extract; first | exact fs_extract rfl rfl | fail) | (apply q_not; first | exact fs_not rfl | fail) | (apply q_pick; first | exact fs_pick_b rfl rfl rfl | exact fs_pick_i rfl rfl rfl | fail) | (apply q_load; first | exact fs_load_psh rfl rfl (by decide +kernel) | exact fs_load_psha rfl (by decide +kernel) (by kernel_rfl) (by simp) | exact fs_load_map rfl rfl rfl (by omega) rfl (by decide +kernel) | exact fs_load_mapa rfl rfl rfl (by omega) rfl (by decide +kernel) (by kernel_rfl) | exact fs_load_ptr rfl rfl rfl rfl rfl rfl (by decide +kernel) | exact fs_load_ptra rfl rfl rfl rfl rfl (by decide +kernel) (by kernel_rfl) | fail) | fail) | exact .no rfl rfl rfl | exact .no' rfl rfl | fail) (by simp only [nz, nf, nl, nb, reduceIte, Nat.reduceEqDiff, Nat.reduceAdd]; rfl) (by first | (simp [nm]; done) | simp [nm, nz, nb]) ?_ | refine d_ef rfl (by first | exact .callv (d := 26) (by first | rfl | (simp only [nz, nf, vw, reduceIte, Nat.reduceEqDiff, ne_eq, not_false_eq_true]; rfl) | (simp [view1, viewC, olook, nv, nz, nf, *]; fail_if_success show _)) rfl (by kernel_rfl) (toLoop_ok L R b1 b2 b3 b4) (by simp [RV.resOkT, RV.resOk, RV.isAgg, nm]) (by simp [ns]) (by simp [nz, nm]) (by first | rfl | (simp [nz, nm]; fail_if_success show _)) (by simp [nz, nm]) | exact .callv (d := 29) (by first | rfl | (simp only [nz, nf, vw, reduceIte, Nat.reduceEqDiff, ne_eq, not_false_eq_true]; rfl) | (simp [view1, viewC, olook, nv, nz, nf, *]; fail_if_success show _)) rfl (by kernel_rfl) (hT) (by simp [RV.resOkT, RV.resOk, RV.isAgg, nm]) (by simp [ns]) (by simp [nz, nm]) (by first | rfl | (simp [nz, nm]; fail_if_success show _)) (by simp [nz, nm]) | exact .callz (d := 44) (by first | rfl | (simp only [nz, nf, vw, reduceIte, Nat.reduceEqDiff, ne_eq, not_false_eq_true]; rfl) | (simp [view1, viewC, olook, nv, nz, nf, *]; fail_if_success show _)) rfl (by kernel_rfl) (eqLoop_ok L R L R) (by simp [ns]) | exact .callz (by first | rfl | (simp only [nz, nf, vw, reduceIte, Nat.reduceEqDiff, ne_eq, not_false_eq_true]; rfl) | (simp [view1, viewC, olook, nv, nz, nf, *]; fail_if_success show _)) rfl (by kernel_rfl) (toLoop_ok L R b1 b2 b3 b4) (by simp [ns]) | exact .callz (by first | rfl | (simp only [nz, nf, vw, reduceIte, Nat.reduceEqDiff, ne_eq, not_false_eq_true]; rfl) | (simp [view1, viewC, olook, nv, nz, nf, *]; fail_if_success show _)) rfl (by kernel_rfl) (hS) (by simp [ns]) | exact .callz (by first | rfl | (simp only [nz, nf, vw, reduceIte, Nat.reduceEqDiff, ne_eq, not_false_eq_true]; rfl) | (simp [view1, viewC, olook, nv, nz, nf, *]; fail_if_success show _)) rfl (by kernel_rfl) (hT) (by simp [ns]) | exact .callz (by first | rfl | (simp only [nz, nf, vw, reduceIte, Nat.reduceEqDiff, ne_eq, not_false_eq_true]; rfl) | (simp [view1, viewC, olook, nv, nz, nf, *]; fail_if_success show _)) rfl (by kernel_rfl) (eqLoop_ok A B A B) (by simp [ns]) | exact .callvY (d := 26) rfl rfl rfl (by first | rfl | (simp only [nz, nf, vw, reduceIte, Nat.reduceEqDiff, ne_eq, not_false_eq_true]; rfl) | (simp [view1, viewC, olook, nv, nz, nf, *]; fail_if_success show _)) rfl (by kernel_rfl) (toLoop_ok L R b1 b2 b3 b4) (by simp [RV.resOkT, RV.resOk, RV.isAgg, nm]) (by simp [ns]) (by simp [nz, nm]) (by first | rfl | (simp [nz, nm]; fail_if_success show _)) (by simp [nz, nm]) | exact .callvY (d := 29) rfl rfl rfl (by first | rfl | (simp only [nz, nf, vw, reduceIte, Nat.reduceEqDiff, ne_eq, not_false_eq_true]; rfl) | (simp [view1, viewC, olook, nv, nz, nf, *]; fail_if_success show _)) rfl (by kernel_rfl) (hT) (by simp [RV.resOkT, RV.resOk, RV.isAgg, nm]) (by simp [ns]) (by simp [nz, nm]) (by first | rfl | (simp [nz, nm]; fail_if_success show _)) (by simp [nz, nm]) | exact .callzY (d := 44) rfl rfl rfl (by first | rfl | (simp only [nz, nf, vw, reduceIte, Nat.reduceEqDiff, ne_eq, not_false_eq_true]; rfl) | (simp [view1, viewC, olook, nv, nz, nf, *]; fail_if_success show _)) rfl (by kernel_rfl) (eqLoop_ok L R L R) (by simp [ns]) | exact .callzY rfl rfl rfl (by first | rfl | (simp only [nz, nf, vw, reduceIte, Nat.reduceEqDiff, ne_eq, not_false_eq_true]; rfl) | (simp [view1, viewC, olook, nv, nz, nf, *]; fail_if_success show _)) rfl (by kernel_rfl) (toLoop_ok L R b1 b2 b3 b4) (by simp [ns]) | exact .callzY rfl rfl rfl (by first | rfl | (simp only [nz, nf, vw, reduceIte, Nat.reduceEqDiff, ne_eq, not_false_eq_true]; rfl) | (simp [view1, viewC, olook, nv, nz, nf, *]; fail_if_success show _)) rfl (by kernel_rfl) (hS) (by simp [ns]) | exact .callzY rfl rfl rfl (by first | rfl | (simp only [nz, nf, vw, reduceIte, Nat.reduceEqDiff, ne_eq, not_false_eq_true]; rfl) | (simp [view1, viewC, olook, nv, nz, nf, *]; fail_if_success show _)) rfl (by kernel_rfl) (hT) (by simp [ns]) | exact .callzY rfl rfl rfl (by first | rfl | (simp only [nz, nf, vw, reduceIte, Nat.reduceEqDiff, ne_eq, not_false_eq_true]; rfl) | (simp [view1, viewC, olook, nv, nz, nf, *]; fail_if_success show _)) rfl (by kernel_rfl) (eqLoop_ok A B A B) (by simp [ns]) | exact .no rfl rfl rfl | exact .no' rfl rfl | exact .store rfl rfl rfl rfl (by simp [RV.cellsL]) rfl (by kernel_rfl) | exact .storea rfl rfl rfl rfl rfl rfl (by kernel_rfl) | fail) (by simp only [nz, nf, nl, nb, reduceIte, Nat.reduceEqDiff, Nat.reduceAdd]; rfl) (by simp only [nz, nf, nl, reduceIte, Nat.reduceEqDiff] <;> rfl) (by first | (simp [nm]; done) | simp [nm, nz, nb]) (by first | exact fun _ _ => rfl | exact ro_of (by simp [olook])) ?_ | (refine d_g ?_; first | refine d_spnd rfl rfl rfl (by simp only [nz, nf, nl, nb, reduceIte, Nat.reduceEqDiff, Nat.reduceAdd]; rfl) (by simp only [nz, nf, nl, nb, reduceIte, Nat.reduceEqDiff, Nat.reduceAdd]; rfl) (fun hc => ?_) (fun hc => ?_) | refine d_spd rfl rfl rfl (by simp only [nz, nf, nl, nb, reduceIte, Nat.reduceEqDiff, Nat.reduceAdd]; rfl) (by simp only [nz, nf, nl, nb, reduceIte, Nat.reduceEqDiff, Nat.reduceAdd]; rfl) (fun hc => ?_) (fun hc => ?_) | refine d_spn rfl rfl rfl (by simp only [nz, nf, nl, nb, reduceIte, Nat.reduceEqDiff, Nat.reduceAdd]; rfl) (by simp only [nz, nf, nl, nb, reduceIte, Nat.reduceEqDiff, Nat.reduceAdd]; rfl) (fun hc => ?_) (fun hc => ?_) | refine d_sp rfl rfl rfl (by simp only [nz, nf, nl, nb, reduceIte, Nat.reduceEqDiff, Nat.reduceAdd]; rfl) (by simp only [nz, nf, nl, nb, reduceIte, Nat.reduceEqDiff, Nat.reduceAdd]; rfl) (fun hc => ?_) (fun hc => ?_)))
    | (refine w_o ?_; first | refine w_draw (id := 10) (roL [1, 6, 1026, 2026]) (fun k => [2, 3].contains k) [[], []] 64 (by kernel_rfl) (by kernel_rfl) (by simp [nm]) ?_)
  all_goals first
    | exact absurd rfl hc
    | (exfalso; omega)
    | (refine en_one (by first | exact .inl rfl | exact .inr rfl) Try.results4 rfl rfl ?_; simp only [lget]; first | refine congrArg RVb ?_ | refine congrArg RVi ?_ | skip; done)
    | trace_state
end Go.Proofs.Ytndbplemeakmnaa
