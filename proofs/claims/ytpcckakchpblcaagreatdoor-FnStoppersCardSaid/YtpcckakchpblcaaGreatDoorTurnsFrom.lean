/- The program's going in depth through a loop's states. For all loops whose moves lead to places. -/
import Derived.Test.YtpcckakchpblcaaGreatDoorArena
import Derived.Test.YtpcckakchpblcaaGreatDoorFrz
import Derived.Test.YtpcckakchpblcaaGreatDoorStop
namespace Go.Proofs.YtpcckakchpblcaaGreatDoor
open Eng
attribute [local irreducible] OpS OpG FC FCr Rel Fl Ef DR Fs
set_option linter.unusedSimpArgs false
set_option maxHeartbeats 0
set_option maxRecDepth 100000

def q0 (n : Nat) : DS := (List.replicate n 0, List.replicate n 0)
theorem frzL_RVn (B : Bk) (l : List Nat) : RV.frzL B (l.map RVn) = l.map RVn := by
  induction l with
  | nil => simp [RV.frzL]
  | cons x xs ih => simp only [List.map_cons, RV.frzL, ih]; rfl
theorem getD_rep (n b : Nat) : (List.replicate n 0).getD b 0 = 0 := by
  rw [List.getD_eq_getElem?_getD, List.getElem?_replicate]
  split <;> rfl
theorem q0_bd (n : Nat) : DBd (q0 n) := fun b => by
  have h1 : (q0 n).2.getD b 0 = 0 := getD_rep n b
  have h2 : (q0 n).1.getD b 0 = 0 := getD_rep n b
  rw [h1, h2]
  exact ⟨Nat.zero_le _, fun h => by omega⟩
theorem turnsFrom_ok (L R : List (List Nat)) (hi : Inside L R) (hL : L.length ≤ 1048576) (hl : ∀ l ∈ L, l.length ≤ 1048576) (hr : ∀ l ∈ R, l.length ≤ 1048576) (r : Bool × DS) (hres : allD (nxtOf L R) (2 * L.length) (List.range (2 * L.length)) (q0 (2 * L.length)) = r) :
    FCr Tryz.prog 35 [.agg [RNss L, RNss R]] (.tup [if r.1 then ONs r.2.2 else .v (.slice none 0 0), RVb r.1]) := by
  refine (fcr_in Tryz.func35 rfl (by simp only [Tryz.ntmps35, anys, List.length_cons, List.length_nil, Nat.reduceAdd, Nat.reduceSub, List.replicate_succ, List.replicate_zero, List.cons_append, List.nil_append] <;> rfl) ?_)
  repeat' first
    | refine w_seq ?_
    | refine w_block ?_
    | refine rb_n ?_
    | refine rb_ret ?_
    | refine rb_eq ?_
    | refine rb_ne (by rfl) ?_
    | refine w_exit ?_
    | refine rt_exit ?_
    | refine w_region ?_
    | refine l_nil ?_
    | refine rt_n ?_
    | refine w_ret ?_
    | refine rt_ret ?_
    | refine w_skip ?_
    | refine w_cond_t rfl ?_
    | refine w_cond_f rfl ?_
    | refine w_cnd rfl (fun hc => ?_) (fun hc => ?_)
    | refine w_cd rfl (fun hc => ?_) (fun hc => ?_)
    | refine w_cn rfl (fun hc => ?_) (fun hc => ?_)
    | refine w_cond rfl (fun hc => ?_) (fun hc => ?_)
    | (refine l_o ?_; first | refine l_eqnil rfl (by kernel_rfl) (by intro b; simp only [nz]; rfl) (fun b hb => ?_) | refine l_op (hk := ?_) | (refine l_g ?_; first | refine l_y rfl rfl rfl ?_ | refine l_n rfl rfl rfl rfl (hk := ?_) | refine l_n' rfl rfl rfl (hk := ?_) | refine l_spnd rfl rfl rfl (h1 := fun hc => ?_) (h2 := fun hc => ?_) | refine l_spd rfl rfl rfl (h1 := fun hc => ?_) (h2 := fun hc => ?_) | refine l_spn rfl rfl rfl (h1 := fun hc => ?_) (h2 := fun hc => ?_) | refine l_sp rfl rfl rfl (h1 := fun hc => ?_) (h2 := fun hc => ?_)))
  refine w_loopm (ι := Nat) (fun k => [(20, RVn k), (16, .any)]) (fun k => [(4, 1, [.ref 16 0 (nxtTo L R k).length]), (16, 1, (nxtTo L R k).map ONs), (1, 2, [.agg [RNss L, RNss R]])]) (fun k => k ≤ L.length) (fun k => L.length - k) 0 (h0 := ?_) (hs := ?_) (round := ?_)
  · omega
  · refine le_eq (by (repeat' first | exact .nil | refine .keep ?_ | refine .any ?_); first | done | fail) rfl rfl
  · intro k hk
    have hnl := nxtTo_len L R k
    by_cases hkl : k < L.length
    · have hkr : k < R.length := by have := hi.1; omega
      have hlk := hl _ (List.getElem_mem hkl)
      have hrk := hr _ (List.getElem_mem hkr)
      repeat' first
        | refine w_seq ?_
        | refine w_block ?_
        | refine rb_n ?_
        | refine rb_ret ?_
        | refine rb_eq ?_
        | refine rb_ne (by rfl) ?_
        | refine w_exit ?_
        | refine rt_exit ?_
        | refine w_region ?_
        | refine l_nil ?_
        | refine rt_n ?_
        | refine w_ret ?_
        | refine rt_ret ?_
        | refine w_skip ?_
        | refine w_cond_t rfl ?_
        | refine w_cond_f rfl ?_
        | refine w_cnd rfl (fun hc => ?_) (fun hc => ?_)
        | refine w_cd rfl (fun hc => ?_) (fun hc => ?_)
        | refine w_cn rfl (fun hc => ?_) (fun hc => ?_)
        | refine w_cond rfl (fun hc => ?_) (fun hc => ?_)
        | (exfalso; omega)
        | (refine l_o ?_; first | refine l_eqnil rfl (by kernel_rfl) (by intro b; simp only [nz]; rfl) (fun b hb => ?_) | refine l_op (hk := ?_) | (refine l_g ?_; first | refine l_y rfl rfl rfl ?_ | refine l_n rfl rfl rfl rfl (hk := ?_) | refine l_n' rfl rfl rfl (hk := ?_) | refine l_spnd rfl rfl rfl (h1 := fun hc => ?_) (h2 := fun hc => ?_) | refine l_spd rfl rfl rfl (h1 := fun hc => ?_) (h2 := fun hc => ?_) | refine l_spn rfl rfl rfl (h1 := fun hc => ?_) (h2 := fun hc => ?_) | refine l_sp rfl rfl rfl (h1 := fun hc => ?_) (h2 := fun hc => ?_)))
      refine w_loopm (ι := Nat × List Nat) (fun j => [(31, RVn j.1), (6, .ref 23 0 j.2.length), (23, .any)]) (fun j => [(24, 1, []), (23, 1, j.2.map RVn), (4, 1, [.ref 16 0 (nxtTo L R k).length]), (16, 1, (nxtTo L R k).map ONs), (1, 2, [.agg [RNss L, RNss R]])]) (fun j => j.1 ≤ L[k].length ∧ j.2 = (L[k].take j.1).map (fun x => 2 * x + 1)) (fun j => L[k].length - j.1) (0, []) (h0 := ?_) (hs := ?_) (round := ?_)
      · simp
      · refine le_eq (by (repeat' first | exact .nil | refine .keep ?_ | refine .any ?_); first | done | fail) rfl rfl
      · intro ⟨j, m⟩ ⟨hj, hm⟩
        dsimp only at hj hm ⊢
        have hml : m.length = j := by rw [hm]; simp; omega
        have hb : ∀ h : j < L[k].length, L[k][j] < L.length := fun h => hi.2.1 _ (List.getElem_mem hkl) _ (List.getElem_mem h)
        repeat' first
          | refine w_seq ?_
          | refine w_block ?_
          | refine rb_n ?_
          | refine rb_ret ?_
          | refine rb_eq ?_
          | refine rb_ne (by rfl) ?_
          | refine w_exit ?_
          | refine rt_exit ?_
          | refine w_region ?_
          | refine l_nil ?_
          | refine rt_n ?_
          | refine w_ret ?_
          | refine rt_ret ?_
          | refine w_skip ?_
          | refine w_cond_t rfl ?_
          | refine w_cond_f rfl ?_
          | refine w_cnd rfl (fun hc => ?_) (fun hc => ?_)
          | refine w_cd rfl (fun hc => ?_) (fun hc => ?_)
          | refine w_cn rfl (fun hc => ?_) (fun hc => ?_)
          | refine w_cond rfl (fun hc => ?_) (fun hc => ?_)
          | (refine l_o ?_; first | refine l_eqnil rfl (by kernel_rfl) (by intro b; simp only [nz]; rfl) (fun b hb => ?_) | refine l_op rfl (by first | (apply k_mul; first | exact ops_muln (a := 2) rfl rfl (by have := hb (by omega); omega) | fail) | (apply k_add; first | exact ops_addn (b := 1) rfl rfl (by have := hb (by omega); omega) | fail) | fail) (hk := ?_) | refine l_op (hk := ?_) | (refine l_g ?_; first | refine l_y rfl rfl rfl ?_ | refine l_n rfl rfl rfl rfl (hk := ?_) | refine l_n' rfl rfl rfl (hk := ?_) | refine l_spnd rfl rfl rfl (h1 := fun hc => ?_) (h2 := fun hc => ?_) | refine l_spd rfl rfl rfl (h1 := fun hc => ?_) (h2 := fun hc => ?_) | refine l_spn rfl rfl rfl (h1 := fun hc => ?_) (h2 := fun hc => ?_) | refine l_sp rfl rfl rfl (h1 := fun hc => ?_) (h2 := fun hc => ?_)))
        · refine rn_mk (j + 1, m ++ [2 * L[k][j] + 1]) ?_ (by first | omega | (dsimp only; omega)) (le_eq (by (repeat' first | exact .nil | refine .keep ?_ | refine .any ?_); first | done | fail) rfl rfl)
          exact ⟨by omega, by subst hm; rw [List.take_succ_eq_append_getElem (by omega), List.map_append]; rfl⟩
        · obtain rfl : j = L[k].length := by omega
          rw [List.take_length] at hm
          clear hc hj hb
          refine w_loopm (ι := Nat × List Nat) (fun j => [(48, RVn j.1), (7, .ref 24 0 j.2.length), (24, .any)]) (fun j => [(24, 1, j.2.map RVn), (23, 1, m.map RVn), (4, 1, [.ref 16 0 (nxtTo L R k).length]), (16, 1, (nxtTo L R k).map ONs), (1, 2, [.agg [RNss L, RNss R]])]) (fun j => j.1 ≤ R[k].length ∧ j.2 = (R[k].take j.1).map (fun x => 2 * x)) (fun j => R[k].length - j.1) (0, []) (h0 := ?_) (hs := ?_) (round := ?_)
          · simp
          · refine le_eq (by (repeat' first | exact .nil | refine .keep ?_ | refine .any ?_); first | done | fail) rfl rfl
          · intro ⟨j, q⟩ ⟨hj, hq⟩
            dsimp only at hj hq ⊢
            have hql : q.length = j := by rw [hq]; simp; omega
            have hb : ∀ h : j < R[k].length, R[k][j] < L.length := fun h => hi.2.2 _ (List.getElem_mem hkr) _ (List.getElem_mem h)
            repeat' first
              | refine w_seq ?_
              | refine w_block ?_
              | refine rb_n ?_
              | refine rb_ret ?_
              | refine rb_eq ?_
              | refine rb_ne (by rfl) ?_
              | refine w_exit ?_
              | refine rt_exit ?_
              | refine w_region ?_
              | refine l_nil ?_
              | refine rt_n ?_
              | refine w_ret ?_
              | refine rt_ret ?_
              | refine w_skip ?_
              | refine w_cond_t rfl ?_
              | refine w_cond_f rfl ?_
              | refine w_cnd rfl (fun hc => ?_) (fun hc => ?_)
              | refine w_cd rfl (fun hc => ?_) (fun hc => ?_)
              | refine w_cn rfl (fun hc => ?_) (fun hc => ?_)
              | refine w_cond rfl (fun hc => ?_) (fun hc => ?_)
              | (refine l_at_append ?_; refine l_le _ (le_trans (le_seal 61 0 0 23 rfl rfl rfl rfl (by simp) (by simp [nm]) (by decide) (by simp only [nz, nf, nl, nb, nr, ng, nq, nu, reduceIte, Nat.reduceEqDiff, Nat.reduceAdd]; rfl) (by simp only [nz, nf, nl, nb, nr, ng, nq, nu, reduceIte, Nat.reduceEqDiff, Nat.reduceAdd]; rfl)) (le_trans (le_seal 61 1 0 24 rfl rfl rfl rfl (by simp) (by simp [nm]) (by decide) (by simp only [nz, nf, nl, nb, nr, ng, nq, nu, reduceIte, Nat.reduceEqDiff, Nat.reduceAdd]; rfl) (by simp only [nz, nf, nl, nb, nr, ng, nq, nu, reduceIte, Nat.reduceEqDiff, Nat.reduceAdd]; rfl)) (le_fg 4 rfl (.ref .nil) (by simp only [nz, nf, nl, nb, nr, ng, nq, nu, reduceIte, Nat.reduceEqDiff, Nat.reduceAdd]; rfl)))) ?_)
              | (refine l_o ?_; first | refine l_eqnil rfl (by kernel_rfl) (by intro b; simp only [nz]; rfl) (fun b hb => ?_) | refine l_op rfl (by first | (apply k_mul; first | exact ops_muln (a := 2) rfl rfl (by have := hb (by omega); omega) | fail) | fail) (hk := ?_) | refine l_op (hk := ?_) | (refine l_g ?_; first | refine l_y rfl rfl rfl ?_ | refine l_n rfl rfl rfl rfl (hk := ?_) | refine l_n' rfl rfl rfl (hk := ?_) | refine l_spnd rfl rfl rfl (h1 := fun hc => ?_) (h2 := fun hc => ?_) | refine l_spd rfl rfl rfl (h1 := fun hc => ?_) (h2 := fun hc => ?_) | refine l_spn rfl rfl rfl (h1 := fun hc => ?_) (h2 := fun hc => ?_) | refine l_sp rfl rfl rfl (h1 := fun hc => ?_) (h2 := fun hc => ?_)))
            · refine rn_mk (j + 1, q ++ [2 * R[k][j]]) ?_ (by first | omega | (dsimp only; omega)) (le_eq (by (repeat' first | exact .nil | refine .keep ?_ | refine .any ?_); first | done | fail) rfl rfl)
              exact ⟨by omega, by subst hq; rw [List.take_succ_eq_append_getElem (by omega), List.map_append]; rfl⟩
            · obtain rfl : j = R[k].length := by omega
              rw [List.take_length] at hq
              refine rn_mk (k + 1) (by omega) (by omega) ?_
              rw [nxtTo_succ, gd hkl, gd hkr, ← hm, ← hq]
              simp only [List.map_append, List.map_cons, List.map_nil, List.length_append, List.length_map, List.length_cons, List.length_nil]
              refine le_eq (by (repeat' first | exact .nil | refine .keep ?_ | refine .any ?_); first | done | fail) rfl rfl
    · obtain rfl : k = L.length := by omega
      have hnn : nxtTo L R L.length = nxtOf L R := rfl
      have hal := nxtOf_alt hi
      rw [hnn] at hnl ⊢
      have hsm : ∀ a, ((nxtOf L R).getD a []).length ≤ 1099511627776 := by
        intro a
        by_cases ha : a < 2 * L.length
        · have h1 := nxtTo_at L R L.length a ha
          rw [hnn] at h1
          have h2 : a / 2 < L.length := by omega
          have h3 : a / 2 < R.length := by have := hi.1; omega
          rw [h1, gd h2, gd h3]
          split
          · have := hl _ (List.getElem_mem h2); simp; omega
          · have := hr _ (List.getElem_mem h3); simp; omega
        · rw [List.getD_eq_getElem?_getD, List.getElem?_eq_none (by omega)]; simp
      have hin : In (nxtOf L R) (2 * L.length) := fun a k hk => (hal a k hk).1
      generalize nxtOf L R = nx at *
      generalize hn : 2 * L.length = n at *
      have hn2 : n ≤ 1000000000000 := by omega
      repeat' first
        | refine w_seq ?_
        | refine w_block ?_
        | refine rb_n ?_
        | refine rb_ret ?_
        | refine rb_eq ?_
        | refine rb_ne (by rfl) ?_
        | refine w_exit ?_
        | refine rt_exit ?_
        | refine w_region ?_
        | refine l_nil ?_
        | refine rt_n ?_
        | refine w_ret ?_
        | refine rt_ret ?_
        | refine w_skip ?_
        | refine w_cond_t rfl ?_
        | refine w_cond_f rfl ?_
        | refine w_cnd rfl (fun hc => ?_) (fun hc => ?_)
        | refine w_cd rfl (fun hc => ?_) (fun hc => ?_)
        | refine w_cn rfl (fun hc => ?_) (fun hc => ?_)
        | refine w_cond rfl (fun hc => ?_) (fun hc => ?_)
        | (exfalso; omega)
        | (refine l_o ?_; first | refine l_eqnil rfl (by kernel_rfl) (by intro b; simp only [nz]; rfl) (fun b hb => ?_) | refine l_op rfl (by first | (apply k_makeFunc; first | exact ops_makeFunc rfl rfl | fail) | fail) (hk := ?_) | refine l_op (hk := ?_) | (refine l_g ?_; first | refine l_y rfl rfl rfl ?_ | refine l_n rfl rfl rfl rfl (hk := ?_) | refine l_n' rfl rfl rfl (hk := ?_) | refine l_spnd rfl rfl rfl (h1 := fun hc => ?_) (h2 := fun hc => ?_) | refine l_spd rfl rfl rfl (h1 := fun hc => ?_) (h2 := fun hc => ?_) | refine l_spn rfl rfl rfl (h1 := fun hc => ?_) (h2 := fun hc => ?_) | refine l_sp rfl rfl rfl (h1 := fun hc => ?_) (h2 := fun hc => ?_)))
      have er : (List.replicate n (0 : Int)).map RVi = (List.replicate n (0 : Nat)).map RVn := by rw [List.map_replicate, List.map_replicate]; rfl
      have hfz : RV.fzL (List.take n (nx.map ONs)) = nx.map RNs := by rw [List.take_of_length_le (by simp; omega)]; exact fz_ONss nx
      simp only [hnl, er]
      refine w_le _ (le_trans (le_freezeO 16 rfl (by simp only [nz, nf, nl, nb, nr, ng, nq, nu, reduceIte, Nat.reduceEqDiff, Nat.reduceAdd, viewC, RV.frzL, RV.frz, frzO, oerase, olook, List.drop_zero, hfz, frzL_RVn, hnl, Nat.le_refl, if_true]; rfl) (by simp only [nz, nf, nl, nb, nr, ng, nq, nu, reduceIte, Nat.reduceEqDiff, Nat.reduceAdd, viewC, RV.frzL, RV.frz, frzO, oerase, olook, List.drop_zero, hfz, frzL_RVn, hnl, Nat.le_refl, if_true]; rfl)) (le_perm [13, 4, 14, 12, 69, 66] rfl rfl)) ?_
      refine w_loopm (ι := Nat × DS) (fun q => [(73, RVn q.1)]) (fun q => [(13, 1, [.ref 69 0 n]), (4, 1, [RNss nx]), (14, 1, [.fn (.func 61) [.ptr 13 0 0, .ptr 4 0 0, .ptr 14 0 0, .ptr 12 0 0]]), (12, 1, [.ref 66 0 n]), (69, 1, q.2.1.map RVn), (66, 1, q.2.2.map RVn), (1, 2, [.agg [RNss L, RNss R]])]) (fun q => q.1 ≤ n ∧ allD nx n ((List.range n).drop q.1) q.2 = r ∧ Wk n (q0 n) q.2) (fun q => n - q.1) (0, q0 n) (h0 := ?_) (hs := ?_) (round := ?_)
      · exact ⟨Nat.zero_le _, by dsimp only; rw [List.drop_zero]; exact hres, .refl (by simp [q0]) (by simp [q0]) (q0_bd n)⟩
      · refine le_eq (by (repeat' first | exact .nil | refine .keep ?_ | refine .any ?_); first | done | fail) rfl rfl
      · intro ⟨k, ph, tn⟩ ⟨hk, hg, hw⟩
        dsimp only at hk hg ⊢
        have i1 : ph.length = n := hw.l1
        have i2 : tn.length = n := hw.l2
        by_cases hkn : k < n
        · have hkp : k < ph.length := by omega
          have u1 : ph.getD k 0 = ph[k] := gd hkp
          have j2 : wz (ph, tn) ≤ n := by rw [← i1]; exact List.countP_le_length
          have j4 : ∀ x, ph.getD x 0 ≤ 2 := fun x => hw.two x (by rw [show (q0 n).1.getD x 0 = 0 from getD_rep n x]; omega)
          rw [List.drop_eq_getElem_cons (by simpa using hkn), List.getElem_range, allD] at hg
          dsimp only at hg
          rw [u1] at hg
          by_cases c0 : ph[k] = 0
          · have hv := visit_ok nx n hnl hn2 hin hsm n (ph, tn) k hkn (u1.trans c0) j2 i1 i2 hw.bd j4
            have hvw := visD_wk hin n (ph, tn) k hkn (u1.trans c0) j2 i1 i2 hw.bd j4
            rw [if_pos c0] at hg
            simp only [VB] at hv
            generalize visD nx n (ph, tn) k = v at *
            by_cases cv : v.1 = true
            · rw [if_pos cv] at hg
              rw [cv] at hv
              repeat' first
                | refine w_seq ?_
                | refine w_block ?_
                | refine rb_n ?_
                | refine rb_ret ?_
                | refine rb_eq ?_
                | refine rb_ne (by rfl) ?_
                | refine w_exit ?_
                | refine rt_exit ?_
                | refine w_region ?_
                | refine l_nil ?_
                | refine rt_n ?_
                | refine w_ret ?_
                | refine rt_ret ?_
                | refine w_skip ?_
                | refine w_cond_t rfl ?_
                | refine w_cond_f rfl ?_
                | refine w_cnd rfl (fun hc => ?_) (fun hc => ?_)
                | refine w_cd rfl (fun hc => ?_) (fun hc => ?_)
                | refine w_cn rfl (fun hc => ?_) (fun hc => ?_)
                | refine w_cond rfl (fun hc => ?_) (fun hc => ?_)
                | (exfalso; omega)
                | (refine l_o ?_; first | refine l_eqnil rfl (by kernel_rfl) (by intro b; simp only [nz]; rfl) (fun b hb => ?_) | refine l_op rfl (by first | (apply k_callt; first | exact ops_callF [13, 4, 14, 12, 69, 66] [] ([(1000000000000, 1, [.ref 1000000000004 0 n]), (1000000000001, 1, [RNss nx]), (1000000000002, 1, [.fn (.func 61) [.ptr 1000000000000 0 0, .ptr 1000000000001 0 0, .ptr 1000000000002 0 0, .ptr 1000000000003 0 0]]), (1000000000003, 1, [.ref 1000000000005 0 n]), (1000000000004, 1, v.2.1.map RVn), (1000000000005, 1, v.2.2.map RVn)]) (hfc := hv) | fail) | fail) (hk := ?_) | refine l_op (hk := ?_) | (refine l_g ?_; first | refine l_y rfl rfl rfl ?_ | refine l_n rfl rfl rfl rfl (hk := ?_) | refine l_n' rfl rfl rfl (hk := ?_) | refine l_spnd rfl rfl rfl (h1 := fun hc => ?_) (h2 := fun hc => ?_) | refine l_spd rfl rfl rfl (h1 := fun hc => ?_) (h2 := fun hc => ?_) | refine l_spn rfl rfl rfl (h1 := fun hc => ?_) (h2 := fun hc => ?_) | refine l_sp rfl rfl rfl (h1 := fun hc => ?_) (h2 := fun hc => ?_)))
              refine rn_mk (k + 1, v.2) ?_ (by first | omega | (dsimp only; omega)) (le_eq (by (repeat' first | exact .nil | refine .keep ?_ | refine .any ?_); first | done | fail) rfl rfl)
              exact ⟨by dsimp only; omega, hg, hw.trans hvw.1⟩
            · rw [if_neg cv] at hg
              have cv2 : v.1 = false := by simpa using cv
              rw [cv2] at hv
              subst hg
              repeat' first
                | refine w_seq ?_
                | refine w_block ?_
                | refine rb_n ?_
                | refine rb_ret ?_
                | refine rb_eq ?_
                | refine rb_ne (by rfl) ?_
                | refine w_exit ?_
                | refine rt_exit ?_
                | refine w_region ?_
                | refine l_nil ?_
                | refine rt_n ?_
                | refine w_ret ?_
                | refine rt_ret ?_
                | refine w_skip ?_
                | refine w_cond_t rfl ?_
                | refine w_cond_f rfl ?_
                | refine w_cnd rfl (fun hc => ?_) (fun hc => ?_)
                | refine w_cd rfl (fun hc => ?_) (fun hc => ?_)
                | refine w_cn rfl (fun hc => ?_) (fun hc => ?_)
                | refine w_cond rfl (fun hc => ?_) (fun hc => ?_)
                | (exfalso; omega)
                | (refine l_o ?_; first | refine l_eqnil rfl (by kernel_rfl) (by intro b; simp only [nz]; rfl) (fun b hb => ?_) | refine l_op rfl (by first | (apply k_callt; first | exact ops_callF [13, 4, 14, 12, 69, 66] [] ([(1000000000000, 1, [.ref 1000000000004 0 n]), (1000000000001, 1, [RNss nx]), (1000000000002, 1, [.fn (.func 61) [.ptr 1000000000000 0 0, .ptr 1000000000001 0 0, .ptr 1000000000002 0 0, .ptr 1000000000003 0 0]]), (1000000000003, 1, [.ref 1000000000005 0 n]), (1000000000004, 1, v.2.1.map RVn), (1000000000005, 1, v.2.2.map RVn)]) (hfc := hv) | fail) | fail) (hk := ?_) | refine l_op (hk := ?_) | (refine l_g ?_; first | refine l_y rfl rfl rfl ?_ | refine l_n rfl rfl rfl rfl (hk := ?_) | refine l_n' rfl rfl rfl (hk := ?_) | refine l_spnd rfl rfl rfl (h1 := fun hc => ?_) (h2 := fun hc => ?_) | refine l_spd rfl rfl rfl (h1 := fun hc => ?_) (h2 := fun hc => ?_) | refine l_spn rfl rfl rfl (h1 := fun hc => ?_) (h2 := fun hc => ?_) | refine l_sp rfl rfl rfl (h1 := fun hc => ?_) (h2 := fun hc => ?_)))
              refine en_end (hf := Tryz.results35) (hr := ?_); simp only [ne, nf, nl, nr, lget, reduceIte, Nat.reduceEqDiff]; first | rfl | refine congrArg RVb ?_ | refine congrArg RVi ?_ | skip
          · rw [if_neg c0] at hg
            repeat' first
              | refine w_seq ?_
              | refine w_block ?_
              | refine rb_n ?_
              | refine rb_ret ?_
              | refine rb_eq ?_
              | refine rb_ne (by rfl) ?_
              | refine w_exit ?_
              | refine rt_exit ?_
              | refine w_region ?_
              | refine l_nil ?_
              | refine rt_n ?_
              | refine w_ret ?_
              | refine rt_ret ?_
              | refine w_skip ?_
              | refine w_cond_t rfl ?_
              | refine w_cond_f rfl ?_
              | refine w_cnd rfl (fun hc => ?_) (fun hc => ?_)
              | refine w_cd rfl (fun hc => ?_) (fun hc => ?_)
              | refine w_cn rfl (fun hc => ?_) (fun hc => ?_)
              | refine w_cond rfl (fun hc => ?_) (fun hc => ?_)
              | (exfalso; omega)
              | (refine l_o ?_; first | refine l_eqnil rfl (by kernel_rfl) (by intro b; simp only [nz]; rfl) (fun b hb => ?_) | refine l_op (hk := ?_) | (refine l_g ?_; first | refine l_y rfl rfl rfl ?_ | refine l_n rfl rfl rfl rfl (hk := ?_) | refine l_n' rfl rfl rfl (hk := ?_) | refine l_spnd rfl rfl rfl (h1 := fun hc => ?_) (h2 := fun hc => ?_) | refine l_spd rfl rfl rfl (h1 := fun hc => ?_) (h2 := fun hc => ?_) | refine l_spn rfl rfl rfl (h1 := fun hc => ?_) (h2 := fun hc => ?_) | refine l_sp rfl rfl rfl (h1 := fun hc => ?_) (h2 := fun hc => ?_)))
            refine rn_mk (k + 1, (ph, tn)) ?_ (by first | omega | (dsimp only; omega)) (le_eq (by (repeat' first | exact .nil | refine .keep ?_ | refine .any ?_); first | done | fail) rfl rfl)
            exact ⟨by dsimp only; omega, hg, hw⟩
        · rw [List.drop_eq_nil_of_le (by simp; omega), allD] at hg
          subst hg
          repeat' first
            | refine w_seq ?_
            | refine w_block ?_
            | refine rb_n ?_
            | refine rb_ret ?_
            | refine rb_eq ?_
            | refine rb_ne (by rfl) ?_
            | refine w_exit ?_
            | refine rt_exit ?_
            | refine w_region ?_
            | refine l_nil ?_
            | refine rt_n ?_
            | refine w_ret ?_
            | refine rt_ret ?_
            | refine w_skip ?_
            | refine w_cond_t rfl ?_
            | refine w_cond_f rfl ?_
            | refine w_cnd rfl (fun hc => ?_) (fun hc => ?_)
            | refine w_cd rfl (fun hc => ?_) (fun hc => ?_)
            | refine w_cn rfl (fun hc => ?_) (fun hc => ?_)
            | refine w_cond rfl (fun hc => ?_) (fun hc => ?_)
            | (exfalso; omega)
            | (refine l_o ?_; first | refine l_eqnil rfl (by kernel_rfl) (by intro b; simp only [nz]; rfl) (fun b hb => ?_) | refine l_op (hk := ?_) | (refine l_g ?_; first | refine l_y rfl rfl rfl ?_ | refine l_n rfl rfl rfl rfl (hk := ?_) | refine l_n' rfl rfl rfl (hk := ?_) | refine l_spnd rfl rfl rfl (h1 := fun hc => ?_) (h2 := fun hc => ?_) | refine l_spd rfl rfl rfl (h1 := fun hc => ?_) (h2 := fun hc => ?_) | refine l_spn rfl rfl rfl (h1 := fun hc => ?_) (h2 := fun hc => ?_) | refine l_sp rfl rfl rfl (h1 := fun hc => ?_) (h2 := fun hc => ?_)))
          refine en_le _ (le_trans (le_drop 14 (by simp only [nz, nf, nl, nb, nr, ng, nq, nu, reduceIte, Nat.reduceEqDiff, Nat.reduceAdd]; rfl) (by simp only [nz, nf, nl, nb, nr, ng, nq, nu, reduceIte, Nat.reduceEqDiff, Nat.reduceAdd]; rfl)) (le_drop 12 (by simp only [nz, nf, nl, nb, nr, ng, nq, nu, reduceIte, Nat.reduceEqDiff, Nat.reduceAdd]; rfl) (by simp only [nz, nf, nl, nb, nr, ng, nq, nu, reduceIte, Nat.reduceEqDiff, Nat.reduceAdd]; rfl))) ?_
          refine en_end (hf := Tryz.results35) (hr := ?_); simp only [ne, nf, nl, nr, lget, reduceIte, Nat.reduceEqDiff]; first | rfl | refine congrArg RVb ?_ | refine congrArg RVi ?_ | skip
end Go.Proofs.YtpcckakchpblcaaGreatDoor
