/- The program's newArena lays a loop out for both players and solves it by rounds. For all loops whose moves lead to places. -/
import Derived.Test.YtpcckakchpblcaaGreatDoorArena
namespace Go.Proofs.YtpcckakchpblcaaGreatDoor
open Eng
attribute [local irreducible] OpS OpG FC FCr Rel Fl Ef DR Fs
set_option linter.unusedSimpArgs false
set_option maxHeartbeats 0
set_option maxRecDepth 100000

theorem newArena_ok (L R : List (List Nat)) (hi : Inside L R) (hL : L.length ≤ 1048576) (hl : ∀ l ∈ L, l.length ≤ 1048576) (hr : ∀ l ∈ R, l.length ≤ 1048576) :
    FCr Tryz.prog 65 [RNss L, RNss R] (.agg [ONss (nxtOf L R), .ow 2 ((fin (nxtOf L R) (2 * L.length)).map RR)]) := by
  refine (fcr_in Tryz.func65 rfl (by simp only [Tryz.ntmps65, anys, List.length_cons, List.length_nil, Nat.reduceAdd, Nat.reduceSub, List.replicate_succ, List.replicate_zero, List.cons_append, List.nil_append] <;> rfl) ?_)
  repeat' first
    | refine w_seq ?_
    | refine w_block ?_
    | refine rb_n ?_
    | refine rb_ret ?_
    | refine rb_eq ?_
    | refine rb_ne (by rfl) ?_
    | refine w_exit ?_
    | refine rt_exit ?_
    | refine w_region ?_
    | refine l_nil ?_
    | refine rt_n ?_
    | refine w_ret ?_
    | refine rt_ret ?_
    | refine w_skip ?_
    | refine w_cond_t rfl ?_
    | refine w_cond_f rfl ?_
    | refine w_cnd rfl (fun hc => ?_) (fun hc => ?_)
    | refine w_cd rfl (fun hc => ?_) (fun hc => ?_)
    | refine w_cn rfl (fun hc => ?_) (fun hc => ?_)
    | refine w_cond rfl (fun hc => ?_) (fun hc => ?_)
    | (refine l_o ?_; first | refine l_op rfl (by first | (apply k_mul; first | exact ops_muln (a := 2) rfl rfl (by omega) | fail) | (apply k_add; first | exact ops_addn (b := 1) rfl rfl (by omega) | fail) | fail) (hk := ?_) | refine l_op (hk := ?_))
  refine w_le _ (le_trans (le_nw 5 rfl (.agg (.now (k := 1) (by decide) (.keep .nil)) .nil) (by simp only [nz, nf, nl, nb, nr, ng, nq, nu, reduceIte, Nat.reduceEqDiff, Nat.reduceAdd]; rfl)) (le_open 5 0 0 900 rfl rfl rfl (by simp [nm]) (by simp only [nz, nf, nl, nb, nr, ng, nq, nu, reduceIte, Nat.reduceEqDiff, Nat.reduceAdd]; rfl))) ?_
  refine w_loopm (ι := Nat) (fun k => [(21, RVn k)]) (fun k => [(900, 1, (nxtTo L R k).map ONs), (5, 2, [.agg [.ref 900 0 (nxtTo L R k).length, .ref 17 0 (2 * L.length)]]), (17, 2, (List.replicate (2 * L.length) (0, 0)).map RR), (4, 2, [.agg [.v (.slice none 0 0), .v (.slice none 0 0)]])]) (fun k => k ≤ L.length) (fun k => L.length - k) 0 (h0 := ?_) (hs := ?_) (round := ?_)
  · omega
  · refine le_eq (by (repeat' first | exact .nil | refine .keep ?_ | refine .any ?_); first | done | fail) rfl rfl
  · intro k hk
    have hnl := nxtTo_len L R k
    by_cases hkl : k < L.length
    · have hkr : k < R.length := by have := hi.1; omega
      have hlk := hl _ (List.getElem_mem hkl)
      have hrk := hr _ (List.getElem_mem hkr)
      repeat' first
        | refine w_seq ?_
        | refine w_block ?_
        | refine rb_n ?_
        | refine rb_ret ?_
        | refine rb_eq ?_
        | refine rb_ne (by rfl) ?_
        | refine w_exit ?_
        | refine rt_exit ?_
        | refine w_region ?_
        | refine l_nil ?_
        | refine rt_n ?_
        | refine w_ret ?_
        | refine rt_ret ?_
        | refine w_skip ?_
        | refine w_cond_t rfl ?_
        | refine w_cond_f rfl ?_
        | refine w_cnd rfl (fun hc => ?_) (fun hc => ?_)
        | refine w_cd rfl (fun hc => ?_) (fun hc => ?_)
        | refine w_cn rfl (fun hc => ?_) (fun hc => ?_)
        | refine w_cond rfl (fun hc => ?_) (fun hc => ?_)
        | (refine l_o ?_; first | refine l_op (hk := ?_))
      · refine w_loopm (ι := Nat × List Nat) (fun j => [(31, RVn j.1), (7, .ref 24 0 j.2.length), (24, .any)]) (fun j => [(25, 1, []), (24, 1, j.2.map RVn), (900, 1, (nxtTo L R k).map ONs), (5, 2, [.agg [.ref 900 0 (nxtTo L R k).length, .ref 17 0 (2 * L.length)]]), (17, 2, (List.replicate (2 * L.length) (0, 0)).map RR), (4, 2, [.agg [.v (.slice none 0 0), .v (.slice none 0 0)]])]) (fun j => j.1 ≤ L[k].length ∧ j.2 = (L[k].take j.1).map (fun x => 2 * x + 1)) (fun j => L[k].length - j.1) (0, []) (h0 := ?_) (hs := ?_) (round := ?_)
        · simp
        · refine le_eq (by (repeat' first | exact .nil | refine .keep ?_ | refine .any ?_); first | done | fail) rfl rfl
        · intro ⟨j, m⟩ ⟨hj, hm⟩
          dsimp only at hj hm ⊢
          have hml : m.length = j := by rw [hm]; simp; omega
          have hb : ∀ h : j < L[k].length, L[k][j] < L.length := fun h => hi.2.1 _ (List.getElem_mem hkl) _ (List.getElem_mem h)
          repeat' first
            | refine w_seq ?_
            | refine w_block ?_
            | refine rb_n ?_
            | refine rb_ret ?_
            | refine rb_eq ?_
            | refine rb_ne (by rfl) ?_
            | refine w_exit ?_
            | refine rt_exit ?_
            | refine w_region ?_
            | refine l_nil ?_
            | refine rt_n ?_
            | refine w_ret ?_
            | refine rt_ret ?_
            | refine w_skip ?_
            | refine w_cond_t rfl ?_
            | refine w_cond_f rfl ?_
            | refine w_cnd rfl (fun hc => ?_) (fun hc => ?_)
            | refine w_cd rfl (fun hc => ?_) (fun hc => ?_)
            | refine w_cn rfl (fun hc => ?_) (fun hc => ?_)
            | refine w_cond rfl (fun hc => ?_) (fun hc => ?_)
            | (refine l_o ?_; first | refine l_op rfl (by first | (apply k_mul; first | exact ops_muln (a := 2) rfl rfl (by have := hb (by omega); omega) | fail) | (apply k_add; first | exact ops_addn (b := 1) rfl rfl (by have := hb (by omega); omega) | fail) | fail) (hk := ?_) | refine l_op (hk := ?_))
          · refine rn_mk (j + 1, m ++ [2 * L[k][j] + 1]) ?_ (by first | omega | (dsimp only; omega)) (le_eq (by (repeat' first | exact .nil | refine .keep ?_ | refine .any ?_); first | done | fail) rfl rfl)
            exact ⟨by omega, by subst hm; rw [List.take_succ_eq_append_getElem (by omega), List.map_append]; rfl⟩
          · obtain rfl : j = L[k].length := by omega
            rw [List.take_length] at hm
            clear hc hj hb
            refine w_loopm (ι := Nat × List Nat) (fun j => [(47, RVn j.1), (8, .ref 25 0 j.2.length), (25, .any)]) (fun j => [(25, 1, j.2.map RVn), (24, 1, m.map RVn), (900, 1, (nxtTo L R k).map ONs), (5, 2, [.agg [.ref 900 0 (nxtTo L R k).length, .ref 17 0 (2 * L.length)]]), (17, 2, (List.replicate (2 * L.length) (0, 0)).map RR), (4, 2, [.agg [.v (.slice none 0 0), .v (.slice none 0 0)]])]) (fun j => j.1 ≤ R[k].length ∧ j.2 = (R[k].take j.1).map (fun x => 2 * x)) (fun j => R[k].length - j.1) (0, []) (h0 := ?_) (hs := ?_) (round := ?_)
            · simp
            · refine le_eq (by (repeat' first | exact .nil | refine .keep ?_ | refine .any ?_); first | done | fail) rfl rfl
            · intro ⟨j, q⟩ ⟨hj, hq⟩
              dsimp only at hj hq ⊢
              have hql : q.length = j := by rw [hq]; simp; omega
              have hb : ∀ h : j < R[k].length, R[k][j] < L.length := fun h => hi.2.2 _ (List.getElem_mem hkr) _ (List.getElem_mem h)
              repeat' first
                | refine w_seq ?_
                | refine w_block ?_
                | refine rb_n ?_
                | refine rb_ret ?_
                | refine rb_eq ?_
                | refine rb_ne (by rfl) ?_
                | refine w_exit ?_
                | refine rt_exit ?_
                | refine w_region ?_
                | refine l_nil ?_
                | refine rt_n ?_
                | refine w_ret ?_
                | refine rt_ret ?_
                | refine w_skip ?_
                | refine w_cond_t rfl ?_
                | refine w_cond_f rfl ?_
                | refine w_cnd rfl (fun hc => ?_) (fun hc => ?_)
                | refine w_cd rfl (fun hc => ?_) (fun hc => ?_)
                | refine w_cn rfl (fun hc => ?_) (fun hc => ?_)
                | refine w_cond rfl (fun hc => ?_) (fun hc => ?_)
                | (refine l_at_append ?_; refine l_le _ (le_trans (le_seal 61 0 0 24 rfl rfl rfl rfl (by simp) (by simp [nm]) (by decide) (by simp only [nz, nf, nl, nb, nr, ng, nq, nu, reduceIte, Nat.reduceEqDiff, Nat.reduceAdd]; rfl) (by simp only [nz, nf, nl, nb, nr, ng, nq, nu, reduceIte, Nat.reduceEqDiff, Nat.reduceAdd]; rfl)) (le_trans (le_seal 61 1 0 25 rfl rfl rfl rfl (by simp) (by simp [nm]) (by decide) (by simp only [nz, nf, nl, nb, nr, ng, nq, nu, reduceIte, Nat.reduceEqDiff, Nat.reduceAdd]; rfl) (by simp only [nz, nf, nl, nb, nr, ng, nq, nu, reduceIte, Nat.reduceEqDiff, Nat.reduceAdd]; rfl)) (le_fg 5 rfl (.agg (.ref (.keep .nil)) .nil) (by simp only [nz, nf, nl, nb, nr, ng, nq, nu, reduceIte, Nat.reduceEqDiff, Nat.reduceAdd]; rfl)))) ?_)
                | (refine l_o ?_; first | refine l_op rfl (by first | (apply k_mul; first | exact ops_muln (a := 2) rfl rfl (by have := hb (by omega); omega) | fail) | fail) (hk := ?_) | refine l_op (hk := ?_))
              · refine rn_mk (j + 1, q ++ [2 * R[k][j]]) ?_ (by first | omega | (dsimp only; omega)) (le_eq (by (repeat' first | exact .nil | refine .keep ?_ | refine .any ?_); first | done | fail) rfl rfl)
                exact ⟨by omega, by subst hq; rw [List.take_succ_eq_append_getElem (by omega), List.map_append]; rfl⟩
              · obtain rfl : j = R[k].length := by omega
                rw [List.take_length] at hq
                refine rn_mk (k + 1) (by omega) (by omega) ?_
                rw [nxtTo_succ, gd hkl, gd hkr, ← hm, ← hq]
                simp only [List.map_append, List.map_cons, List.map_nil, List.length_append, List.length_map, List.length_cons, List.length_nil]
                refine le_eq (by (repeat' first | exact .nil | refine .keep ?_ | refine .any ?_); first | done | fail) rfl rfl
      · omega
    · repeat' first
        | refine w_seq ?_
        | refine w_block ?_
        | refine rb_n ?_
        | refine rb_ret ?_
        | refine rb_eq ?_
        | refine rb_ne (by rfl) ?_
        | refine w_exit ?_
        | refine rt_exit ?_
        | refine w_region ?_
        | refine l_nil ?_
        | refine rt_n ?_
        | refine w_ret ?_
        | refine rt_ret ?_
        | refine w_skip ?_
        | refine w_cond_t rfl ?_
        | refine w_cond_f rfl ?_
        | refine w_cnd rfl (fun hc => ?_) (fun hc => ?_)
        | refine w_cd rfl (fun hc => ?_) (fun hc => ?_)
        | refine w_cn rfl (fun hc => ?_) (fun hc => ?_)
        | refine w_cond rfl (fun hc => ?_) (fun hc => ?_)
        | (refine l_o ?_; first | refine l_op (hk := ?_))
      · omega
      obtain rfl : k = L.length := by omega
      have hnn : nxtTo L R L.length = nxtOf L R := rfl
      rw [hnn] at hnl ⊢
      have hal := nxtOf_alt hi
      have hsm : ∀ l ∈ nxtOf L R, l.length ≤ 1099511627776 := by
        intro l hml
        obtain ⟨i, hi1, rfl⟩ := List.getElem_of_mem hml
        have h1 := nxtTo_at L R L.length i (by omega)
        rw [hnn, gd hi1] at h1
        have h2 : i / 2 < L.length := by omega
        have h3 : i / 2 < R.length := by have := hi.1; omega
        rw [h1, gd h2, gd h3]
        split
        · have := hl _ (List.getElem_mem h2); simp; omega
        · have := hr _ (List.getElem_mem h3); simp; omega
      have hin : ∀ l ∈ nxtOf L R, ∀ k ∈ l, k < 2 * L.length := by
        intro l hml k hkm
        obtain ⟨i, hi1, rfl⟩ := List.getElem_of_mem hml
        exact (hal i k (by rw [gd hi1]; exact hkm)).1
      generalize nxtOf L R = nxt at *
      refine w_loopm (ι := Nat) (fun t => [(13, RVn t)]) (fun t => [(900, 1, nxt.map ONs), (5, 2, [.agg [.ref 900 0 nxt.length, .ref 17 0 (2 * L.length)]]), (17, 2, (rounds nxt (2 * L.length) t).map RR), (4, 2, [.agg [.v (.slice none 0 0), .v (.slice none 0 0)]])]) (fun t => t + zeros (rounds nxt (2 * L.length) t) ≤ 2 * L.length) (fun t => 2 * L.length + 1 - t) 0 (h0 := ?_) (hs := ?_) (round := ?_)
      · have := zeros_le nxt (2 * L.length) 0; omega
      · refine le_eq (by (repeat' first | exact .nil | refine .keep ?_ | refine .any ?_); first | done | fail) rfl rfl
      · intro t ht
        have hlen := rounds_len nxt (2 * L.length) t
        have hR := round_ok nxt (rounds nxt (2 * L.length) t) t (by omega) (by rw [hlen]; exact hin) hsm (by omega)
        rw [hlen] at hR
        have hfz : RV.fzL (List.take nxt.length (nxt.map ONs)) = nxt.map RNs := by rw [List.take_of_length_le (by simp)]; exact fz_ONss nxt
        repeat' first
          | refine w_seq ?_
          | refine w_block ?_
          | refine rb_n ?_
          | refine rb_ret ?_
          | refine rb_eq ?_
          | refine rb_ne (by rfl) ?_
          | refine w_exit ?_
          | refine rt_exit ?_
          | refine w_region ?_
          | refine l_nil ?_
          | refine rt_n ?_
          | refine w_ret ?_
          | refine rt_ret ?_
          | refine w_skip ?_
          | refine w_cond_t rfl ?_
          | refine w_cond_f rfl ?_
          | refine w_cnd rfl (fun hc => ?_) (fun hc => ?_)
          | refine w_cd rfl (fun hc => ?_) (fun hc => ?_)
          | refine w_cn rfl (fun hc => ?_) (fun hc => ?_)
          | refine w_cond rfl (fun hc => ?_) (fun hc => ?_)
          | (refine l_o ?_; first | refine l_op rfl (by first | (apply k_callf; first | exact ops_callm1 17 ((upd (rounds nxt (2 * L.length) t) (picks nxt (rounds nxt (2 * L.length) t) t (2 * L.length))).map RR) rfl (by simp [view1P, viewP, viewC, olook, oerase, mpos, nz, nf, hfz]) rfl (by kernel_rfl) hR (by simp [nm]) (by simp [nm]) (by simp [ns]) (by simp [RV.resOkT, RV.resOk, RV.isAgg, nm]) (by simp [ns]) (by simp [nz, nm]) (by simp [nz, nm]) | fail) | fail) (hk := ?_) | refine l_op (hk := ?_))
        · have hp : picks nxt (rounds nxt (2 * L.length) t) t (2 * L.length) ≠ [] := fun h => by rw [h] at hc; simp at hc
          have hz := zeros_rounds hp
          refine rn_mk (t + 1) (by omega) (by omega) ?_
          rw [rounds, rnd, hlen]
          refine le_eq (by (repeat' first | exact .nil | refine .keep ?_ | refine .any ?_); first | done | fail) rfl rfl
        · have hp : picks nxt (rounds nxt (2 * L.length) t) t (2 * L.length) = [] := List.eq_nil_of_length_eq_zero (by omega)
          have hf := fin_of_stop (by omega) hp
          rw [hp, ← hf]
          simp only [upd, List.foldl_nil]
          refine en_le _ (le_drop 5 (by simp only [nz, nf, nl, nb, nr, ng, nq, nu, reduceIte, Nat.reduceEqDiff, Nat.reduceAdd]; rfl) (by simp only [nz, nf, nl, nb, nr, ng, nq, nu, reduceIte, Nat.reduceEqDiff, Nat.reduceAdd]; rfl)) ?_
          refine en_end (hf := Tryz.results65) (hr := ?_); simp only [ne, nf, nl, nr, lget, reduceIte, Nat.reduceEqDiff]; first | rfl | refine congrArg RVb ?_ | refine congrArg RVi ?_ | skip
end Go.Proofs.YtpcckakchpblcaaGreatDoor
