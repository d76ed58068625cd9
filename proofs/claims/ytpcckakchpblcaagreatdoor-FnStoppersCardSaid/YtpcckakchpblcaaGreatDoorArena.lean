/- The program's solving of a graph for two players: what one state's decision, one round, the whole solving come to. For all graphs whose successors are states. -/
import Derived.Test.YtpcckakchpblcaaGreatDoorGood
import Derived.Test.YtpcckakchpblcaaGreatDoorSolve
namespace Go.Proofs.YtpcckakchpblcaaGreatDoor
open Eng
attribute [local irreducible] OpS OpG FC FCr Rel Fl Ef DR Fs
set_option linter.unusedSimpArgs false
set_option maxHeartbeats 0
set_option maxRecDepth 100000

theorem decided_ok (nxt : List (List Nat)) (res : List (Int × Int)) (s : Nat) (t : Int) (hs : s < nxt.length) (hk : ∀ k ∈ nxt[s], k < res.length) (hl : nxt[s].length ≤ 1099511627776) :
    FCr Tryz.prog 111 [.agg [RNss nxt, .sh (res.map RR)], RVn s, RVi t] (.tup [RR (dec res ((1 + s % 2 : Nat) : Int) t nxt[s] true).1, RVb (dec res ((1 + s % 2 : Nat) : Int) t nxt[s] true).2]) := by
  have hm : ((s % 2 : Nat) : Int) < 2 := by omega
  refine (fcr_in Tryz.func111 rfl (by simp only [Tryz.ntmps111, anys, List.length_cons, List.length_nil, Nat.reduceAdd, Nat.reduceSub, List.replicate_succ, List.replicate_zero, List.cons_append, List.nil_append] <;> rfl) ?_)
  repeat' first
    | refine w_seq ?_
    | refine w_block ?_
    | refine rb_n ?_
    | refine rb_ret ?_
    | refine rb_eq ?_
    | refine rb_ne (by rfl) ?_
    | refine w_exit ?_
    | refine rt_exit ?_
    | refine w_region ?_
    | refine l_nil ?_
    | refine rt_n ?_
    | refine w_ret ?_
    | refine rt_ret ?_
    | refine w_skip ?_
    | refine w_cond_t rfl ?_
    | refine w_cond_f rfl ?_
    | refine w_cnd rfl (fun hc => ?_) (fun hc => ?_)
    | refine w_cd rfl (fun hc => ?_) (fun hc => ?_)
    | refine w_cn rfl (fun hc => ?_) (fun hc => ?_)
    | refine w_cond rfl (fun hc => ?_) (fun hc => ?_)
    | (refine l_o ?_; first | refine l_eqnil rfl (by kernel_rfl) (by intro b; simp only [nz]; rfl) (fun b hb => ?_) | refine l_op rfl (by first | (apply k_rem; first | exact ops_remn (n := 2) rfl rfl (by omega) | fail) | (apply k_add; first | exact ops_addn (a := 1) rfl rfl (by omega) | fail) | fail) (hk := ?_) | refine l_op (hk := ?_) | (refine l_g ?_; first | refine l_y rfl rfl rfl ?_ | refine l_n rfl rfl rfl rfl (hk := ?_) | refine l_n' rfl rfl rfl (hk := ?_) | refine l_spnd rfl rfl rfl (h1 := fun hc => ?_) (h2 := fun hc => ?_) | refine l_spd rfl rfl rfl (h1 := fun hc => ?_) (h2 := fun hc => ?_) | refine l_spn rfl rfl rfl (h1 := fun hc => ?_) (h2 := fun hc => ?_) | refine l_sp rfl rfl rfl (h1 := fun hc => ?_) (h2 := fun hc => ?_)))
  refine w_loopk (ι := Nat × Bool) (fun k => [(22, RVn k.1), (9, RVb k.2)]) (fun k => k.1 ≤ nxt[s].length ∧ dec res ((1 + s % 2 : Nat) : Int) t (nxt[s].drop k.1) k.2 = dec res ((1 + s % 2 : Nat) : Int) t nxt[s] true) (fun k => nxt[s].length - k.1) (0, true) (h0 := ?_) (hs := ?_) (round := ?_)
  · simp
  · refine le_eq (by (repeat' first | exact .nil | refine .keep ?_ | refine .any ?_); first | done | fail) rfl rfl
  · intro ⟨k, lost⟩ ⟨hk1, hg⟩
    dsimp only at hk1 hg ⊢
    by_cases hkl : k < nxt[s].length
    · have hb := hk _ (List.getElem_mem hkl)
      rw [dc hkl, dec, gd hb] at hg
      repeat' first
        | refine w_seq ?_
        | refine w_block ?_
        | refine rb_n ?_
        | refine rb_ret ?_
        | refine rb_eq ?_
        | refine rb_ne (by rfl) ?_
        | refine w_exit ?_
        | refine rt_exit ?_
        | refine w_region ?_
        | refine l_nil ?_
        | refine rt_n ?_
        | refine w_ret ?_
        | refine rt_ret ?_
        | refine w_skip ?_
        | refine w_cond_t rfl ?_
        | refine w_cond_f rfl ?_
        | refine w_cnd rfl (fun hc => ?_) (fun hc => ?_)
        | refine w_cd rfl (fun hc => ?_) (fun hc => ?_)
        | refine w_cn rfl (fun hc => ?_) (fun hc => ?_)
        | refine w_cond rfl (fun hc => ?_) (fun hc => ?_)
        | (refine l_o ?_; first | refine l_eqnil rfl (by kernel_rfl) (by intro b; simp only [nz]; rfl) (fun b hb => ?_) | refine l_op (hk := ?_) | (refine l_g ?_; first | refine l_y rfl rfl rfl ?_ | refine l_n rfl rfl rfl rfl (hk := ?_) | refine l_n' rfl rfl rfl (hk := ?_) | refine l_spnd rfl rfl rfl (h1 := fun hc => ?_) (h2 := fun hc => ?_) | refine l_spd rfl rfl rfl (h1 := fun hc => ?_) (h2 := fun hc => ?_) | refine l_spn rfl rfl rfl (h1 := fun hc => ?_) (h2 := fun hc => ?_) | refine l_sp rfl rfl rfl (h1 := fun hc => ?_) (h2 := fun hc => ?_)))
      · refine en_end (hf := Tryz.results111) (hr := ?_); simp only [ne, nf, nl, nr, lget, reduceIte, Nat.reduceEqDiff]; first | rfl | refine congrArg RVb ?_ | refine congrArg RVi ?_ | skip
        grind
      iterate 6
        · first
            | refine rn_mk (k + 1, decide (res[nxt[s][k]].2 < t)) ?_ (by first | omega | (dsimp only; omega)) (le_dropd 12 (by simp only [nz]; rfl) (by simp only [nz, reduceIte, Nat.reduceEqDiff] <;> rfl) (le_eq (by (repeat' first | exact .nil | refine .keep ?_ | refine .any ?_); first | done | fail) rfl rfl))
            | refine rn_mk (k + 1, false) ?_ (by first | omega | (dsimp only; omega)) (le_dropd 12 (by simp only [nz]; rfl) (by simp only [nz, reduceIte, Nat.reduceEqDiff] <;> rfl) (le_eq (by (repeat' first | exact .nil | refine .keep ?_ | refine .any ?_); first | done | fail) rfl rfl))
          constructor
          · exact hkl
          · rw [← hg, if_neg (by grind)]
            congr 1
            grind
      omega
    · repeat' first
        | refine w_seq ?_
        | refine w_block ?_
        | refine rb_n ?_
        | refine rb_ret ?_
        | refine rb_eq ?_
        | refine rb_ne (by rfl) ?_
        | refine w_exit ?_
        | refine rt_exit ?_
        | refine w_region ?_
        | refine l_nil ?_
        | refine rt_n ?_
        | refine w_ret ?_
        | refine rt_ret ?_
        | refine w_skip ?_
        | refine w_cond_t rfl ?_
        | refine w_cond_f rfl ?_
        | refine w_cnd rfl (fun hc => ?_) (fun hc => ?_)
        | refine w_cd rfl (fun hc => ?_) (fun hc => ?_)
        | refine w_cn rfl (fun hc => ?_) (fun hc => ?_)
        | refine w_cond rfl (fun hc => ?_) (fun hc => ?_)
        | (refine l_o ?_; first | refine l_eqnil rfl (by kernel_rfl) (by intro b; simp only [nz]; rfl) (fun b hb => ?_) | refine l_op (hk := ?_) | (refine l_g ?_; first | refine l_y rfl rfl rfl ?_ | refine l_n rfl rfl rfl rfl (hk := ?_) | refine l_n' rfl rfl rfl (hk := ?_) | refine l_spnd rfl rfl rfl (h1 := fun hc => ?_) (h2 := fun hc => ?_) | refine l_spd rfl rfl rfl (h1 := fun hc => ?_) (h2 := fun hc => ?_) | refine l_spn rfl rfl rfl (h1 := fun hc => ?_) (h2 := fun hc => ?_) | refine l_sp rfl rfl rfl (h1 := fun hc => ?_) (h2 := fun hc => ?_)))
      iterate 7 omega
      refine en_end (hf := Tryz.results111) (hr := ?_); simp only [ne, nf, nl, nr, lget, reduceIte, Nat.reduceEqDiff]; first | rfl | refine congrArg RVb ?_ | refine congrArg RVi ?_ | skip
      rw [dn (by omega), dec] at hg
      grind

theorem round_ok (nxt : List (List Nat)) (res : List (Int × Int)) (t : Int) (hn : nxt.length = res.length) (hk : ∀ l ∈ nxt, ∀ k ∈ l, k < res.length) (hl : ∀ l ∈ nxt, l.length ≤ 1099511627776) (hr : res.length ≤ 1099511627776) :
    FC Tryz.prog 82 [.agg [RNss nxt, .ref 1000000000000 0 res.length], RVi t] [(1000000000000, 2, res.map RR)]
      (fun rv O => rv = RVb (decide (0 < (picks nxt res t res.length).length)) ∧ O = [(1000000000000, 2, (upd res (picks nxt res t res.length)).map RR)]) := by
  refine (fc_in Tryz.func82 rfl (by simp only [Tryz.ntmps82, anys, List.length_cons, List.length_nil, Nat.reduceAdd, Nat.reduceSub, List.replicate_succ, List.replicate_zero, List.cons_append, List.nil_append] <;> rfl) ?_)
  repeat' first
    | refine w_seq ?_
    | refine w_block ?_
    | refine rb_n ?_
    | refine rb_ret ?_
    | refine rb_eq ?_
    | refine rb_ne (by rfl) ?_
    | refine w_exit ?_
    | refine rt_exit ?_
    | refine w_region ?_
    | refine l_nil ?_
    | refine rt_n ?_
    | refine w_ret ?_
    | refine rt_ret ?_
    | refine w_skip ?_
    | refine w_cond_t rfl ?_
    | refine w_cond_f rfl ?_
    | refine w_cnd rfl (fun hc => ?_) (fun hc => ?_)
    | refine w_cd rfl (fun hc => ?_) (fun hc => ?_)
    | refine w_cn rfl (fun hc => ?_) (fun hc => ?_)
    | refine w_cond rfl (fun hc => ?_) (fun hc => ?_)
    | (refine l_o ?_; first | refine l_op (hk := ?_))
    | refine d_nil ?_
    | (refine d_o ?_; first | refine d_fl (hk := ?_) | refine d_ef (hk := ?_))
    | (refine w_o ?_; first | refine w_draw (id := 15) (fun _ => true) (fun k => [8].contains k) [[]] 64 (by kernel_rfl) rfl (by kernel_rfl) (by simp [nm, nset, -List.map_take, -List.map_drop]) ?_)
  refine w_loopm (ι := Nat) (fun k => [(17, RVn k), (5, .ref 12 0 (picks nxt res t k).length), (12, .any), (6, .ref 13 0 (picks nxt res t k).length), (13, .any)]) (fun k => [(13, 2, (picks nxt res t k).map fun p => RR p.2), (12, 1, (picks nxt res t k).map fun p => RVn p.1), (2, 2, [.agg [RNss nxt, .ref 1000000000000 0 res.length]]), (1000000000000, 2, res.map RR)]) (fun k => k ≤ res.length) (fun k => res.length - k) 0 (h0 := ?_) (hs := ?_) (round := ?_)
  · omega
  · refine le_eq (by (repeat' first | exact .nil | refine .keep ?_ | refine .any ?_); first | done | fail) rfl rfl
  · intro k hkr
    have hpl := picks_len nxt res t k
    by_cases hkl : k < res.length
    · have hb : k < nxt.length := by omega
      have hd := decided_ok nxt res k t hb (hk _ (List.getElem_mem hb)) (hl _ (List.getElem_mem hb))
      have hpk : pick1 nxt res t k = if res[k].1 ≠ 0 then none else if (dec res ((1 + k % 2 : Nat) : Int) t nxt[k] true).2 then some (k, (dec res ((1 + k % 2 : Nat) : Int) t nxt[k] true).1) else none := by rw [pick1, gd hkl, gd hb]
      repeat' first
        | refine w_seq ?_
        | refine w_block ?_
        | refine rb_n ?_
        | refine rb_ret ?_
        | refine rb_eq ?_
        | refine rb_ne (by rfl) ?_
        | refine w_exit ?_
        | refine rt_exit ?_
        | refine w_region ?_
        | refine l_nil ?_
        | refine rt_n ?_
        | refine w_ret ?_
        | refine rt_ret ?_
        | refine w_skip ?_
        | refine w_cond_t rfl ?_
        | refine w_cond_f rfl ?_
        | refine w_cnd rfl (fun hc => ?_) (fun hc => ?_)
        | refine w_cd rfl (fun hc => ?_) (fun hc => ?_)
        | refine w_cn rfl (fun hc => ?_) (fun hc => ?_)
        | refine w_cond rfl (fun hc => ?_) (fun hc => ?_)
        | (refine l_o ?_; first | refine l_op rfl (by first | (apply k_callf; first | exact ops_callz (hfc := hd) | fail) | fail) (hk := ?_) | refine l_op (hk := ?_))
        | refine d_nil ?_
        | (refine d_o ?_; first | refine d_fl (hk := ?_) | refine d_ef rfl (by first | exact .callz (hfc := hd) | fail) (hk := ?_) | refine d_ef (hk := ?_))
        | (refine w_o ?_; first | refine w_draw (id := 15) (fun _ => true) (fun k => [8].contains k) [[]] 64 (by kernel_rfl) rfl (by kernel_rfl) (by simp [nm, nset, -List.map_take, -List.map_drop]) ?_)
      · rw [if_pos hc] at hpk
        refine rn_mk (k + 1) (by omega) (by omega) ?_
        rw [picks_succ, hpk, Option.toList_none, List.append_nil]
        refine le_eq (by (repeat' first | exact .nil | refine .keep ?_ | refine .any ?_); first | done | fail) rfl rfl
      · rw [if_neg (by assumption), if_pos hc] at hpk
        refine rn_mk (k + 1) (by omega) (by omega) ?_
        rw [picks_succ, hpk]
        refine le_dropd 8 (by simp only [nz]; rfl) (by simp only [nz, reduceIte, Nat.reduceEqDiff] <;> rfl) ?_
        simp only [Option.toList_some, List.length_map, List.length_append, List.length_singleton, List.map_append, List.map_cons, List.map_nil]
        refine le_eq (by (repeat' first | exact .nil | refine .keep ?_ | refine .any ?_); first | done | fail) rfl rfl
      · rw [if_neg (by assumption), if_neg (by rw [hc]; decide)] at hpk
        refine rn_mk (k + 1) (by omega) (by omega) ?_
        rw [picks_succ, hpk, Option.toList_none, List.append_nil]
        refine le_dropd 8 (by simp only [nz]; rfl) (by simp only [nz, reduceIte, Nat.reduceEqDiff] <;> rfl) ?_
        refine le_eq (by (repeat' first | exact .nil | refine .keep ?_ | refine .any ?_); first | done | fail) rfl rfl
      · omega
    · repeat' first
        | refine w_seq ?_
        | refine w_block ?_
        | refine rb_n ?_
        | refine rb_ret ?_
        | refine rb_eq ?_
        | refine rb_ne (by rfl) ?_
        | refine w_exit ?_
        | refine rt_exit ?_
        | refine w_region ?_
        | refine l_nil ?_
        | refine rt_n ?_
        | refine w_ret ?_
        | refine rt_ret ?_
        | refine w_skip ?_
        | refine w_cond_t rfl ?_
        | refine w_cond_f rfl ?_
        | refine w_cnd rfl (fun hc => ?_) (fun hc => ?_)
        | refine w_cd rfl (fun hc => ?_) (fun hc => ?_)
        | refine w_cn rfl (fun hc => ?_) (fun hc => ?_)
        | refine w_cond rfl (fun hc => ?_) (fun hc => ?_)
        | (refine l_o ?_; first | refine l_op (hk := ?_))
        | refine d_nil ?_
        | (refine d_o ?_; first | refine d_fl (hk := ?_) | refine d_ef (hk := ?_))
        | (refine w_o ?_; first | refine w_draw (id := 15) (fun _ => true) (fun k => [8].contains k) [[]] 64 (by kernel_rfl) rfl (by kernel_rfl) (by simp [nm, nset, -List.map_take, -List.map_drop]) ?_)
      · omega
      · omega
      obtain rfl : k = res.length := by omega
      refine w_loopm (ι := Nat) (fun j => [(46, RVn j)]) (fun j => [(13, 2, (picks nxt res t res.length).map fun p => RR p.2), (12, 1, (picks nxt res t res.length).map fun p => RVn p.1), (2, 2, [.agg [RNss nxt, .ref 1000000000000 0 res.length]]), (1000000000000, 2, (upd res ((picks nxt res t res.length).take j)).map RR)]) (fun j => j ≤ (picks nxt res t res.length).length) (fun j => (picks nxt res t res.length).length - j) 0 (h0 := ?_) (hs := ?_) (round := ?_)
      · omega
      · refine le_eq (by (repeat' first | exact .nil | refine .keep ?_ | refine .any ?_); first | done | fail) rfl rfl
      · intro j hj
        have hul := upd_len ((picks nxt res t res.length).take j) res
        by_cases hjl : j < (picks nxt res t res.length).length
        · have hpj := picks_lt (List.getElem_mem hjl)
          have hup : upd res ((picks nxt res t res.length).take (j + 1)) = (upd res ((picks nxt res t res.length).take j)).set (picks nxt res t res.length)[j].1 (picks nxt res t res.length)[j].2 := by
            rw [List.take_succ_eq_append_getElem hjl, upd_snoc]
          repeat' first
            | refine w_seq ?_
            | refine w_block ?_
            | refine rb_n ?_
            | refine rb_ret ?_
            | refine rb_eq ?_
            | refine rb_ne (by rfl) ?_
            | refine w_exit ?_
            | refine rt_exit ?_
            | refine w_region ?_
            | refine l_nil ?_
            | refine rt_n ?_
            | refine w_ret ?_
            | refine rt_ret ?_
            | refine w_skip ?_
            | refine w_cond_t rfl ?_
            | refine w_cond_f rfl ?_
            | refine w_cnd rfl (fun hc => ?_) (fun hc => ?_)
            | refine w_cd rfl (fun hc => ?_) (fun hc => ?_)
            | refine w_cn rfl (fun hc => ?_) (fun hc => ?_)
            | refine w_cond rfl (fun hc => ?_) (fun hc => ?_)
            | (refine l_o ?_; first | refine l_op (hk := ?_))
            | refine d_nil ?_
            | (refine d_o ?_; first | refine d_fl (hk := ?_) | refine d_ef (hk := ?_))
            | (refine w_o ?_; first | refine w_draw (id := 15) (roL [2, 12, 13]) (fun k => [7, 8].contains k) [[], []] 64 (by kernel_rfl) rfl (by kernel_rfl) (by simp [nm, nset, -List.map_take, -List.map_drop]) ?_)
          · refine rn_mk (j + 1) (by omega) (by omega) ?_
            rw [hup]
            refine le_eq (by (repeat' first | exact .nil | refine .keep ?_ | refine .any ?_); first | done | fail) rfl rfl
          · omega
        · repeat' first
            | refine w_seq ?_
            | refine w_block ?_
            | refine rb_n ?_
            | refine rb_ret ?_
            | refine rb_eq ?_
            | refine rb_ne (by rfl) ?_
            | refine w_exit ?_
            | refine rt_exit ?_
            | refine w_region ?_
            | refine l_nil ?_
            | refine rt_n ?_
            | refine w_ret ?_
            | refine rt_ret ?_
            | refine w_skip ?_
            | refine w_cond_t rfl ?_
            | refine w_cond_f rfl ?_
            | refine w_cnd rfl (fun hc => ?_) (fun hc => ?_)
            | refine w_cd rfl (fun hc => ?_) (fun hc => ?_)
            | refine w_cn rfl (fun hc => ?_) (fun hc => ?_)
            | refine w_cond rfl (fun hc => ?_) (fun hc => ?_)
            | (refine l_o ?_; first | refine l_op (hk := ?_))
            | refine d_nil ?_
            | (refine d_o ?_; first | refine d_fl (hk := ?_) | refine d_ef (hk := ?_))
            | (refine w_o ?_; first | refine w_draw (id := 15) (roL [2, 12, 13]) (fun k => [7, 8].contains k) [[], []] 64 (by kernel_rfl) rfl (by kernel_rfl) (by simp [nm, nset, -List.map_take, -List.map_drop]) ?_)
          · omega
          · obtain rfl : j = (picks nxt res t res.length).length := by omega
            rw [List.take_length]
            refine en_endm ([(13, 2, (picks nxt res t res.length).map fun p => RR p.2), (12, 1, (picks nxt res t res.length).map fun p => RVn p.1), (2, 2, [.agg [RNss nxt, .ref 1000000000000 0 res.length]])]) (hf := Tryz.results82) (hO := ?_) (hr := ?_)
            · rfl
            · simp only [ne, nf, nl, nr, lget, reduceIte, Nat.reduceEqDiff]
              simp
end Go.Proofs.YtpcckakchpblcaaGreatDoor
