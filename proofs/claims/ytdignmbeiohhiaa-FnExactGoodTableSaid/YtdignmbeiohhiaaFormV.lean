/- Who wins moving first, in the reference. For all forms within the bounds that the theorems name. -/
import Derived.Test.YtdignmbeiohhiaaFormN
import Derived.Test.YtdignmbeiohhiaaFormW
namespace Go.Proofs.Ytdignmbeiohhiaa
open Eng
attribute [local irreducible] OpS OpG FC FCr Rel Fl Ef DR Fs
attribute [local simp] RV.fzR_names
set_option linter.unusedSimpArgs false
set_option maxHeartbeats 0
set_option maxRecDepth 100000

theorem l4Wins_ok (f : List Nd) (ok : OkF f) (hN : f.length ≤ 120) : FCr Try.prog 110 [.agg [.sh (f.map RNd)]] (.tup [OBs (wn f f.length).1, OBs (wn f f.length).2]) := by
  refine (fcr_in Try.func110 rfl (by simp only [Try.ntmps110, anys, List.length_cons, List.length_nil, Nat.reduceAdd, Nat.reduceSub, List.replicate_succ, List.replicate_zero, List.cons_append, List.nil_append] <;> rfl) ?_)
  repeat' first
    | refine w_seq ?_
    | refine w_block ?_
    | refine rb_n ?_
    | refine rb_ret ?_
    | refine rb_eq ?_
    | refine rb_ne (by rfl) ?_
    | refine w_exit ?_
    | refine rt_exit ?_
    | refine w_region ?_
    | refine l_nil ?_
    | refine rt_n ?_
    | refine w_ret ?_
    | refine rt_ret ?_
    | refine w_skip ?_
    | refine w_cond_t rfl ?_
    | refine w_cond_f rfl ?_
    | refine w_cnd rfl (fun hc => ?_) (fun hc => ?_)
    | refine w_cd rfl (fun hc => ?_) (fun hc => ?_)
    | refine w_cn rfl (fun hc => ?_) (fun hc => ?_)
    | refine w_cond rfl (fun hc => ?_) (fun hc => ?_)
    | (refine l_o ?_; first | refine l_op (hk := ?_) | (refine l_g ?_; first | refine l_y rfl rfl rfl ?_ | refine l_n rfl rfl rfl rfl (hk := ?_) | refine l_n' rfl rfl rfl (hk := ?_) | refine l_spnd rfl rfl rfl (h1 := fun hc => ?_) (h2 := fun hc => ?_) | refine l_spd rfl rfl rfl (h1 := fun hc => ?_) (h2 := fun hc => ?_) | refine l_spn rfl rfl rfl (h1 := fun hc => ?_) (h2 := fun hc => ?_) | refine l_sp rfl rfl rfl (h1 := fun hc => ?_) (h2 := fun hc => ?_)))
  refine w_loopm (ι := Nat × List Bool × List Bool) (fun q => [(6, RVn q.1), (4, .ref 11 0 q.2.1.length), (11, .any), (5, .ref 12 0 q.2.2.length), (12, .any)]) (fun q => [(12, 1, q.2.2.map RVb), (11, 1, q.2.1.map RVb), (1, 1, [.agg [.sh (f.map RNd)]])]) (fun q => q.1 ≤ f.length ∧ q.2.1 = (wn f q.1).1 ∧ q.2.2 = (wn f q.1).2) (fun q => f.length - q.1) (0, [], []) (h0 := ?_) (hs := ?_) (round := ?_)
  · exact ⟨by omega, rfl, rfl⟩
  · refine le_eq (by (repeat' first | exact .nil | refine .keep ?_ | refine .any ?_); first | done | fail) rfl rfl
  · intro ⟨k, P, Q⟩ ⟨hk, hP, hQ⟩
    dsimp only at hk hP hQ ⊢
    obtain ⟨l1, l2⟩ := wn_len f k
    rw [← hP] at l1
    rw [← hQ] at l2
    by_cases hkl : k < f.length
    · have hoL := (ok k).1.2
      have hoR := (ok k).2.2
      have hlL := sn_len (ok k).1.1 hoL
      have hlR := sn_len (ok k).2.1 hoR
      have hwn : wn f (k + 1) = ((wn f k).1 ++ [orN (wn f k).2 false (nd f k).1], (wn f k).2 ++ [orN (wn f k).1 false (nd f k).2]) := rfl
      rw [← hP, ← hQ] at hwn
      have hfk : nd f k = f[k] := gdp hkl
      rw [hfk] at hoL hoR hlL hlR hwn
      repeat' first
        | refine w_seq ?_
        | refine w_block ?_
        | refine rb_n ?_
        | refine rb_ret ?_
        | refine rb_eq ?_
        | refine rb_ne (by rfl) ?_
        | refine w_exit ?_
        | refine rt_exit ?_
        | refine w_region ?_
        | refine l_nil ?_
        | refine rt_n ?_
        | refine w_ret ?_
        | refine rt_ret ?_
        | refine w_skip ?_
        | refine w_cond_t rfl ?_
        | refine w_cond_f rfl ?_
        | refine w_cnd rfl (fun hc => ?_) (fun hc => ?_)
        | refine w_cd rfl (fun hc => ?_) (fun hc => ?_)
        | refine w_cn rfl (fun hc => ?_) (fun hc => ?_)
        | refine w_cond rfl (fun hc => ?_) (fun hc => ?_)
        | (exfalso; omega)
        | (refine l_o ?_; first | refine l_op (hk := ?_) | (refine l_g ?_; first | refine l_y rfl rfl rfl ?_ | refine l_n rfl rfl rfl rfl (hk := ?_) | refine l_n' rfl rfl rfl (hk := ?_) | refine l_spnd rfl rfl rfl (h1 := fun hc => ?_) (h2 := fun hc => ?_) | refine l_spd rfl rfl rfl (h1 := fun hc => ?_) (h2 := fun hc => ?_) | refine l_spn rfl rfl rfl (h1 := fun hc => ?_) (h2 := fun hc => ?_) | refine l_sp rfl rfl rfl (h1 := fun hc => ?_) (h2 := fun hc => ?_)))
      refine w_loopm (ι := Nat) (fun i => [(9, RVn i), (7, RVb (orN Q false (f[k].1.take i)))]) (fun _ => [(12, 1, Q.map RVb), (11, 1, P.map RVb), (1, 1, [.agg [.sh (f.map RNd)]])]) (fun i => i ≤ f[k].1.length) (fun i => f[k].1.length - i) 0 (h0 := ?_) (hs := ?_) (round := ?_)
      · exact Nat.zero_le _
      · refine le_eq (by (repeat' first | exact .nil | refine .keep ?_ | refine .any ?_); first | done | fail) rfl rfl
      · intro i hi
        by_cases hil : i < f[k].1.length
        · have hx := hoL _ (List.getElem_mem hil)
          have e2 := orN_snoc Q (f[k].1.take i) false f[k].1[i]
          rw [← take_next hil, gdp (show f[k].1[i] < Q.length by omega)] at e2
          generalize orN Q false (f[k].1.take i) = m at *
          cases m with
          | true =>
            repeat' first
              | refine w_seq ?_
              | refine w_block ?_
              | refine rb_n ?_
              | refine rb_ret ?_
              | refine rb_eq ?_
              | refine rb_ne (by rfl) ?_
              | refine w_exit ?_
              | refine rt_exit ?_
              | refine w_region ?_
              | refine l_nil ?_
              | refine rt_n ?_
              | refine w_ret ?_
              | refine rt_ret ?_
              | refine w_skip ?_
              | refine w_cond_t rfl ?_
              | refine w_cond_f rfl ?_
              | refine w_cnd rfl (fun hc => ?_) (fun hc => ?_)
              | refine w_cd rfl (fun hc => ?_) (fun hc => ?_)
              | refine w_cn rfl (fun hc => ?_) (fun hc => ?_)
              | refine w_cond rfl (fun hc => ?_) (fun hc => ?_)
              | (exfalso; omega)
              | (refine l_o ?_; first | refine l_op (hk := ?_) | (refine l_g ?_; first | refine l_y rfl rfl rfl ?_ | refine l_n rfl rfl rfl rfl (hk := ?_) | refine l_n' rfl rfl rfl (hk := ?_) | refine l_spnd rfl rfl rfl (h1 := fun hc => ?_) (h2 := fun hc => ?_) | refine l_spd rfl rfl rfl (h1 := fun hc => ?_) (h2 := fun hc => ?_) | refine l_spn rfl rfl rfl (h1 := fun hc => ?_) (h2 := fun hc => ?_) | refine l_sp rfl rfl rfl (h1 := fun hc => ?_) (h2 := fun hc => ?_)))
            refine rn_mk (i + 1) (by omega) (by omega) ?_
            rw [e2, Bool.true_or]
            refine le_eq (by (repeat' first | exact .nil | refine .keep ?_ | refine .any ?_); first | done | fail) rfl rfl
          | false =>
            repeat' first
              | refine w_seq ?_
              | refine w_block ?_
              | refine rb_n ?_
              | refine rb_ret ?_
              | refine rb_eq ?_
              | refine rb_ne (by rfl) ?_
              | refine w_exit ?_
              | refine rt_exit ?_
              | refine w_region ?_
              | refine l_nil ?_
              | refine rt_n ?_
              | refine w_ret ?_
              | refine rt_ret ?_
              | refine w_skip ?_
              | refine w_cond_t rfl ?_
              | refine w_cond_f rfl ?_
              | refine w_cnd rfl (fun hc => ?_) (fun hc => ?_)
              | refine w_cd rfl (fun hc => ?_) (fun hc => ?_)
              | refine w_cn rfl (fun hc => ?_) (fun hc => ?_)
              | refine w_cond rfl (fun hc => ?_) (fun hc => ?_)
              | (exfalso; omega)
              | (refine l_o ?_; first | refine l_op (hk := ?_) | (refine l_g ?_; first | refine l_y rfl rfl rfl ?_ | refine l_n rfl rfl rfl rfl (hk := ?_) | refine l_n' rfl rfl rfl (hk := ?_) | refine l_spnd rfl rfl rfl (h1 := fun hc => ?_) (h2 := fun hc => ?_) | refine l_spd rfl rfl rfl (h1 := fun hc => ?_) (h2 := fun hc => ?_) | refine l_spn rfl rfl rfl (h1 := fun hc => ?_) (h2 := fun hc => ?_) | refine l_sp rfl rfl rfl (h1 := fun hc => ?_) (h2 := fun hc => ?_)))
            refine rn_mk (i + 1) (by omega) (by omega) ?_
            rw [e2, Bool.false_or]
            refine le_eq (by (repeat' first | exact .nil | refine .keep ?_ | refine .any ?_); first | done | fail) rfl rfl
        · obtain rfl : i = f[k].1.length := by omega
          rw [List.take_length]
          generalize hM : orN Q false f[k].1 = M at *
          repeat' first
            | refine w_seq ?_
            | refine w_block ?_
            | refine rb_n ?_
            | refine rb_ret ?_
            | refine rb_eq ?_
            | refine rb_ne (by rfl) ?_
            | refine w_exit ?_
            | refine rt_exit ?_
            | refine w_region ?_
            | refine l_nil ?_
            | refine rt_n ?_
            | refine w_ret ?_
            | refine rt_ret ?_
            | refine w_skip ?_
            | refine w_cond_t rfl ?_
            | refine w_cond_f rfl ?_
            | refine w_cnd rfl (fun hc => ?_) (fun hc => ?_)
            | refine w_cd rfl (fun hc => ?_) (fun hc => ?_)
            | refine w_cn rfl (fun hc => ?_) (fun hc => ?_)
            | refine w_cond rfl (fun hc => ?_) (fun hc => ?_)
            | (exfalso; omega)
            | (refine l_o ?_; first | refine l_op (hk := ?_) | (refine l_g ?_; first | refine l_y rfl rfl rfl ?_ | refine l_n rfl rfl rfl rfl (hk := ?_) | refine l_n' rfl rfl rfl (hk := ?_) | refine l_spnd rfl rfl rfl (h1 := fun hc => ?_) (h2 := fun hc => ?_) | refine l_spd rfl rfl rfl (h1 := fun hc => ?_) (h2 := fun hc => ?_) | refine l_spn rfl rfl rfl (h1 := fun hc => ?_) (h2 := fun hc => ?_) | refine l_sp rfl rfl rfl (h1 := fun hc => ?_) (h2 := fun hc => ?_)))
          refine w_loopm (ι := Nat) (fun i => [(10, RVn i), (8, RVb (orN P false (f[k].2.take i)))]) (fun _ => [(12, 1, Q.map RVb), (11, 1, P.map RVb), (1, 1, [.agg [.sh (f.map RNd)]])]) (fun i => i ≤ f[k].2.length) (fun i => f[k].2.length - i) 0 (h0 := ?_) (hs := ?_) (round := ?_)
          · exact Nat.zero_le _
          · refine le_eq (by (repeat' first | exact .nil | refine .keep ?_ | refine .any ?_); first | done | fail) rfl rfl
          · intro i hi
            by_cases hil : i < f[k].2.length
            · have hx := hoR _ (List.getElem_mem hil)
              have e2 := orN_snoc P (f[k].2.take i) false f[k].2[i]
              rw [← take_next hil, gdp (show f[k].2[i] < P.length by omega)] at e2
              generalize orN P false (f[k].2.take i) = m at *
              cases m with
              | true =>
                repeat' first
                  | refine w_seq ?_
                  | refine w_block ?_
                  | refine rb_n ?_
                  | refine rb_ret ?_
                  | refine rb_eq ?_
                  | refine rb_ne (by rfl) ?_
                  | refine w_exit ?_
                  | refine rt_exit ?_
                  | refine w_region ?_
                  | refine l_nil ?_
                  | refine rt_n ?_
                  | refine w_ret ?_
                  | refine rt_ret ?_
                  | refine w_skip ?_
                  | refine w_cond_t rfl ?_
                  | refine w_cond_f rfl ?_
                  | refine w_cnd rfl (fun hc => ?_) (fun hc => ?_)
                  | refine w_cd rfl (fun hc => ?_) (fun hc => ?_)
                  | refine w_cn rfl (fun hc => ?_) (fun hc => ?_)
                  | refine w_cond rfl (fun hc => ?_) (fun hc => ?_)
                  | (exfalso; omega)
                  | (refine l_o ?_; first | refine l_op (hk := ?_) | (refine l_g ?_; first | refine l_y rfl rfl rfl ?_ | refine l_n rfl rfl rfl rfl (hk := ?_) | refine l_n' rfl rfl rfl (hk := ?_) | refine l_spnd rfl rfl rfl (h1 := fun hc => ?_) (h2 := fun hc => ?_) | refine l_spd rfl rfl rfl (h1 := fun hc => ?_) (h2 := fun hc => ?_) | refine l_spn rfl rfl rfl (h1 := fun hc => ?_) (h2 := fun hc => ?_) | refine l_sp rfl rfl rfl (h1 := fun hc => ?_) (h2 := fun hc => ?_)))
                refine rn_mk (i + 1) (by omega) (by omega) ?_
                rw [e2, Bool.true_or]
                refine le_eq (by (repeat' first | exact .nil | refine .keep ?_ | refine .any ?_); first | done | fail) rfl rfl
              | false =>
                repeat' first
                  | refine w_seq ?_
                  | refine w_block ?_
                  | refine rb_n ?_
                  | refine rb_ret ?_
                  | refine rb_eq ?_
                  | refine rb_ne (by rfl) ?_
                  | refine w_exit ?_
                  | refine rt_exit ?_
                  | refine w_region ?_
                  | refine l_nil ?_
                  | refine rt_n ?_
                  | refine w_ret ?_
                  | refine rt_ret ?_
                  | refine w_skip ?_
                  | refine w_cond_t rfl ?_
                  | refine w_cond_f rfl ?_
                  | refine w_cnd rfl (fun hc => ?_) (fun hc => ?_)
                  | refine w_cd rfl (fun hc => ?_) (fun hc => ?_)
                  | refine w_cn rfl (fun hc => ?_) (fun hc => ?_)
                  | refine w_cond rfl (fun hc => ?_) (fun hc => ?_)
                  | (exfalso; omega)
                  | (refine l_o ?_; first | refine l_op (hk := ?_) | (refine l_g ?_; first | refine l_y rfl rfl rfl ?_ | refine l_n rfl rfl rfl rfl (hk := ?_) | refine l_n' rfl rfl rfl (hk := ?_) | refine l_spnd rfl rfl rfl (h1 := fun hc => ?_) (h2 := fun hc => ?_) | refine l_spd rfl rfl rfl (h1 := fun hc => ?_) (h2 := fun hc => ?_) | refine l_spn rfl rfl rfl (h1 := fun hc => ?_) (h2 := fun hc => ?_) | refine l_sp rfl rfl rfl (h1 := fun hc => ?_) (h2 := fun hc => ?_)))
                refine rn_mk (i + 1) (by omega) (by omega) ?_
                rw [e2, Bool.false_or]
                refine le_eq (by (repeat' first | exact .nil | refine .keep ?_ | refine .any ?_); first | done | fail) rfl rfl
            · obtain rfl : i = f[k].2.length := by omega
              rw [List.take_length]
              generalize hM2 : orN P false f[k].2 = M2 at *
              repeat' first
                | refine w_seq ?_
                | refine w_block ?_
                | refine rb_n ?_
                | refine rb_ret ?_
                | refine rb_eq ?_
                | refine rb_ne (by rfl) ?_
                | refine w_exit ?_
                | refine rt_exit ?_
                | refine w_region ?_
                | refine l_nil ?_
                | refine rt_n ?_
                | refine w_ret ?_
                | refine rt_ret ?_
                | refine w_skip ?_
                | refine w_cond_t rfl ?_
                | refine w_cond_f rfl ?_
                | refine w_cnd rfl (fun hc => ?_) (fun hc => ?_)
                | refine w_cd rfl (fun hc => ?_) (fun hc => ?_)
                | refine w_cn rfl (fun hc => ?_) (fun hc => ?_)
                | refine w_cond rfl (fun hc => ?_) (fun hc => ?_)
                | (exfalso; omega)
                | (refine l_o ?_; first | refine l_op (hk := ?_) | (refine l_g ?_; first | refine l_y rfl rfl rfl ?_ | refine l_n rfl rfl rfl rfl (hk := ?_) | refine l_n' rfl rfl rfl (hk := ?_) | refine l_spnd rfl rfl rfl (h1 := fun hc => ?_) (h2 := fun hc => ?_) | refine l_spd rfl rfl rfl (h1 := fun hc => ?_) (h2 := fun hc => ?_) | refine l_spn rfl rfl rfl (h1 := fun hc => ?_) (h2 := fun hc => ?_) | refine l_sp rfl rfl rfl (h1 := fun hc => ?_) (h2 := fun hc => ?_)))
              refine rn_mk (k + 1, P ++ [M], Q ++ [M2]) ?_ (by first | omega | (dsimp only; omega)) (le_eq (by (repeat' first | exact .nil | refine .keep ?_ | refine .any ?_); first | done | fail) rfl rfl)
              exact ⟨by dsimp only; omega, by rw [hwn], by rw [hwn]⟩
    · obtain rfl : k = f.length := by omega
      rw [← hP, ← hQ]
      repeat' first
        | refine w_seq ?_
        | refine w_block ?_
        | refine rb_n ?_
        | refine rb_ret ?_
        | refine rb_eq ?_
        | refine rb_ne (by rfl) ?_
        | refine w_exit ?_
        | refine rt_exit ?_
        | refine w_region ?_
        | refine l_nil ?_
        | refine rt_n ?_
        | refine w_ret ?_
        | refine rt_ret ?_
        | refine w_skip ?_
        | refine w_cond_t rfl ?_
        | refine w_cond_f rfl ?_
        | refine w_cnd rfl (fun hc => ?_) (fun hc => ?_)
        | refine w_cd rfl (fun hc => ?_) (fun hc => ?_)
        | refine w_cn rfl (fun hc => ?_) (fun hc => ?_)
        | refine w_cond rfl (fun hc => ?_) (fun hc => ?_)
        | (exfalso; omega)
        | (refine l_o ?_; first | refine l_op (hk := ?_) | (refine l_g ?_; first | refine l_y rfl rfl rfl ?_ | refine l_n rfl rfl rfl rfl (hk := ?_) | refine l_n' rfl rfl rfl (hk := ?_) | refine l_spnd rfl rfl rfl (h1 := fun hc => ?_) (h2 := fun hc => ?_) | refine l_spd rfl rfl rfl (h1 := fun hc => ?_) (h2 := fun hc => ?_) | refine l_spn rfl rfl rfl (h1 := fun hc => ?_) (h2 := fun hc => ?_) | refine l_sp rfl rfl rfl (h1 := fun hc => ?_) (h2 := fun hc => ?_)))
      refine en_end (hf := Try.results110) (hr := ?_); simp only [ne, nf, nl, nr, lget, reduceIte, Nat.reduceEqDiff]; first | rfl | refine congrArg RVb ?_ | refine congrArg RVi ?_ | skip
theorem l4First_ok (f : List Nd) (left : Bool) (ok : OkF f) (h0 : 0 < f.length) (hN : f.length ≤ 120) : FCr Try.prog 98 [.agg [.sh (f.map RNd)], RVb left] (RVb (((if left then (wn f f.length).1 else (wn f f.length).2)).getD (f.length - 1) false)) := by
  have hW := l4Wins_ok f ok hN
  obtain ⟨l1, l2⟩ := wn_len f f.length
  generalize wn f f.length = q at *
  obtain ⟨P, Q⟩ := q
  dsimp only at *
  have hp : (f.length : Int) - 1 = (f.length - 1 : Nat) := by omega
  cases left with
  | true =>
    rw [if_pos rfl, gdp (show f.length - 1 < P.length by omega)]
    refine (fcr_in Try.func98 rfl (by simp only [Try.ntmps98, anys, List.length_cons, List.length_nil, Nat.reduceAdd, Nat.reduceSub, List.replicate_succ, List.replicate_zero, List.cons_append, List.nil_append] <;> rfl) ?_)
    repeat' first
      | refine w_seq ?_
      | refine w_region ?_
      | refine l_nil ?_
      | refine rt_n ?_
      | refine w_ret ?_
      | refine rt_ret ?_
      | refine w_skip ?_
      | refine w_cond_t rfl ?_
      | refine w_cond_f rfl ?_
      | refine w_cnd rfl (fun hc => ?_) (fun hc => ?_)
      | refine w_cd rfl (fun hc => ?_) (fun hc => ?_)
      | refine w_cn rfl (fun hc => ?_) (fun hc => ?_)
      | refine w_cond rfl (fun hc => ?_) (fun hc => ?_)
      | (refine l_o ?_; first | refine l_op rfl (by first | (apply k_sub; first | exact ops_subn (a := P.length) (b := 1) rfl rfl (by omega) (by omega) | fail) | (apply k_callf; first | exact ops_callz (hfc := hW) | fail) | fail) (hk := ?_) | refine l_op (hk := ?_))
    refine en_one (hf := Try.results98) (h := ?_); simp only [lget]; first | refine congrArg RVb ?_ | refine congrArg RVi ?_ | skip
    simp only [l1]
  | false =>
    rw [if_neg (by decide), gdp (show f.length - 1 < Q.length by omega)]
    refine (fcr_in Try.func98 rfl (by simp only [Try.ntmps98, anys, List.length_cons, List.length_nil, Nat.reduceAdd, Nat.reduceSub, List.replicate_succ, List.replicate_zero, List.cons_append, List.nil_append] <;> rfl) ?_)
    repeat' first
      | refine w_seq ?_
      | refine w_region ?_
      | refine l_nil ?_
      | refine rt_n ?_
      | refine w_ret ?_
      | refine rt_ret ?_
      | refine w_skip ?_
      | refine w_cond_t rfl ?_
      | refine w_cond_f rfl ?_
      | refine w_cnd rfl (fun hc => ?_) (fun hc => ?_)
      | refine w_cd rfl (fun hc => ?_) (fun hc => ?_)
      | refine w_cn rfl (fun hc => ?_) (fun hc => ?_)
      | refine w_cond rfl (fun hc => ?_) (fun hc => ?_)
      | (refine l_o ?_; first | refine l_op rfl (by first | (apply k_sub; first | exact ops_subn (a := Q.length) (b := 1) rfl rfl (by omega) (by omega) | fail) | (apply k_callf; first | exact ops_callz (hfc := hW) | fail) | fail) (hk := ?_) | refine l_op (hk := ?_))
    refine en_one (hf := Try.results98) (h := ?_); simp only [lget]; first | refine congrArg RVb ?_ | refine congrArg RVi ?_ | skip
    simp only [l2]
end Go.Proofs.Ytdignmbeiohhiaa
