/- What is reached in a form: the program's and the reference's. For all forms. -/
import Derived.Test.YtdignmbeiohhiaaFormI
namespace Go.Proofs.Ytdignmbeiohhiaa
open Eng
attribute [local irreducible] OpS OpG FC FCr Rel Fl Ef DR Fs
attribute [local simp] RV.fzR_names
set_option linter.unusedSimpArgs false
set_option maxHeartbeats 0
set_option maxRecDepth 100000

theorem mkL_snoc : ∀ (l : List Nat) (x : Nat) (is : List Bool), mkL (l ++ [x]) is = (mkL l is).set x true
  | [], _, _ => rfl
  | y :: ys, x, is => by rw [List.cons_append, mkL, mkL, mkL_snoc ys]
theorem used_ok (f : List Nd) (ok : OkF f) (at_ : Nat) (hr : at_ < f.length) (hN : f.length ≤ 120) : FCr Try.prog 95 [.sh (f.map RNd), RVn at_] (OBs (usd f (at_ + 1) ((List.replicate f.length false).set at_ true))) := by
  have hrl : (List.replicate f.length false).length = f.length := List.length_replicate
  obtain ⟨I, hI⟩ : ∃ I, I = (List.replicate f.length false).set at_ true := ⟨_, rfl⟩
  have hIl : I.length = f.length := by rw [hI]; simp
  rw [← hI]
  refine (fcr_in Try.func95 rfl (by simp only [Try.ntmps95, anys, List.length_cons, List.length_nil, Nat.reduceAdd, Nat.reduceSub, List.replicate_succ, List.replicate_zero, List.cons_append, List.nil_append] <;> rfl) ?_)
  repeat' first
    | refine w_seq ?_
    | refine w_block ?_
    | refine rb_n ?_
    | refine rb_ret ?_
    | refine rb_eq ?_
    | refine rb_ne (by rfl) ?_
    | refine w_exit ?_
    | refine rt_exit ?_
    | refine w_region ?_
    | refine l_nil ?_
    | refine rt_n ?_
    | refine w_ret ?_
    | refine rt_ret ?_
    | refine w_skip ?_
    | refine w_cond_t rfl ?_
    | refine w_cond_f rfl ?_
    | refine w_cnd rfl (fun hc => ?_) (fun hc => ?_)
    | refine w_cd rfl (fun hc => ?_) (fun hc => ?_)
    | refine w_cn rfl (fun hc => ?_) (fun hc => ?_)
    | refine w_cond rfl (fun hc => ?_) (fun hc => ?_)
    | (refine l_o ?_; first | refine l_op (hk := ?_))
  rw [← hI]
  clear hrl hI
  refine w_loopm (ι := Nat × List Bool) (fun q => [(6, RVi ((q.1 : Int) - 1)), (8, .any), (10, .any)]) (fun q => [(13, 1, q.2.map RVb)]) (fun q => q.1 ≤ at_ + 1 ∧ q.2.length = f.length ∧ usd f q.1 q.2 = usd f (at_ + 1) I) (fun q => q.1) (at_ + 1, I) (h0 := ?_) (hs := ?_) (round := ?_)
  · exact ⟨Nat.le_refl _, hIl, rfl⟩
  · dsimp only
    rw [show (((at_ + 1 : Nat) : Int)) - 1 = (at_ : Int) by omega]
    refine le_eq (by (repeat' first | exact .nil | refine .keep ?_ | refine .any ?_); first | done | fail) rfl rfl
  · intro ⟨i, is⟩ ⟨hi, hl, hg⟩
    dsimp only at hi hl hg ⊢
    cases i with
    | zero =>
      rw [usd] at hg
      rw [← hg]
      repeat' first
        | refine w_seq ?_
        | refine w_block ?_
        | refine rb_n ?_
        | refine rb_ret ?_
        | refine rb_eq ?_
        | refine rb_ne (by rfl) ?_
        | refine w_exit ?_
        | refine rt_exit ?_
        | refine w_region ?_
        | refine l_nil ?_
        | refine rt_n ?_
        | refine w_ret ?_
        | refine rt_ret ?_
        | refine w_skip ?_
        | refine w_cond_t rfl ?_
        | refine w_cond_f rfl ?_
        | refine w_cnd rfl (fun hc => ?_) (fun hc => ?_)
        | refine w_cd rfl (fun hc => ?_) (fun hc => ?_)
        | refine w_cn rfl (fun hc => ?_) (fun hc => ?_)
        | refine w_cond rfl (fun hc => ?_) (fun hc => ?_)
        | (exfalso; omega)
        | (refine l_o ?_; first | refine l_op (hk := ?_))
      refine en_end (hf := Try.results95) (hr := ?_); simp only [ne, nf, nl, nr, lget, reduceIte, Nat.reduceEqDiff]; first | rfl | refine congrArg RVb ?_ | refine congrArg RVi ?_ | skip
    | succ i =>
      rw [show (((i + 1 : Nat) : Int)) - 1 = (i : Int) by omega]
      have hif : i < f.length := by omega
      have hnd : nd f i = f[i] := gdp hif
      have oki := ok i
      rw [usd] at hg
      rw [hnd] at oki hg
      have hoL := oki.1.2
      have hoR := oki.2.2
      have hlL := sn_len oki.1.1 hoL
      have hlR := sn_len oki.2.1 hoR
      have hgi : is.getD i false = is[i] := gdp (by omega)
      cases hb : is[i] with
      | false =>
        rw [hgi, hb, if_neg (by simp)] at hg
        repeat' first
          | refine w_seq ?_
          | refine w_block ?_
          | refine rb_n ?_
          | refine rb_ret ?_
          | refine rb_eq ?_
          | refine rb_ne (by rfl) ?_
          | refine w_exit ?_
          | refine rt_exit ?_
          | refine w_region ?_
          | refine l_nil ?_
          | refine rt_n ?_
          | refine w_ret ?_
          | refine rt_ret ?_
          | refine w_skip ?_
          | refine w_cond_t rfl ?_
          | refine w_cond_f rfl ?_
          | refine w_cnd rfl (fun hc => ?_) (fun hc => ?_)
          | refine w_cd rfl (fun hc => ?_) (fun hc => ?_)
          | refine w_cn rfl (fun hc => ?_) (fun hc => ?_)
          | refine w_cond rfl (fun hc => ?_) (fun hc => ?_)
          | (exfalso; omega)
          | (refine l_o ?_; first | refine l_op rfl (by first | (apply k_sub; first | exact ops_sub (m := (i : Int)) (n := 1) rfl rfl (by omega) (by omega) | fail) | fail) (hk := ?_) | refine l_op (hk := ?_))
        all_goals first
          | (exfalso; simp_all; done)
          | skip
        refine rn_mk (i, is) ?_ (by first | omega | (dsimp only; omega)) (le_eq (by (repeat' first | exact .nil | refine .keep ?_ | refine .any ?_); first | done | fail) rfl rfl)
        exact ⟨by dsimp only; omega, hl, hg⟩
      | true =>
        rw [hgi, hb, if_pos rfl] at hg
        repeat' first
          | refine w_seq ?_
          | refine w_block ?_
          | refine rb_n ?_
          | refine rb_ret ?_
          | refine rb_eq ?_
          | refine rb_ne (by rfl) ?_
          | refine w_exit ?_
          | refine rt_exit ?_
          | refine w_region ?_
          | refine l_nil ?_
          | refine rt_n ?_
          | refine w_ret ?_
          | refine rt_ret ?_
          | refine w_skip ?_
          | refine w_cond_t rfl ?_
          | refine w_cond_f rfl ?_
          | refine w_cnd rfl (fun hc => ?_) (fun hc => ?_)
          | refine w_cd rfl (fun hc => ?_) (fun hc => ?_)
          | refine w_cn rfl (fun hc => ?_) (fun hc => ?_)
          | refine w_cond rfl (fun hc => ?_) (fun hc => ?_)
          | (exfalso; omega)
          | (refine l_o ?_; first | refine l_op (hk := ?_))
        all_goals first
          | (exfalso; simp_all; done)
          | skip
        refine w_loopm (ι := Nat) (fun q => [(33, RVn q), (8, .any)]) (fun q => [(13, 1, (mkL (f[i].1.take q) is).map RVb)]) (fun q => q ≤ f[i].1.length) (fun q => f[i].1.length - q) 0 (h0 := ?_) (hs := ?_) (round := ?_)
        · exact Nat.zero_le _
        · refine le_eq (by (repeat' first | exact .nil | refine .keep ?_ | refine .any ?_); first | done | fail) rfl rfl
        · intro q hq
          have hml := mkL_len (f[i].1.take q) is
          by_cases hql : q < f[i].1.length
          · have hx := hoL _ (List.getElem_mem hql)
            have e := mkL_snoc (f[i].1.take q) f[i].1[q] is
            rw [← take_next hql] at e
            generalize mkL (f[i].1.take q) is = M at *
            repeat' first
              | refine w_seq ?_
              | refine w_block ?_
              | refine rb_n ?_
              | refine rb_ret ?_
              | refine rb_eq ?_
              | refine rb_ne (by rfl) ?_
              | refine w_exit ?_
              | refine rt_exit ?_
              | refine w_region ?_
              | refine l_nil ?_
              | refine rt_n ?_
              | refine w_ret ?_
              | refine rt_ret ?_
              | refine w_skip ?_
              | refine w_cond_t rfl ?_
              | refine w_cond_f rfl ?_
              | refine w_cnd rfl (fun hc => ?_) (fun hc => ?_)
              | refine w_cd rfl (fun hc => ?_) (fun hc => ?_)
              | refine w_cn rfl (fun hc => ?_) (fun hc => ?_)
              | refine w_cond rfl (fun hc => ?_) (fun hc => ?_)
              | (exfalso; omega)
              | (refine l_o ?_; first | refine l_op (hk := ?_))
            rw [← e]
            refine rn_mk (q + 1) ?_ (by first | omega | (dsimp only; omega)) (le_eq (by (repeat' first | exact .nil | refine .keep ?_ | refine .any ?_); first | done | fail) rfl rfl)
            omega
          · obtain rfl : q = f[i].1.length := by omega
            rw [List.take_length] at hml ⊢
            generalize mkL f[i].1 is = M at *
            repeat' first
              | refine w_seq ?_
              | refine w_block ?_
              | refine rb_n ?_
              | refine rb_ret ?_
              | refine rb_eq ?_
              | refine rb_ne (by rfl) ?_
              | refine w_exit ?_
              | refine rt_exit ?_
              | refine w_region ?_
              | refine l_nil ?_
              | refine rt_n ?_
              | refine w_ret ?_
              | refine rt_ret ?_
              | refine w_skip ?_
              | refine w_cond_t rfl ?_
              | refine w_cond_f rfl ?_
              | refine w_cnd rfl (fun hc => ?_) (fun hc => ?_)
              | refine w_cd rfl (fun hc => ?_) (fun hc => ?_)
              | refine w_cn rfl (fun hc => ?_) (fun hc => ?_)
              | refine w_cond rfl (fun hc => ?_) (fun hc => ?_)
              | (exfalso; omega)
              | (refine l_o ?_; first | refine l_op (hk := ?_))
            refine w_loopm (ι := Nat) (fun q => [(47, RVn q), (10, .any)]) (fun q => [(13, 1, (mkL (f[i].2.take q) M).map RVb)]) (fun q => q ≤ f[i].2.length) (fun q => f[i].2.length - q) 0 (h0 := ?_) (hs := ?_) (round := ?_)
            · exact Nat.zero_le _
            · refine le_eq (by (repeat' first | exact .nil | refine .keep ?_ | refine .any ?_); first | done | fail) rfl rfl
            · intro q hq
              have hml2 := mkL_len (f[i].2.take q) M
              by_cases hql : q < f[i].2.length
              · have hx := hoR _ (List.getElem_mem hql)
                have e := mkL_snoc (f[i].2.take q) f[i].2[q] M
                rw [← take_next hql] at e
                generalize mkL (f[i].2.take q) M = M2 at *
                repeat' first
                  | refine w_seq ?_
                  | refine w_block ?_
                  | refine rb_n ?_
                  | refine rb_ret ?_
                  | refine rb_eq ?_
                  | refine rb_ne (by rfl) ?_
                  | refine w_exit ?_
                  | refine rt_exit ?_
                  | refine w_region ?_
                  | refine l_nil ?_
                  | refine rt_n ?_
                  | refine w_ret ?_
                  | refine rt_ret ?_
                  | refine w_skip ?_
                  | refine w_cond_t rfl ?_
                  | refine w_cond_f rfl ?_
                  | refine w_cnd rfl (fun hc => ?_) (fun hc => ?_)
                  | refine w_cd rfl (fun hc => ?_) (fun hc => ?_)
                  | refine w_cn rfl (fun hc => ?_) (fun hc => ?_)
                  | refine w_cond rfl (fun hc => ?_) (fun hc => ?_)
                  | (exfalso; omega)
                  | (refine l_o ?_; first | refine l_op (hk := ?_))
                rw [← e]
                refine rn_mk (q + 1) ?_ (by first | omega | (dsimp only; omega)) (le_eq (by (repeat' first | exact .nil | refine .keep ?_ | refine .any ?_); first | done | fail) rfl rfl)
                omega
              · obtain rfl : q = f[i].2.length := by omega
                rw [List.take_length] at hml2 ⊢
                generalize mkL f[i].2 M = M2 at *
                repeat' first
                  | refine w_seq ?_
                  | refine w_block ?_
                  | refine rb_n ?_
                  | refine rb_ret ?_
                  | refine rb_eq ?_
                  | refine rb_ne (by rfl) ?_
                  | refine w_exit ?_
                  | refine rt_exit ?_
                  | refine w_region ?_
                  | refine l_nil ?_
                  | refine rt_n ?_
                  | refine w_ret ?_
                  | refine rt_ret ?_
                  | refine w_skip ?_
                  | refine w_cond_t rfl ?_
                  | refine w_cond_f rfl ?_
                  | refine w_cnd rfl (fun hc => ?_) (fun hc => ?_)
                  | refine w_cd rfl (fun hc => ?_) (fun hc => ?_)
                  | refine w_cn rfl (fun hc => ?_) (fun hc => ?_)
                  | refine w_cond rfl (fun hc => ?_) (fun hc => ?_)
                  | (exfalso; omega)
                  | (refine l_o ?_; first | refine l_op rfl (by first | (apply k_sub; first | exact ops_sub (m := (i : Int)) (n := 1) rfl rfl (by omega) (by omega) | fail) | fail) (hk := ?_) | refine l_op (hk := ?_))
                refine rn_mk (i, M2) ?_ (by first | omega | (dsimp only; omega)) (le_eq (by (repeat' first | exact .nil | refine .keep ?_ | refine .any ?_); first | done | fail) rfl rfl)
                exact ⟨by dsimp only; omega, by dsimp only; omega, hg⟩
theorem reached_ok (f : List Nd) (ok : OkF f) (root : Nat) (hr : root < f.length) (hN : f.length ≤ 120) (X : RV) : FCr Try.prog 158 [.psh (.agg [.sh (f.map RNd), X]), RVn root] (OBs (usdF f root)) := by
  unfold usdF
  have hrl : (List.replicate (root + 1) false).length = root + 1 := List.length_replicate
  obtain ⟨I, hI⟩ : ∃ I, I = (List.replicate (root + 1) false).set root true := ⟨_, rfl⟩
  have hIl : I.length = root + 1 := by rw [hI]; simp
  refine (fcr_in Try.func158 rfl (by simp only [Try.ntmps158, anys, List.length_cons, List.length_nil, Nat.reduceAdd, Nat.reduceSub, List.replicate_succ, List.replicate_zero, List.cons_append, List.nil_append] <;> rfl) ?_)
  repeat' first
    | refine w_seq ?_
    | refine w_block ?_
    | refine rb_n ?_
    | refine rb_ret ?_
    | refine rb_eq ?_
    | refine rb_ne (by rfl) ?_
    | refine w_exit ?_
    | refine rt_exit ?_
    | refine w_region ?_
    | refine l_nil ?_
    | refine rt_n ?_
    | refine w_ret ?_
    | refine rt_ret ?_
    | refine w_skip ?_
    | refine w_cond_t rfl ?_
    | refine w_cond_f rfl ?_
    | refine w_cnd rfl (fun hc => ?_) (fun hc => ?_)
    | refine w_cd rfl (fun hc => ?_) (fun hc => ?_)
    | refine w_cn rfl (fun hc => ?_) (fun hc => ?_)
    | refine w_cond rfl (fun hc => ?_) (fun hc => ?_)
    | (refine l_o ?_; first | refine l_op rfl (by first | (apply k_add; first | exact ops_addn (a := root) (b := 1) rfl rfl (by omega) | fail) | fail) (hk := ?_) | refine l_op (hk := ?_))
  rw [← hI]
  clear hrl hI
  refine w_loopm (ι := Nat × List Bool) (fun q => [(6, RVi ((q.1 : Int) - 1)), (7, .any), (8, .any)]) (fun q => [(11, 1, q.2.map RVb)]) (fun q => q.1 ≤ root + 1 ∧ q.2.length = root + 1 ∧ usd f q.1 q.2 = usd f (root + 1) I) (fun q => q.1) (root + 1, I) (h0 := ?_) (hs := ?_) (round := ?_)
  · exact ⟨Nat.le_refl _, hIl, rfl⟩
  · dsimp only
    rw [show (((root + 1 : Nat) : Int)) - 1 = (root : Int) by omega]
    refine le_eq (by (repeat' first | exact .nil | refine .keep ?_ | refine .any ?_); first | done | fail) rfl rfl
  · intro ⟨i, is⟩ ⟨hi, hl, hg⟩
    dsimp only at hi hl hg ⊢
    cases i with
    | zero =>
      rw [usd] at hg
      rw [← hg]
      repeat' first
        | refine w_seq ?_
        | refine w_block ?_
        | refine rb_n ?_
        | refine rb_ret ?_
        | refine rb_eq ?_
        | refine rb_ne (by rfl) ?_
        | refine w_exit ?_
        | refine rt_exit ?_
        | refine w_region ?_
        | refine l_nil ?_
        | refine rt_n ?_
        | refine w_ret ?_
        | refine rt_ret ?_
        | refine w_skip ?_
        | refine w_cond_t rfl ?_
        | refine w_cond_f rfl ?_
        | refine w_cnd rfl (fun hc => ?_) (fun hc => ?_)
        | refine w_cd rfl (fun hc => ?_) (fun hc => ?_)
        | refine w_cn rfl (fun hc => ?_) (fun hc => ?_)
        | refine w_cond rfl (fun hc => ?_) (fun hc => ?_)
        | (exfalso; omega)
        | (refine l_o ?_; first | refine l_op rfl (by first | (apply k_nilCheck; first | exact ops_nilp rfl | fail) | fail) (hk := ?_) | refine l_op (hk := ?_))
      refine en_end (hf := Try.results158) (hr := ?_); simp only [ne, nf, nl, nr, lget, reduceIte, Nat.reduceEqDiff]; first | rfl | refine congrArg RVb ?_ | refine congrArg RVi ?_ | skip
    | succ i =>
      rw [show (((i + 1 : Nat) : Int)) - 1 = (i : Int) by omega]
      have hif : i < f.length := by omega
      have hnd : nd f i = f[i] := gdp hif
      have oki := ok i
      rw [usd] at hg
      rw [hnd] at oki hg
      have hoL := oki.1.2
      have hoR := oki.2.2
      have hlL := sn_len oki.1.1 hoL
      have hlR := sn_len oki.2.1 hoR
      have hgi : is.getD i false = is[i] := gdp (by omega)
      cases hb : is[i] with
      | false =>
        rw [hgi, hb, if_neg (by simp)] at hg
        repeat' first
          | refine w_seq ?_
          | refine w_block ?_
          | refine rb_n ?_
          | refine rb_ret ?_
          | refine rb_eq ?_
          | refine rb_ne (by rfl) ?_
          | refine w_exit ?_
          | refine rt_exit ?_
          | refine w_region ?_
          | refine l_nil ?_
          | refine rt_n ?_
          | refine w_ret ?_
          | refine rt_ret ?_
          | refine w_skip ?_
          | refine w_cond_t rfl ?_
          | refine w_cond_f rfl ?_
          | refine w_cnd rfl (fun hc => ?_) (fun hc => ?_)
          | refine w_cd rfl (fun hc => ?_) (fun hc => ?_)
          | refine w_cn rfl (fun hc => ?_) (fun hc => ?_)
          | refine w_cond rfl (fun hc => ?_) (fun hc => ?_)
          | (exfalso; omega)
          | (refine l_o ?_; first | refine l_op rfl (by first | (apply k_nilCheck; first | exact ops_nilp rfl | fail) | (apply k_sub; first | exact ops_sub (m := (i : Int)) (n := 1) rfl rfl (by omega) (by omega) | fail) | fail) (hk := ?_) | refine l_op (hk := ?_))
        all_goals first
          | (exfalso; simp_all; done)
          | skip
        refine rn_mk (i, is) ?_ (by first | omega | (dsimp only; omega)) (le_eq (by (repeat' first | exact .nil | refine .keep ?_ | refine .any ?_); first | done | fail) rfl rfl)
        exact ⟨by dsimp only; omega, hl, hg⟩
      | true =>
        rw [hgi, hb, if_pos rfl] at hg
        repeat' first
          | refine w_seq ?_
          | refine w_block ?_
          | refine rb_n ?_
          | refine rb_ret ?_
          | refine rb_eq ?_
          | refine rb_ne (by rfl) ?_
          | refine w_exit ?_
          | refine rt_exit ?_
          | refine w_region ?_
          | refine l_nil ?_
          | refine rt_n ?_
          | refine w_ret ?_
          | refine rt_ret ?_
          | refine w_skip ?_
          | refine w_cond_t rfl ?_
          | refine w_cond_f rfl ?_
          | refine w_cnd rfl (fun hc => ?_) (fun hc => ?_)
          | refine w_cd rfl (fun hc => ?_) (fun hc => ?_)
          | refine w_cn rfl (fun hc => ?_) (fun hc => ?_)
          | refine w_cond rfl (fun hc => ?_) (fun hc => ?_)
          | (exfalso; omega)
          | (refine l_o ?_; first | refine l_op rfl (by first | (apply k_nilCheck; first | exact ops_nilp rfl | fail) | fail) (hk := ?_) | refine l_op (hk := ?_))
        all_goals first
          | (exfalso; simp_all; done)
          | skip
        refine w_loopm (ι := Nat) (fun q => [(7, RVn q)]) (fun q => [(11, 1, (mkL (f[i].1.take q) is).map RVb)]) (fun q => q ≤ f[i].1.length) (fun q => f[i].1.length - q) 0 (h0 := ?_) (hs := ?_) (round := ?_)
        · exact Nat.zero_le _
        · refine le_eq (by (repeat' first | exact .nil | refine .keep ?_ | refine .any ?_); first | done | fail) rfl rfl
        · intro q hq
          have hml := mkL_len (f[i].1.take q) is
          by_cases hql : q < f[i].1.length
          · have hx := hoL _ (List.getElem_mem hql)
            have e := mkL_snoc (f[i].1.take q) f[i].1[q] is
            rw [← take_next hql] at e
            generalize mkL (f[i].1.take q) is = M at *
            repeat' first
              | refine w_seq ?_
              | refine w_block ?_
              | refine rb_n ?_
              | refine rb_ret ?_
              | refine rb_eq ?_
              | refine rb_ne (by rfl) ?_
              | refine w_exit ?_
              | refine rt_exit ?_
              | refine w_region ?_
              | refine l_nil ?_
              | refine rt_n ?_
              | refine w_ret ?_
              | refine rt_ret ?_
              | refine w_skip ?_
              | refine w_cond_t rfl ?_
              | refine w_cond_f rfl ?_
              | refine w_cnd rfl (fun hc => ?_) (fun hc => ?_)
              | refine w_cd rfl (fun hc => ?_) (fun hc => ?_)
              | refine w_cn rfl (fun hc => ?_) (fun hc => ?_)
              | refine w_cond rfl (fun hc => ?_) (fun hc => ?_)
              | (exfalso; omega)
              | (refine l_o ?_; first | refine l_op rfl (by first | (apply k_nilCheck; first | exact ops_nilp rfl | fail) | fail) (hk := ?_) | refine l_op (hk := ?_))
            rw [← e]
            refine rn_mk (q + 1) ?_ (by first | omega | (dsimp only; omega)) (le_eq (by (repeat' first | exact .nil | refine .keep ?_ | refine .any ?_); first | done | fail) rfl rfl)
            omega
          · obtain rfl : q = f[i].1.length := by omega
            rw [List.take_length] at hml ⊢
            generalize mkL f[i].1 is = M at *
            repeat' first
              | refine w_seq ?_
              | refine w_block ?_
              | refine rb_n ?_
              | refine rb_ret ?_
              | refine rb_eq ?_
              | refine rb_ne (by rfl) ?_
              | refine w_exit ?_
              | refine rt_exit ?_
              | refine w_region ?_
              | refine l_nil ?_
              | refine rt_n ?_
              | refine w_ret ?_
              | refine rt_ret ?_
              | refine w_skip ?_
              | refine w_cond_t rfl ?_
              | refine w_cond_f rfl ?_
              | refine w_cnd rfl (fun hc => ?_) (fun hc => ?_)
              | refine w_cd rfl (fun hc => ?_) (fun hc => ?_)
              | refine w_cn rfl (fun hc => ?_) (fun hc => ?_)
              | refine w_cond rfl (fun hc => ?_) (fun hc => ?_)
              | (exfalso; omega)
              | (refine l_o ?_; first | refine l_op rfl (by first | (apply k_nilCheck; first | exact ops_nilp rfl | fail) | fail) (hk := ?_) | refine l_op (hk := ?_))
            refine w_loopm (ι := Nat) (fun q => [(8, RVn q)]) (fun q => [(11, 1, (mkL (f[i].2.take q) M).map RVb)]) (fun q => q ≤ f[i].2.length) (fun q => f[i].2.length - q) 0 (h0 := ?_) (hs := ?_) (round := ?_)
            · exact Nat.zero_le _
            · refine le_eq (by (repeat' first | exact .nil | refine .keep ?_ | refine .any ?_); first | done | fail) rfl rfl
            · intro q hq
              have hml2 := mkL_len (f[i].2.take q) M
              by_cases hql : q < f[i].2.length
              · have hx := hoR _ (List.getElem_mem hql)
                have e := mkL_snoc (f[i].2.take q) f[i].2[q] M
                rw [← take_next hql] at e
                generalize mkL (f[i].2.take q) M = M2 at *
                repeat' first
                  | refine w_seq ?_
                  | refine w_block ?_
                  | refine rb_n ?_
                  | refine rb_ret ?_
                  | refine rb_eq ?_
                  | refine rb_ne (by rfl) ?_
                  | refine w_exit ?_
                  | refine rt_exit ?_
                  | refine w_region ?_
                  | refine l_nil ?_
                  | refine rt_n ?_
                  | refine w_ret ?_
                  | refine rt_ret ?_
                  | refine w_skip ?_
                  | refine w_cond_t rfl ?_
                  | refine w_cond_f rfl ?_
                  | refine w_cnd rfl (fun hc => ?_) (fun hc => ?_)
                  | refine w_cd rfl (fun hc => ?_) (fun hc => ?_)
                  | refine w_cn rfl (fun hc => ?_) (fun hc => ?_)
                  | refine w_cond rfl (fun hc => ?_) (fun hc => ?_)
                  | (exfalso; omega)
                  | (refine l_o ?_; first | refine l_op rfl (by first | (apply k_nilCheck; first | exact ops_nilp rfl | fail) | fail) (hk := ?_) | refine l_op (hk := ?_))
                rw [← e]
                refine rn_mk (q + 1) ?_ (by first | omega | (dsimp only; omega)) (le_eq (by (repeat' first | exact .nil | refine .keep ?_ | refine .any ?_); first | done | fail) rfl rfl)
                omega
              · obtain rfl : q = f[i].2.length := by omega
                rw [List.take_length] at hml2 ⊢
                generalize mkL f[i].2 M = M2 at *
                repeat' first
                  | refine w_seq ?_
                  | refine w_block ?_
                  | refine rb_n ?_
                  | refine rb_ret ?_
                  | refine rb_eq ?_
                  | refine rb_ne (by rfl) ?_
                  | refine w_exit ?_
                  | refine rt_exit ?_
                  | refine w_region ?_
                  | refine l_nil ?_
                  | refine rt_n ?_
                  | refine w_ret ?_
                  | refine rt_ret ?_
                  | refine w_skip ?_
                  | refine w_cond_t rfl ?_
                  | refine w_cond_f rfl ?_
                  | refine w_cnd rfl (fun hc => ?_) (fun hc => ?_)
                  | refine w_cd rfl (fun hc => ?_) (fun hc => ?_)
                  | refine w_cn rfl (fun hc => ?_) (fun hc => ?_)
                  | refine w_cond rfl (fun hc => ?_) (fun hc => ?_)
                  | (exfalso; omega)
                  | (refine l_o ?_; first | refine l_op rfl (by first | (apply k_nilCheck; first | exact ops_nilp rfl | fail) | (apply k_sub; first | exact ops_sub (m := (i : Int)) (n := 1) rfl rfl (by omega) (by omega) | fail) | fail) (hk := ?_) | refine l_op (hk := ?_))
                refine rn_mk (i, M2) ?_ (by first | omega | (dsimp only; omega)) (le_eq (by (repeat' first | exact .nil | refine .keep ?_ | refine .any ?_); first | done | fail) rfl rfl)
                exact ⟨by dsimp only; omega, by dsimp only; omega, hg⟩
end Go.Proofs.Ytdignmbeiohhiaa
