/- WinningMoves of the program and of the reference. For all forms. -/
import Derived.Test.YtdignmbeiohhiaaFormX
import Derived.Test.YtdignmbeiohhiaaMarkF
namespace Go.Proofs.Ytdignmbeiohhiaa
open Eng
attribute [local irreducible] OpS OpG FC FCr Rel Fl Ef DR Fs
attribute [local simp] RV.fzR_names
set_option linter.unusedSimpArgs false
set_option maxHeartbeats 0
set_option maxRecDepth 100000

/-- Which of the options, the first k of them, lead where the other one doesn't win. -/
def wmv (R : List Bool) (l : List Nat) : Nat → List Nat
  | 0 => []
  | k + 1 => if R.getD (l.getD k 0) false = true then wmv R l k else wmv R l k ++ [k]
theorem wmv_len (R : List Bool) (l : List Nat) : ∀ k, (wmv R l k).length ≤ k
  | 0 => Nat.le_refl _
  | k + 1 => by
    have := wmv_len R l k
    unfold wmv
    split
    · omega
    · rw [List.length_append, List.length_singleton]; omega
def wmF (f : List Nd) (left : Bool) : List Nat :=
  if left then wmv (wn f f.length).2 (nd f (f.length - 1)).1 (nd f (f.length - 1)).1.length else wmv (wn f f.length).1 (nd f (f.length - 1)).2 (nd f (f.length - 1)).2.length
def wmoves (F : List NdI) (left : Bool) : List Nat := if goodF F = true then wmF (ndN F) left else []
theorem top_ok (f : List Nd) (h0 : 0 < f.length) (hN : f.length ≤ 120) : FCr Try.prog 111 [.agg [.sh (f.map RNd)]] (RNd (nd f (f.length - 1))) := by
  unfold nd
  rw [gdp (show f.length - 1 < f.length by omega)]
  refine (fcr_in Try.func111 rfl (by simp only [Try.ntmps111, anys, List.length_cons, List.length_nil, Nat.reduceAdd, Nat.reduceSub, List.replicate_succ, List.replicate_zero, List.cons_append, List.nil_append] <;> rfl) ?_)
  repeat' first
    | refine w_seq ?_
    | refine w_region ?_
    | refine l_nil ?_
    | refine rt_n ?_
    | refine w_ret ?_
    | refine rt_ret ?_
    | refine w_skip ?_
    | (refine l_o ?_; first | refine l_op rfl (by first | (apply k_sub; first | exact ops_subn (a := f.length) (b := 1) rfl rfl (by omega) (by omega) | fail) | fail) (hk := ?_) | refine l_op (hk := ?_))
  refine en_end (hf := Try.results111) (hr := ?_); simp only [ne, nf, nl, nr, lget, reduceIte, Nat.reduceEqDiff]; first | rfl | refine congrArg RVb ?_ | refine congrArg RVi ?_ | skip
theorem implWmv_ok (F : List NdI) (left : Bool) : FCr Try.prog 64 [RFm F, RVb left] (.tup [.ow 1 ((wmoves F left).map RVn), RVb (goodF F)]) := by
  have hG := implGoodF_ok F
  unfold wmoves
  cases hg : goodF F with
  | false =>
    rw [hg] at hG
    rw [if_neg (by simp)]
    refine (fcr_in Try.func64 rfl (by simp only [Try.ntmps64, anys, List.length_cons, List.length_nil, Nat.reduceAdd, Nat.reduceSub, List.replicate_succ, List.replicate_zero, List.cons_append, List.nil_append] <;> rfl) ?_)
    repeat' first
      | refine w_seq ?_
      | refine w_block ?_
      | refine rb_n ?_
      | refine rb_ret ?_
      | refine rb_eq ?_
      | refine rb_ne (by rfl) ?_
      | refine w_exit ?_
      | refine rt_exit ?_
      | refine w_region ?_
      | refine l_nil ?_
      | refine rt_n ?_
      | refine w_ret ?_
      | refine rt_ret ?_
      | refine w_skip ?_
      | refine w_cond_t rfl ?_
      | refine w_cond_f rfl ?_
      | refine w_cnd rfl (fun hc => ?_) (fun hc => ?_)
      | refine w_cd rfl (fun hc => ?_) (fun hc => ?_)
      | refine w_cn rfl (fun hc => ?_) (fun hc => ?_)
      | refine w_cond rfl (fun hc => ?_) (fun hc => ?_)
      | (refine l_o ?_; first | refine l_op rfl (by first | (apply k_callf; first | exact ops_callf (hfc := hG) | fail) | fail) (hk := ?_) | refine l_op (hk := ?_))
    refine en_endn ([.ow 1 [], RVb false]) (hf := Try.results64) (hr := ?_); simp only [ne]; first | rfl | skip
  | true =>
    rw [hg] at hG
    rw [if_pos rfl]
    have hF := gdF hg
    have hn1 := hF.n1
    have hn2 := hF.n2
    have hfl := ndN_len F
    have hB := wins_ok (ndN F) hF.okn.ok (by omega)
    have hT := top_ok (ndN F) (by omega) (by omega)
    have heq := hF.okn.eq
    have ok := hF.okn.ok ((ndN F).length - 1)
    have hoL := ok.1.2
    have hoR := ok.2.2
    have hlL := sn_len ok.1.1 hoL
    have hlR := sn_len ok.2.1 hoR
    unfold RFm at hG ⊢
    rw [heq] at hG ⊢
    rw [← hfl] at hn1 hn2
    obtain ⟨l1, l2⟩ := wn_len (ndN F) (ndN F).length
    unfold wmF
    generalize ndN F = f at *
    clear hfl heq ok hF
    generalize wn f f.length = q at *
    obtain ⟨P, Q⟩ := q
    generalize nd f (f.length - 1) = nn at *
    obtain ⟨nL, nR⟩ := nn
    dsimp only at *
    cases left with
    | true =>
      rw [if_pos rfl]
      refine (fcr_in Try.func64 rfl (by simp only [Try.ntmps64, anys, List.length_cons, List.length_nil, Nat.reduceAdd, Nat.reduceSub, List.replicate_succ, List.replicate_zero, List.cons_append, List.nil_append] <;> rfl) ?_)
      repeat' first
        | refine w_seq ?_
        | refine w_block ?_
        | refine rb_n ?_
        | refine rb_ret ?_
        | refine rb_eq ?_
        | refine rb_ne (by rfl) ?_
        | refine w_exit ?_
        | refine rt_exit ?_
        | refine w_region ?_
        | refine l_nil ?_
        | refine rt_n ?_
        | refine w_ret ?_
        | refine rt_ret ?_
        | refine w_skip ?_
        | refine w_cond_t rfl ?_
        | refine w_cond_f rfl ?_
        | refine w_cnd rfl (fun hc => ?_) (fun hc => ?_)
        | refine w_cd rfl (fun hc => ?_) (fun hc => ?_)
        | refine w_cn rfl (fun hc => ?_) (fun hc => ?_)
        | refine w_cond rfl (fun hc => ?_) (fun hc => ?_)
        | (refine l_o ?_; first | refine l_op rfl (by first | (apply k_callf; first | exact ops_callz (d := 20) (hfc := hB) | exact ops_callf (hfc := hG) | exact ops_callf (hfc := hT) | fail) | fail) (hk := ?_) | refine l_op (hk := ?_))
      refine w_loopm (ι := Nat × List Nat) (fun q => [(35, RVn q.1), (10, .ref 32 0 q.2.length), (32, .any), (11, .any), (12, .any)]) (fun q => [(32, 1, q.2.map RVn), (2, 1, [.agg [.sh (f.map RNd)]])]) (fun q => q.1 ≤ nL.length ∧ q.2 = wmv Q nL q.1) (fun q => nL.length - q.1) (0, []) (h0 := ?_) (hs := ?_) (round := ?_)
      · exact ⟨Nat.zero_le _, rfl⟩
      · refine le_eq (by (repeat' first | exact .nil | refine .keep ?_ | refine .any ?_); first | done | fail) rfl rfl
      · intro ⟨k, M⟩ ⟨hk, hM⟩
        dsimp only at hk hM ⊢
        have hml := wmv_len Q nL k
        rw [← hM] at hml
        by_cases hkl : k < nL.length
        · have hx := hoL _ (List.getElem_mem hkl)
          have e2 : wmv Q nL (k + 1) = if Q.getD (nL.getD k 0) false = true then wmv Q nL k else wmv Q nL k ++ [k] := rfl
          rw [gdp hkl, gdp (show nL[k] < Q.length by omega), ← hM] at e2
          cases hb : Q[nL[k]]'(by omega) with
          | true =>
            rw [hb, if_pos rfl] at e2
            repeat' first
              | refine w_seq ?_
              | refine w_block ?_
              | refine rb_n ?_
              | refine rb_ret ?_
              | refine rb_eq ?_
              | refine rb_ne (by rfl) ?_
              | refine w_exit ?_
              | refine rt_exit ?_
              | refine w_region ?_
              | refine l_nil ?_
              | refine rt_n ?_
              | refine w_ret ?_
              | refine rt_ret ?_
              | refine w_skip ?_
              | refine w_cond_t rfl ?_
              | refine w_cond_f rfl ?_
              | refine w_cnd rfl (fun hc => ?_) (fun hc => ?_)
              | refine w_cd rfl (fun hc => ?_) (fun hc => ?_)
              | refine w_cn rfl (fun hc => ?_) (fun hc => ?_)
              | refine w_cond rfl (fun hc => ?_) (fun hc => ?_)
              | (exfalso; omega)
              | (rw [hb])
              | (refine l_o ?_; first | refine l_op (hk := ?_))
            refine rn_mk (k + 1, M) ⟨by dsimp only; omega, e2.symm⟩ (by dsimp only; omega) ?_
            refine le_eq (by (repeat' first | exact .nil | refine .keep ?_ | refine .any ?_); first | done | fail) rfl rfl
          | false =>
            rw [hb, if_neg (show ¬ (false = true) by decide)] at e2
            repeat' first
              | refine w_seq ?_
              | refine w_block ?_
              | refine rb_n ?_
              | refine rb_ret ?_
              | refine rb_eq ?_
              | refine rb_ne (by rfl) ?_
              | refine w_exit ?_
              | refine rt_exit ?_
              | refine w_region ?_
              | refine l_nil ?_
              | refine rt_n ?_
              | refine w_ret ?_
              | refine rt_ret ?_
              | refine w_skip ?_
              | refine w_cond_t rfl ?_
              | refine w_cond_f rfl ?_
              | refine w_cnd rfl (fun hc => ?_) (fun hc => ?_)
              | refine w_cd rfl (fun hc => ?_) (fun hc => ?_)
              | refine w_cn rfl (fun hc => ?_) (fun hc => ?_)
              | refine w_cond rfl (fun hc => ?_) (fun hc => ?_)
              | (exfalso; omega)
              | (rw [hb])
              | (refine l_o ?_; first | refine l_op (hk := ?_))
            refine rn_mk (k + 1, M ++ [k]) ⟨by dsimp only; omega, e2.symm⟩ (by dsimp only; omega) ?_
            refine le_eq (by (repeat' first | exact .nil | refine .keep ?_ | refine .any ?_); first | done | fail) rfl rfl
        · obtain rfl : k = nL.length := by omega
          rw [← hM]
          repeat' first
            | refine w_seq ?_
            | refine w_block ?_
            | refine rb_n ?_
            | refine rb_ret ?_
            | refine rb_eq ?_
            | refine rb_ne (by rfl) ?_
            | refine w_exit ?_
            | refine rt_exit ?_
            | refine w_region ?_
            | refine l_nil ?_
            | refine rt_n ?_
            | refine w_ret ?_
            | refine rt_ret ?_
            | refine w_skip ?_
            | refine w_cond_t rfl ?_
            | refine w_cond_f rfl ?_
            | refine w_cnd rfl (fun hc => ?_) (fun hc => ?_)
            | refine w_cd rfl (fun hc => ?_) (fun hc => ?_)
            | refine w_cn rfl (fun hc => ?_) (fun hc => ?_)
            | refine w_cond rfl (fun hc => ?_) (fun hc => ?_)
            | (exfalso; omega)
            | (refine l_o ?_; first | refine l_op (hk := ?_))
          refine en_endn ([.ow 1 (M.map RVn), RVb true]) (hf := Try.results64) (hr := ?_); simp only [ne]; first | rfl | skip
    | false =>
      rw [if_neg (show ¬ (false = true) by decide)]
      refine (fcr_in Try.func64 rfl (by simp only [Try.ntmps64, anys, List.length_cons, List.length_nil, Nat.reduceAdd, Nat.reduceSub, List.replicate_succ, List.replicate_zero, List.cons_append, List.nil_append] <;> rfl) ?_)
      repeat' first
        | refine w_seq ?_
        | refine w_block ?_
        | refine rb_n ?_
        | refine rb_ret ?_
        | refine rb_eq ?_
        | refine rb_ne (by rfl) ?_
        | refine w_exit ?_
        | refine rt_exit ?_
        | refine w_region ?_
        | refine l_nil ?_
        | refine rt_n ?_
        | refine w_ret ?_
        | refine rt_ret ?_
        | refine w_skip ?_
        | refine w_cond_t rfl ?_
        | refine w_cond_f rfl ?_
        | refine w_cnd rfl (fun hc => ?_) (fun hc => ?_)
        | refine w_cd rfl (fun hc => ?_) (fun hc => ?_)
        | refine w_cn rfl (fun hc => ?_) (fun hc => ?_)
        | refine w_cond rfl (fun hc => ?_) (fun hc => ?_)
        | (refine l_o ?_; first | refine l_op rfl (by first | (apply k_callf; first | exact ops_callz (d := 20) (hfc := hB) | exact ops_callf (hfc := hG) | exact ops_callf (hfc := hT) | fail) | fail) (hk := ?_) | refine l_op (hk := ?_))
      refine w_loopm (ι := Nat × List Nat) (fun q => [(35, RVn q.1), (10, .ref 32 0 q.2.length), (32, .any), (11, .any), (12, .any)]) (fun q => [(32, 1, q.2.map RVn), (2, 1, [.agg [.sh (f.map RNd)]])]) (fun q => q.1 ≤ nR.length ∧ q.2 = wmv P nR q.1) (fun q => nR.length - q.1) (0, []) (h0 := ?_) (hs := ?_) (round := ?_)
      · exact ⟨Nat.zero_le _, rfl⟩
      · refine le_eq (by (repeat' first | exact .nil | refine .keep ?_ | refine .any ?_); first | done | fail) rfl rfl
      · intro ⟨k, M⟩ ⟨hk, hM⟩
        dsimp only at hk hM ⊢
        have hml := wmv_len P nR k
        rw [← hM] at hml
        by_cases hkl : k < nR.length
        · have hx := hoR _ (List.getElem_mem hkl)
          have e2 : wmv P nR (k + 1) = if P.getD (nR.getD k 0) false = true then wmv P nR k else wmv P nR k ++ [k] := rfl
          rw [gdp hkl, gdp (show nR[k] < P.length by omega), ← hM] at e2
          cases hb : P[nR[k]]'(by omega) with
          | true =>
            rw [hb, if_pos rfl] at e2
            repeat' first
              | refine w_seq ?_
              | refine w_block ?_
              | refine rb_n ?_
              | refine rb_ret ?_
              | refine rb_eq ?_
              | refine rb_ne (by rfl) ?_
              | refine w_exit ?_
              | refine rt_exit ?_
              | refine w_region ?_
              | refine l_nil ?_
              | refine rt_n ?_
              | refine w_ret ?_
              | refine rt_ret ?_
              | refine w_skip ?_
              | refine w_cond_t rfl ?_
              | refine w_cond_f rfl ?_
              | refine w_cnd rfl (fun hc => ?_) (fun hc => ?_)
              | refine w_cd rfl (fun hc => ?_) (fun hc => ?_)
              | refine w_cn rfl (fun hc => ?_) (fun hc => ?_)
              | refine w_cond rfl (fun hc => ?_) (fun hc => ?_)
              | (exfalso; omega)
              | (rw [hb])
              | (refine l_o ?_; first | refine l_op (hk := ?_))
            refine rn_mk (k + 1, M) ⟨by dsimp only; omega, e2.symm⟩ (by dsimp only; omega) ?_
            refine le_eq (by (repeat' first | exact .nil | refine .keep ?_ | refine .any ?_); first | done | fail) rfl rfl
          | false =>
            rw [hb, if_neg (show ¬ (false = true) by decide)] at e2
            repeat' first
              | refine w_seq ?_
              | refine w_block ?_
              | refine rb_n ?_
              | refine rb_ret ?_
              | refine rb_eq ?_
              | refine rb_ne (by rfl) ?_
              | refine w_exit ?_
              | refine rt_exit ?_
              | refine w_region ?_
              | refine l_nil ?_
              | refine rt_n ?_
              | refine w_ret ?_
              | refine rt_ret ?_
              | refine w_skip ?_
              | refine w_cond_t rfl ?_
              | refine w_cond_f rfl ?_
              | refine w_cnd rfl (fun hc => ?_) (fun hc => ?_)
              | refine w_cd rfl (fun hc => ?_) (fun hc => ?_)
              | refine w_cn rfl (fun hc => ?_) (fun hc => ?_)
              | refine w_cond rfl (fun hc => ?_) (fun hc => ?_)
              | (exfalso; omega)
              | (rw [hb])
              | (refine l_o ?_; first | refine l_op (hk := ?_))
            refine rn_mk (k + 1, M ++ [k]) ⟨by dsimp only; omega, e2.symm⟩ (by dsimp only; omega) ?_
            refine le_eq (by (repeat' first | exact .nil | refine .keep ?_ | refine .any ?_); first | done | fail) rfl rfl
        · obtain rfl : k = nR.length := by omega
          rw [← hM]
          repeat' first
            | refine w_seq ?_
            | refine w_block ?_
            | refine rb_n ?_
            | refine rb_ret ?_
            | refine rb_eq ?_
            | refine rb_ne (by rfl) ?_
            | refine w_exit ?_
            | refine rt_exit ?_
            | refine w_region ?_
            | refine l_nil ?_
            | refine rt_n ?_
            | refine w_ret ?_
            | refine rt_ret ?_
            | refine w_skip ?_
            | refine w_cond_t rfl ?_
            | refine w_cond_f rfl ?_
            | refine w_cnd rfl (fun hc => ?_) (fun hc => ?_)
            | refine w_cd rfl (fun hc => ?_) (fun hc => ?_)
            | refine w_cn rfl (fun hc => ?_) (fun hc => ?_)
            | refine w_cond rfl (fun hc => ?_) (fun hc => ?_)
            | (exfalso; omega)
            | (refine l_o ?_; first | refine l_op (hk := ?_))
          refine en_endn ([.ow 1 (M.map RVn), RVb true]) (hf := Try.results64) (hr := ?_); simp only [ne]; first | rfl | skip
theorem specWmv_ok (F : List NdI) (left : Bool) : FCr Try.prog 63 [RFm F, RVb left] (.tup [.ow 1 ((wmoves F left).map RVn), RVb (goodF F)]) := by
  have hG := specGoodF_ok F
  unfold wmoves
  cases hg : goodF F with
  | false =>
    rw [hg] at hG
    rw [if_neg (by simp)]
    refine (fcr_in Try.func63 rfl (by simp only [Try.ntmps63, anys, List.length_cons, List.length_nil, Nat.reduceAdd, Nat.reduceSub, List.replicate_succ, List.replicate_zero, List.cons_append, List.nil_append] <;> rfl) ?_)
    repeat' first
      | refine w_seq ?_
      | refine w_block ?_
      | refine rb_n ?_
      | refine rb_ret ?_
      | refine rb_eq ?_
      | refine rb_ne (by rfl) ?_
      | refine w_exit ?_
      | refine rt_exit ?_
      | refine w_region ?_
      | refine l_nil ?_
      | refine rt_n ?_
      | refine w_ret ?_
      | refine rt_ret ?_
      | refine w_skip ?_
      | refine w_cond_t rfl ?_
      | refine w_cond_f rfl ?_
      | refine w_cnd rfl (fun hc => ?_) (fun hc => ?_)
      | refine w_cd rfl (fun hc => ?_) (fun hc => ?_)
      | refine w_cn rfl (fun hc => ?_) (fun hc => ?_)
      | refine w_cond rfl (fun hc => ?_) (fun hc => ?_)
      | (refine l_o ?_; first | refine l_op rfl (by first | (apply k_callf; first | exact ops_callf (hfc := hG) | fail) | fail) (hk := ?_) | refine l_op (hk := ?_))
    refine en_endn ([.ow 1 [], RVb false]) (hf := Try.results63) (hr := ?_); simp only [ne]; first | rfl | skip
  | true =>
    rw [hg] at hG
    rw [if_pos rfl]
    have hF := gdF hg
    have hn1 := hF.n1
    have hn2 := hF.n2
    have hfl := ndN_len F
    have hB := l4Wins_ok (ndN F) hF.okn.ok (by omega)
    have heq := hF.okn.eq
    have ok := hF.okn.ok ((ndN F).length - 1)
    have hoL := ok.1.2
    have hoR := ok.2.2
    have hlL := sn_len ok.1.1 hoL
    have hlR := sn_len ok.2.1 hoR
    unfold RFm at hG ⊢
    rw [heq] at hG ⊢
    rw [← hfl] at hn1 hn2
    obtain ⟨l1, l2⟩ := wn_len (ndN F) (ndN F).length
    unfold wmF
    generalize ndN F = f at *
    clear hfl heq ok hF
    generalize wn f f.length = q at *
    obtain ⟨P, Q⟩ := q
    dsimp only at l1 l2 hB ⊢
    have hnn : f[f.length - 1]'(by omega) = nd f (f.length - 1) := (gdp (by omega)).symm
    generalize nd f (f.length - 1) = nn at *
    obtain ⟨nL, nR⟩ := nn
    dsimp only at *
    cases left with
    | true =>
      rw [if_pos rfl]
      refine (fcr_in Try.func63 rfl (by simp only [Try.ntmps63, anys, List.length_cons, List.length_nil, Nat.reduceAdd, Nat.reduceSub, List.replicate_succ, List.replicate_zero, List.cons_append, List.nil_append] <;> rfl) ?_)
      repeat' first
        | refine w_seq ?_
        | refine w_block ?_
        | refine rb_n ?_
        | refine rb_ret ?_
        | refine rb_eq ?_
        | refine rb_ne (by rfl) ?_
        | refine w_exit ?_
        | refine rt_exit ?_
        | refine w_region ?_
        | refine l_nil ?_
        | refine rt_n ?_
        | refine w_ret ?_
        | refine rt_ret ?_
        | refine w_skip ?_
        | refine w_cond_t rfl ?_
        | refine w_cond_f rfl ?_
        | refine w_cnd rfl (fun hc => ?_) (fun hc => ?_)
        | refine w_cd rfl (fun hc => ?_) (fun hc => ?_)
        | refine w_cn rfl (fun hc => ?_) (fun hc => ?_)
        | refine w_cond rfl (fun hc => ?_) (fun hc => ?_)
        | (simp only [hnn])
        | (refine l_o ?_; first | refine l_op rfl (by first | (apply k_sub; first | exact ops_subn (a := f.length) (b := 1) rfl rfl (by omega) (by omega) | fail) | (apply k_callf; first | exact ops_callf (d := 14) (hfc := hG) | exact ops_callz (d := 19) (hfc := hB) | fail) | fail) (hk := ?_) | refine l_op (hk := ?_))
      refine w_loopm (ι := Nat × List Nat) (fun q => [(10, RVn q.1), (6, .ref 12 0 q.2.length), (12, .any)]) (fun q => [(9, 2, [.agg [RNs nL, RNs nR]]), (12, 1, q.2.map RVn), (2, 1, [.agg [.sh (f.map RNd)]])]) (fun q => q.1 ≤ nL.length ∧ q.2 = wmv Q nL q.1) (fun q => nL.length - q.1) (0, []) (h0 := ?_) (hs := ?_) (round := ?_)
      · exact ⟨Nat.zero_le _, rfl⟩
      · refine le_eq (by (repeat' first | exact .nil | refine .keep ?_ | refine .any ?_); first | done | fail) rfl rfl
      · intro ⟨k, M⟩ ⟨hk, hM⟩
        dsimp only at hk hM ⊢
        have hml := wmv_len Q nL k
        rw [← hM] at hml
        by_cases hkl : k < nL.length
        · have hx := hoL _ (List.getElem_mem hkl)
          have e2 : wmv Q nL (k + 1) = if Q.getD (nL.getD k 0) false = true then wmv Q nL k else wmv Q nL k ++ [k] := rfl
          rw [gdp hkl, gdp (show nL[k] < Q.length by omega), ← hM] at e2
          cases hb : Q[nL[k]]'(by omega) with
          | true =>
            rw [hb, if_pos rfl] at e2
            repeat' first
              | refine w_seq ?_
              | refine w_block ?_
              | refine rb_n ?_
              | refine rb_ret ?_
              | refine rb_eq ?_
              | refine rb_ne (by rfl) ?_
              | refine w_exit ?_
              | refine rt_exit ?_
              | refine w_region ?_
              | refine l_nil ?_
              | refine rt_n ?_
              | refine w_ret ?_
              | refine rt_ret ?_
              | refine w_skip ?_
              | refine w_cond_t rfl ?_
              | refine w_cond_f rfl ?_
              | refine w_cnd rfl (fun hc => ?_) (fun hc => ?_)
              | refine w_cd rfl (fun hc => ?_) (fun hc => ?_)
              | refine w_cn rfl (fun hc => ?_) (fun hc => ?_)
              | refine w_cond rfl (fun hc => ?_) (fun hc => ?_)
              | (exfalso; omega)
              | (rw [hb])
              | (refine l_o ?_; first | refine l_op (hk := ?_))
            refine rn_mk (k + 1, M) ⟨by dsimp only; omega, e2.symm⟩ (by dsimp only; omega) ?_
            refine le_eq (by (repeat' first | exact .nil | refine .keep ?_ | refine .any ?_); first | done | fail) rfl rfl
          | false =>
            rw [hb, if_neg (show ¬ (false = true) by decide)] at e2
            repeat' first
              | refine w_seq ?_
              | refine w_block ?_
              | refine rb_n ?_
              | refine rb_ret ?_
              | refine rb_eq ?_
              | refine rb_ne (by rfl) ?_
              | refine w_exit ?_
              | refine rt_exit ?_
              | refine w_region ?_
              | refine l_nil ?_
              | refine rt_n ?_
              | refine w_ret ?_
              | refine rt_ret ?_
              | refine w_skip ?_
              | refine w_cond_t rfl ?_
              | refine w_cond_f rfl ?_
              | refine w_cnd rfl (fun hc => ?_) (fun hc => ?_)
              | refine w_cd rfl (fun hc => ?_) (fun hc => ?_)
              | refine w_cn rfl (fun hc => ?_) (fun hc => ?_)
              | refine w_cond rfl (fun hc => ?_) (fun hc => ?_)
              | (exfalso; omega)
              | (rw [hb])
              | (refine l_o ?_; first | refine l_op (hk := ?_))
            refine rn_mk (k + 1, M ++ [k]) ⟨by dsimp only; omega, e2.symm⟩ (by dsimp only; omega) ?_
            refine le_eq (by (repeat' first | exact .nil | refine .keep ?_ | refine .any ?_); first | done | fail) rfl rfl
        · obtain rfl : k = nL.length := by omega
          rw [← hM]
          repeat' first
            | refine w_seq ?_
            | refine w_block ?_
            | refine rb_n ?_
            | refine rb_ret ?_
            | refine rb_eq ?_
            | refine rb_ne (by rfl) ?_
            | refine w_exit ?_
            | refine rt_exit ?_
            | refine w_region ?_
            | refine l_nil ?_
            | refine rt_n ?_
            | refine w_ret ?_
            | refine rt_ret ?_
            | refine w_skip ?_
            | refine w_cond_t rfl ?_
            | refine w_cond_f rfl ?_
            | refine w_cnd rfl (fun hc => ?_) (fun hc => ?_)
            | refine w_cd rfl (fun hc => ?_) (fun hc => ?_)
            | refine w_cn rfl (fun hc => ?_) (fun hc => ?_)
            | refine w_cond rfl (fun hc => ?_) (fun hc => ?_)
            | (exfalso; omega)
            | (refine l_o ?_; first | refine l_op (hk := ?_))
          refine en_endn ([.ow 1 (M.map RVn), RVb true]) (hf := Try.results63) (hr := ?_); simp only [ne]; first | rfl | skip
    | false =>
      rw [if_neg (show ¬ (false = true) by decide)]
      refine (fcr_in Try.func63 rfl (by simp only [Try.ntmps63, anys, List.length_cons, List.length_nil, Nat.reduceAdd, Nat.reduceSub, List.replicate_succ, List.replicate_zero, List.cons_append, List.nil_append] <;> rfl) ?_)
      repeat' first
        | refine w_seq ?_
        | refine w_block ?_
        | refine rb_n ?_
        | refine rb_ret ?_
        | refine rb_eq ?_
        | refine rb_ne (by rfl) ?_
        | refine w_exit ?_
        | refine rt_exit ?_
        | refine w_region ?_
        | refine l_nil ?_
        | refine rt_n ?_
        | refine w_ret ?_
        | refine rt_ret ?_
        | refine w_skip ?_
        | refine w_cond_t rfl ?_
        | refine w_cond_f rfl ?_
        | refine w_cnd rfl (fun hc => ?_) (fun hc => ?_)
        | refine w_cd rfl (fun hc => ?_) (fun hc => ?_)
        | refine w_cn rfl (fun hc => ?_) (fun hc => ?_)
        | refine w_cond rfl (fun hc => ?_) (fun hc => ?_)
        | (simp only [hnn])
        | (refine l_o ?_; first | refine l_op rfl (by first | (apply k_sub; first | exact ops_subn (a := f.length) (b := 1) rfl rfl (by omega) (by omega) | fail) | (apply k_callf; first | exact ops_callf (d := 14) (hfc := hG) | exact ops_callz (d := 19) (hfc := hB) | fail) | fail) (hk := ?_) | refine l_op (hk := ?_))
      refine w_loopm (ι := Nat × List Nat) (fun q => [(11, RVn q.1), (6, .ref 12 0 q.2.length), (12, .any)]) (fun q => [(9, 2, [.agg [RNs nL, RNs nR]]), (12, 1, q.2.map RVn), (2, 1, [.agg [.sh (f.map RNd)]])]) (fun q => q.1 ≤ nR.length ∧ q.2 = wmv P nR q.1) (fun q => nR.length - q.1) (0, []) (h0 := ?_) (hs := ?_) (round := ?_)
      · exact ⟨Nat.zero_le _, rfl⟩
      · refine le_eq (by (repeat' first | exact .nil | refine .keep ?_ | refine .any ?_); first | done | fail) rfl rfl
      · intro ⟨k, M⟩ ⟨hk, hM⟩
        dsimp only at hk hM ⊢
        have hml := wmv_len P nR k
        rw [← hM] at hml
        by_cases hkl : k < nR.length
        · have hx := hoR _ (List.getElem_mem hkl)
          have e2 : wmv P nR (k + 1) = if P.getD (nR.getD k 0) false = true then wmv P nR k else wmv P nR k ++ [k] := rfl
          rw [gdp hkl, gdp (show nR[k] < P.length by omega), ← hM] at e2
          cases hb : P[nR[k]]'(by omega) with
          | true =>
            rw [hb, if_pos rfl] at e2
            repeat' first
              | refine w_seq ?_
              | refine w_block ?_
              | refine rb_n ?_
              | refine rb_ret ?_
              | refine rb_eq ?_
              | refine rb_ne (by rfl) ?_
              | refine w_exit ?_
              | refine rt_exit ?_
              | refine w_region ?_
              | refine l_nil ?_
              | refine rt_n ?_
              | refine w_ret ?_
              | refine rt_ret ?_
              | refine w_skip ?_
              | refine w_cond_t rfl ?_
              | refine w_cond_f rfl ?_
              | refine w_cnd rfl (fun hc => ?_) (fun hc => ?_)
              | refine w_cd rfl (fun hc => ?_) (fun hc => ?_)
              | refine w_cn rfl (fun hc => ?_) (fun hc => ?_)
              | refine w_cond rfl (fun hc => ?_) (fun hc => ?_)
              | (exfalso; omega)
              | (rw [hb])
              | (refine l_o ?_; first | refine l_op (hk := ?_))
            refine rn_mk (k + 1, M) ⟨by dsimp only; omega, e2.symm⟩ (by dsimp only; omega) ?_
            refine le_eq (by (repeat' first | exact .nil | refine .keep ?_ | refine .any ?_); first | done | fail) rfl rfl
          | false =>
            rw [hb, if_neg (show ¬ (false = true) by decide)] at e2
            repeat' first
              | refine w_seq ?_
              | refine w_block ?_
              | refine rb_n ?_
              | refine rb_ret ?_
              | refine rb_eq ?_
              | refine rb_ne (by rfl) ?_
              | refine w_exit ?_
              | refine rt_exit ?_
              | refine w_region ?_
              | refine l_nil ?_
              | refine rt_n ?_
              | refine w_ret ?_
              | refine rt_ret ?_
              | refine w_skip ?_
              | refine w_cond_t rfl ?_
              | refine w_cond_f rfl ?_
              | refine w_cnd rfl (fun hc => ?_) (fun hc => ?_)
              | refine w_cd rfl (fun hc => ?_) (fun hc => ?_)
              | refine w_cn rfl (fun hc => ?_) (fun hc => ?_)
              | refine w_cond rfl (fun hc => ?_) (fun hc => ?_)
              | (exfalso; omega)
              | (rw [hb])
              | (refine l_o ?_; first | refine l_op (hk := ?_))
            refine rn_mk (k + 1, M ++ [k]) ⟨by dsimp only; omega, e2.symm⟩ (by dsimp only; omega) ?_
            refine le_eq (by (repeat' first | exact .nil | refine .keep ?_ | refine .any ?_); first | done | fail) rfl rfl
        · obtain rfl : k = nR.length := by omega
          rw [← hM]
          repeat' first
            | refine w_seq ?_
            | refine w_block ?_
            | refine rb_n ?_
            | refine rb_ret ?_
            | refine rb_eq ?_
            | refine rb_ne (by rfl) ?_
            | refine w_exit ?_
            | refine rt_exit ?_
            | refine w_region ?_
            | refine l_nil ?_
            | refine rt_n ?_
            | refine w_ret ?_
            | refine rt_ret ?_
            | refine w_skip ?_
            | refine w_cond_t rfl ?_
            | refine w_cond_f rfl ?_
            | refine w_cnd rfl (fun hc => ?_) (fun hc => ?_)
            | refine w_cd rfl (fun hc => ?_) (fun hc => ?_)
            | refine w_cn rfl (fun hc => ?_) (fun hc => ?_)
            | refine w_cond rfl (fun hc => ?_) (fun hc => ?_)
            | (exfalso; omega)
            | (refine l_o ?_; first | refine l_op (hk := ?_))
          refine en_endn ([.ow 1 (M.map RVn), RVb true]) (hf := Try.results63) (hr := ?_); simp only [ne]; first | rfl | skip
end Go.Proofs.Ytdignmbeiohhiaa
