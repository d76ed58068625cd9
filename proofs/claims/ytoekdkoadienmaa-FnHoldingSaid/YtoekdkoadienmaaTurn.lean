/- Turned loops: what the reference and the program make of a loop is the same. For all loops. -/
import Derived.Test.YtoekdkoadienmaaGood
import Derived.Test.YtoekdkoadienmaaMarks
namespace Go.Proofs.Ytoekdkoadienmaa
open Eng
attribute [local irreducible] OpS OpG FC FCr Rel Fl Ef DR Fs
set_option linter.unusedSimpArgs false
set_option maxHeartbeats 0
set_option maxRecDepth 100000

theorem clone_ok (l : List Int) (h : l.length ≤ 1099511627776) : FCr Try.prog 78 [RIs l] (OIs l) := by
  refine (fcr_in Try.func78 rfl (by simp only [Try.ntmps78, anys, List.length_cons, List.length_nil, Nat.reduceAdd, Nat.reduceSub, List.replicate_succ, List.replicate_zero, List.cons_append, List.nil_append] <;> rfl) ?_)
  repeat' first
    | refine w_seq ?_
    | refine w_region ?_
    | refine l_nil ?_
    | refine rt_n ?_
    | refine w_ret ?_
    | refine rt_ret ?_
    | refine w_skip ?_
    | refine w_cond_t rfl ?_
    | refine w_cond_f rfl ?_
    | refine w_cnd rfl (fun hc => ?_) (fun hc => ?_)
    | refine w_cd rfl (fun hc => ?_) (fun hc => ?_)
    | refine w_cn rfl (fun hc => ?_) (fun hc => ?_)
    | refine w_cond rfl (fun hc => ?_) (fun hc => ?_)
    | (refine l_o ?_; first | refine l_eqnil rfl (by kernel_rfl) (by intro b; simp only [nz]; rfl) (fun b hb => ?_) | refine l_op (hk := ?_))
  · have hl : l = [] := by simpa using hb hc
    subst hl
    refine en_le _ (le_nil 2 100 1 (by omega) rfl (by simp [nm]) (by simp [nm]) (by simp only [nz]; rfl)) ?_
    refine en_end (hf := Try.results78) (hr := ?_); simp only [ne, nf, nl, nr, lget, reduceIte, Nat.reduceEqDiff]; first | rfl | refine congrArg RVb ?_ | refine congrArg RVi ?_ | skip
  · refine en_end (hf := Try.results78) (hr := ?_); simp only [ne, nf, nl, nr, lget, reduceIte, Nat.reduceEqDiff]; first | rfl | refine congrArg RVb ?_ | refine congrArg RVi ?_ | skip

theorem copied_ok (L : List (List Int)) (h : L.length ≤ 1099511627775) (hl : ∀ r ∈ L, r.length ≤ 1099511627776) : FCr Try.prog 66 [RIss L] (OIss L) := by
  refine (fcr_in Try.func66 rfl (by simp only [Try.ntmps66, anys, List.length_cons, List.length_nil, Nat.reduceAdd, Nat.reduceSub, List.replicate_succ, List.replicate_zero, List.cons_append, List.nil_append] <;> rfl) ?_)
  repeat' first
    | refine w_seq ?_
    | refine w_block ?_
    | refine rb_n ?_
    | refine rb_ret ?_
    | refine rb_eq ?_
    | refine rb_ne (by rfl) ?_
    | refine w_exit ?_
    | refine rt_exit ?_
    | refine w_region ?_
    | refine l_nil ?_
    | refine rt_n ?_
    | refine w_ret ?_
    | refine rt_ret ?_
    | refine w_skip ?_
    | refine w_cond_t rfl ?_
    | refine w_cond_f rfl ?_
    | refine w_cnd rfl (fun hc => ?_) (fun hc => ?_)
    | refine w_cd rfl (fun hc => ?_) (fun hc => ?_)
    | refine w_cn rfl (fun hc => ?_) (fun hc => ?_)
    | refine w_cond rfl (fun hc => ?_) (fun hc => ?_)
    | (refine l_o ?_; first | refine l_op (hk := ?_))
  refine w_loopm (ι := Nat × List (List Int)) (fun k => [(9, RVi k.1), (3, .ref 6 0 k.2.length), (6, .any)]) (fun k => [(6, 1, k.2.map OIs)]) (fun k => k.1 ≤ L.length ∧ k.2 = L.take k.1) (fun k => L.length - k.1) (0, []) (h0 := ?_) (hs := ?_) (round := ?_)
  · simp
  · refine le_eq (by (repeat' first | exact .nil | refine .keep ?_ | refine .any ?_); first | done | fail) rfl rfl
  · intro ⟨k, m⟩ ⟨hk, hm⟩
    dsimp only at hk hm ⊢
    have hml : m.length = k := by rw [hm]; simp; omega
    repeat' first
      | refine w_seq ?_
      | refine w_block ?_
      | refine rb_n ?_
      | refine rb_ret ?_
      | refine rb_eq ?_
      | refine rb_ne (by rfl) ?_
      | refine w_exit ?_
      | refine rt_exit ?_
      | refine w_region ?_
      | refine l_nil ?_
      | refine rt_n ?_
      | refine w_ret ?_
      | refine rt_ret ?_
      | refine w_skip ?_
      | refine w_cond_t rfl ?_
      | refine w_cond_f rfl ?_
      | refine w_cnd rfl (fun hc => ?_) (fun hc => ?_)
      | refine w_cd rfl (fun hc => ?_) (fun hc => ?_)
      | refine w_cn rfl (fun hc => ?_) (fun hc => ?_)
      | refine w_cond rfl (fun hc => ?_) (fun hc => ?_)
      | (refine l_o ?_; first | refine l_op rfl (by first | (apply k_callf; first | exact ops_callv (hfc := clone_ok _ (hl _ (List.getElem_mem _))) | fail) | fail) (hk := ?_) | refine l_op (hk := ?_))
    · refine rn_mk (k + 1, m ++ [L[k]]) ?_ (by first | omega | (dsimp only; omega)) (le_eq (by (repeat' first | exact .nil | refine .keep ?_ | refine .any ?_); first | done | fail) rfl rfl)
      exact ⟨by omega, by subst hm; rw [List.take_succ_eq_append_getElem (by omega)]⟩
    · refine en_end (hf := Try.results66) (hr := ?_); simp only [ne, nf, nl, nr, lget, reduceIte, Nat.reduceEqDiff]; first | rfl | refine congrArg RVb ?_ | refine congrArg RVi ?_ | skip
      rw [hm, List.take_of_length_le (by omega)]

end Go.Proofs.Ytoekdkoadienmaa
