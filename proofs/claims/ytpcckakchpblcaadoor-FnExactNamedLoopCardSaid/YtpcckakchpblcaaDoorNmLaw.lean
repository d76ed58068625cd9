/- The law of NamedLoop. For all names. -/
import Derived.Test.YtpcckakchpblcaaDoorNamedI
import Derived.Test.YtpcckakchpblcaaDoorRdLpLaw
namespace Go.Proofs.YtpcckakchpblcaaDoor
open Eng
attribute [local irreducible] OpS OpG FC FCr Rel Fl Ef DR Fs
attribute [local simp] RV.fzR_names
set_option linter.unusedSimpArgs false
set_option linter.unusedVariables false
set_option maxHeartbeats 0
set_option maxRecDepth 100000

theorem lawNamed_ok (s : List UInt8) : FCr Tryd.prog 5 [RV.str s] (RVb true) := by
  have hc1 : (nmA (nmd s nmL txL)).length ≤ 36 ∧ (nmB (nmd s nmL txL)).length ≤ 36 ∧ lens (nmA (nmd s nmL txL)) (nmA (nmd s nmL txL)).length ≤ 864 ∧ lens (nmB (nmd s nmL txL)) (nmB (nmd s nmL txL)).length ≤ 864 := by
    cases nmd s nmL txL with
    | none => exact ⟨by decide, by decide, by decide, by decide⟩
    | some t => exact ⟨(readLp_len t).1, (readLp_len t).2, (readLp_lens t).1, (readLp_lens t).2⟩
  have hS := specNamed_ok s
  have hT := implNamed_ok s
  generalize nmA (nmd s nmL txL) = A at *
  generalize nmB (nmd s nmL txL) = B at *
  generalize nmI (nmd s nmL txL) = x at *
  generalize (nmd s nmL txL).isSome = G at *
  obtain ⟨c1, c2, c3, c4⟩ := hc1
  have hA := markR_all 1 A
  have hB := markR_all (1 + lens A A.length) B
  have hh := heldLp_marked 1 A B
  have hH := heldLoop_ok (markR 1 A A.length) (markR (1 + lens A A.length) B B.length) 1 (by rw [markR_length]; omega) (by rw [markR_length]; omega) (by omega)
  rw [hh, hA.1, hB.1, if_pos rfl] at hH
  have l1 := markR_length 1 A A.length
  have l2 := markR_length (1 + lens A A.length) B B.length
  have t1 := List.take_of_length_le (l := (markR 1 A A.length).map OIs) (i := A.length) (by simp [l1])
  have t2 := List.take_of_length_le (l := (markR (1 + lens A A.length) B B.length).map OIs) (i := B.length) (by simp [l2])
  clear hA hB hh
  refine (fcr_in Tryd.func5 rfl (by simp only [Tryd.ntmps5, anys, List.length_cons, List.length_nil, Nat.reduceAdd, Nat.reduceSub, List.replicate_succ, List.replicate_zero, List.cons_append, List.nil_append] <;> rfl) ?_)
  repeat' first
    | refine w_seq ?_
    | refine w_region ?_
    | refine l_nil ?_
    | refine rt_n ?_
    | refine w_ret ?_
    | refine rt_ret ?_
    | refine w_skip ?_
    | refine w_cond_t rfl ?_
    | refine w_cond_f rfl ?_
    | refine w_cnd rfl (fun hc => ?_) (fun hc => ?_)
    | refine w_cd rfl (fun hc => ?_) (fun hc => ?_)
    | refine w_cn rfl (fun hc => ?_) (fun hc => ?_)
    | refine w_cond rfl (fun hc => ?_) (fun hc => ?_)
    | (refine l_o ?_; first | refine l_op rfl (by first | (apply k_callf; first | exact ops_callz (by simp [view1, viewC, olook, nz, nf, l1, l2, t1, t2]) rfl (by kernel_rfl) hH (by simp [ns]) | exact ops_callm2 (d := 45) 100001025 200001025 ((markR 1 A A.length).map OIs) ((markR (1 + lens A A.length) B B.length).map OIs) (by decide) rfl rfl rfl rfl (by kernel_rfl) (markLoop_ok A B 1 (by omega) (by omega) (by omega)) (by simp [nm]) (by simp [nm]) (by simp [ns]) (by simp [RV.resOkT, RV.resOk, RV.isAgg, nm]) (by simp [ns]) (by simp [nz, nm]) (by simp [nz, nm]) | exact ops_callv (d := 25) (hfc := hT) | exact ops_callz (hfc := hS) | exact ops_callz (hfc := hT) | exact ops_callz (hfc := eqLoop_ok A B A B) | fail) | fail) (hk := ?_) | refine l_op (hk := ?_) | (refine l_g ?_; first | refine l_y rfl rfl rfl ?_ | refine l_n rfl rfl rfl rfl (hk := ?_) | refine l_n' rfl rfl rfl (hk := ?_) | refine l_spnd rfl rfl rfl (h1 := fun hc => ?_) (h2 := fun hc => ?_) | refine l_spd rfl rfl rfl (h1 := fun hc => ?_) (h2 := fun hc => ?_) | refine l_spn rfl rfl rfl (h1 := fun hc => ?_) (h2 := fun hc => ?_) | refine l_sp rfl rfl rfl (h1 := fun hc => ?_) (h2 := fun hc => ?_)))
  all_goals first
    | exact absurd rfl hc
    | (exfalso; omega)
    | (refine en_one (hf := Tryd.results5) (h := ?_); simp only [lget]; first | refine congrArg RVb ?_ | refine congrArg RVi ?_ | skip; done)
    | trace_state
end Go.Proofs.YtpcckakchpblcaaDoor
