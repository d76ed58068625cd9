/- The law of ReadLoop. For all texts. -/
import Derived.Test.YtpcckakchpblcaaDoorMarks
import Derived.Test.YtpcckakchpblcaaDoorRdLpP
namespace Go.Proofs.YtpcckakchpblcaaDoor
open Eng
attribute [local irreducible] OpS OpG FC FCr Rel Fl Ef DR Fs
attribute [local simp] RV.fzR_names
set_option linter.unusedSimpArgs false
set_option linter.unusedVariables false
set_option maxHeartbeats 0
set_option maxRecDepth 100000

theorem lens_small : ∀ (M : List (List Int)) (k : Nat), (∀ r ∈ M, r.length ≤ k) → lens M M.length ≤ M.length * k := fun M k h => lens_le_mul M k h
theorem readLp_lens (s : List UInt8) : lens (((readLp s).map (·.1)).getD []) (((readLp s).map (·.1)).getD []).length ≤ 864 ∧ lens (((readLp s).map (·.2)).getD []) (((readLp s).map (·.2)).getD []).length ≤ 864 := by
  cases h : readLp s with
  | none => constructor <;> decide
  | some q =>
    obtain ⟨a1, a2, a3, a4, a5⟩ := goodLp_small (readLp_good h)
    simp only [Option.map_some, Option.getD_some]
    have h1 := lens_small q.1 24 fun r hr => tgtOk_len (a4 r hr)
    have h2 := lens_small q.2 24 fun r hr => tgtOk_len (a5 r hr)
    omega
theorem lawRead_ok (s : List UInt8) : FCr Tryd.prog 4 [RV.str s] (RVb true) := by
  obtain ⟨c1, c2⟩ := readLp_len s
  obtain ⟨c3, c4⟩ := readLp_lens s
  have hS := specRead_ok s
  have hT := implRead_ok s
  rw [loose_eq] at hT
  generalize ((readLp s).map (·.1)).getD [] = A at *
  generalize ((readLp s).map (·.2)).getD [] = B at *
  generalize (readLp s).isSome = G at *
  have hA := markR_all 1 A
  have hB := markR_all (1 + lens A A.length) B
  have hh := heldLp_marked 1 A B
  have hH := heldLoop_ok (markR 1 A A.length) (markR (1 + lens A A.length) B B.length) 1 (by rw [markR_length]; omega) (by rw [markR_length]; omega) (by omega)
  rw [hh, hA.1, hB.1, if_pos rfl] at hH
  have l1 := markR_length 1 A A.length
  have l2 := markR_length (1 + lens A A.length) B B.length
  have t1 := List.take_of_length_le (l := (markR 1 A A.length).map OIs) (i := A.length) (by simp [l1])
  have t2 := List.take_of_length_le (l := (markR (1 + lens A A.length) B B.length).map OIs) (i := B.length) (by simp [l2])
  clear hA hB hh
  refine (fcr_in Tryd.func4 rfl (by simp only [Tryd.ntmps4, anys, List.length_cons, List.length_nil, Nat.reduceAdd, Nat.reduceSub, List.replicate_succ, List.replicate_zero, List.cons_append, List.nil_append] <;> rfl) ?_)
  repeat' first
    | refine w_seq ?_
    | refine w_region ?_
    | refine l_nil ?_
    | refine rt_n ?_
    | refine w_ret ?_
    | refine rt_ret ?_
    | refine w_skip ?_
    | refine w_cond_t rfl ?_
    | refine w_cond_f rfl ?_
    | refine w_cnd rfl (fun hc => ?_) (fun hc => ?_)
    | refine w_cd rfl (fun hc => ?_) (fun hc => ?_)
    | refine w_cn rfl (fun hc => ?_) (fun hc => ?_)
    | refine w_cond rfl (fun hc => ?_) (fun hc => ?_)
    | (refine l_o ?_; first | refine l_op rfl (by first | (apply k_callf; first | exact ops_callz (by simp [view1, viewC, olook, nz, nf, l1, l2, t1, t2]) rfl (by kernel_rfl) hH (by simp [ns]) | exact ops_callm2 (d := 35) 100001021 200001021 ((markR 1 A A.length).map OIs) ((markR (1 + lens A A.length) B B.length).map OIs) (by decide) rfl rfl rfl rfl (by kernel_rfl) (markLoop_ok A B 1 (by omega) (by omega) (by omega)) (by simp [nm]) (by simp [nm]) (by simp [ns]) (by simp [RV.resOkT, RV.resOk, RV.isAgg, nm]) (by simp [ns]) (by simp [nz, nm]) (by simp [nz, nm]) | exact ops_callv (d := 21) (hfc := hT) | exact ops_callz (hfc := hS) | exact ops_callz (hfc := hT) | exact ops_callz (hfc := eqLoop_ok A B A B) | fail) | fail) (hk := ?_) | refine l_op (hk := ?_) | (refine l_g ?_; first | refine l_y rfl rfl rfl ?_ | refine l_n rfl rfl rfl rfl (hk := ?_) | refine l_n' rfl rfl rfl (hk := ?_) | refine l_spnd rfl rfl rfl (h1 := fun hc => ?_) (h2 := fun hc => ?_) | refine l_spd rfl rfl rfl (h1 := fun hc => ?_) (h2 := fun hc => ?_) | refine l_spn rfl rfl rfl (h1 := fun hc => ?_) (h2 := fun hc => ?_) | refine l_sp rfl rfl rfl (h1 := fun hc => ?_) (h2 := fun hc => ?_)))
  all_goals first
    | exact absurd rfl hc
    | (exfalso; omega)
    | (refine en_one (hf := Tryd.results4) (h := ?_); simp only [lget]; first | refine congrArg RVb ?_ | refine congrArg RVi ?_ | skip; done)
    | trace_state
end Go.Proofs.YtpcckakchpblcaaDoor
