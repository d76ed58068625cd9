/- The law FnHolding answers true. For all bytes. -/
import Derived.Test.YtoekdkoadienmaaMirror
import Derived.Test.YtoekdkoadienmaaDraws
import Derived.Test.YtoekdkoadienmaaSpecOut
import Derived.Test.YtoekdkoadienmaaTurnLoop
namespace Go.Proofs.Ytoekdkoadienmaa
open Eng
attribute [local irreducible] OpS OpG FC FCr Rel Fl Ef DR Fs
set_option linter.unusedSimpArgs false
set_option maxHeartbeats 0
set_option maxRecDepth 100000

theorem winner_three (L R : List (List Int)) (a : Int) (left : Bool) : winner L R a left = 0 ∨ winner L R a left = 1 ∨ winner L R a left = 2 := by
  unfold winner
  split
  · rcases finG_wf L R (stN a.toNat left) with h | h
    · left; rw [h]
    · right; exact h.1
  · exact .inl rfl
theorem pairsOk_turn (n : Int) : ∀ (A B : List (List Int)), A.length = B.length → pairsOk n A B = pairsOk n B A
  | [], [], _ => rfl
  | [], _ :: _, h => by simp at h
  | _ :: _, [], h => by simp at h
  | a :: A, b :: B, h => by
    simp only [pairsOk]
    rw [pairsOk_turn n A B (by simpa using h)]
    cases tgtOk n a <;> cases tgtOk n b <;> rfl
theorem good_turn {L R : List (List Int)} (h : goodLp L R = true) : goodLp R L = true := by
  obtain ⟨h1, h2, h3, _⟩ := goodLp_small h
  unfold goodLp at h ⊢
  rw [if_neg (by omega)] at h
  rw [if_neg (by omega), pairsOk_turn _ _ _ h3, h3]
  exact h
theorem lawHolding_ok (code : List UInt8) : FCr Try.prog 11 [RYs code] (RVb true) := by
  obtain ⟨L, R, a, left, who, h1, h2, hD⟩ := drawHolds_ok code
  have hB := rBig_ok code
  have hI := implHolds_ok L R a left who
  have hS := specHolds_ok L R a left who
  have hI2 := implHolds_ok L R a left (!who)
  cases ho : okAt L R a with
  | false =>
    rw [ho] at hI hS hI2
    refine (fcr_in Try.func11 rfl (by simp only [Try.ntmps11, anys, List.length_cons, List.length_nil, Nat.reduceAdd, Nat.reduceSub, List.replicate_succ, List.replicate_zero, List.cons_append, List.nil_append] <;> rfl) ?_)
    repeat' first
      | refine w_seq ?_
      | refine w_region ?_
      | refine l_nil ?_
      | refine rt_n ?_
      | refine w_ret ?_
      | refine rt_ret ?_
      | refine w_skip ?_
      | refine w_cond_t rfl ?_
      | refine w_cond_f rfl ?_
      | refine w_cnd rfl (fun hc => ?_) (fun hc => ?_)
      | refine w_cd rfl (fun hc => ?_) (fun hc => ?_)
      | refine w_cn rfl (fun hc => ?_) (fun hc => ?_)
      | refine w_cond rfl (fun hc => ?_) (fun hc => ?_)
      | (refine l_o ?_; first | refine l_eqnil rfl (by kernel_rfl) (by intro b; simp only [nz]; rfl) (fun b hb => ?_) | refine l_op rfl (by first | (apply k_callf; first | exact ops_callf (hfc := hB) | exact ops_callf (hfc := hD) | exact ops_callf (hfc := hI) | exact ops_callf (hfc := hS) | exact ops_callf (hfc := hI2) | fail) | fail) (hk := ?_) | refine l_op (hk := ?_) | (refine l_g ?_; first | refine l_y rfl rfl rfl ?_ | refine l_n rfl rfl rfl rfl (hk := ?_) | refine l_n' rfl rfl rfl (hk := ?_) | refine l_spnd rfl rfl rfl (h1 := fun hc => ?_) (h2 := fun hc => ?_) | refine l_spd rfl rfl rfl (h1 := fun hc => ?_) (h2 := fun hc => ?_) | refine l_spn rfl rfl rfl (h1 := fun hc => ?_) (h2 := fun hc => ?_) | refine l_sp rfl rfl rfl (h1 := fun hc => ?_) (h2 := fun hc => ?_)))
    all_goals refine en_one (hf := Try.results11) (h := ?_); simp only [lget]; first | refine congrArg RVb ?_ | refine congrArg RVi ?_ | skip
  | true =>
    have hT := implTurn_ok L R
    have hg := (okAt_good ho).1
    have ha : turnA L R = R := by simp [turnA, hg]
    have hb : turnB L R = L := by simp [turnB, hg]
    rw [ha, hb, hg] at hT
    have hI3 := implHolds_ok R L a (!left) (!who)
    have ho2 : okAt R L a = true := by
      have := okAt_good ho
      unfold okAt; rw [good_turn hg, (goodN hg).lenR]; simp; omega
    rw [ho] at hI hS hI2
    rw [ho2] at hI3
    have hw := winner_turn hg (good_turn hg) a left
    have h3 := winner_three L R a left
    generalize winner L R a left = w at *
    generalize winner R L a (!left) = w2 at *
    refine (fcr_in Try.func11 rfl (by simp only [Try.ntmps11, anys, List.length_cons, List.length_nil, Nat.reduceAdd, Nat.reduceSub, List.replicate_succ, List.replicate_zero, List.cons_append, List.nil_append] <;> rfl) ?_)
    repeat' first
      | refine w_seq ?_
      | refine w_region ?_
      | refine l_nil ?_
      | refine rt_n ?_
      | refine w_ret ?_
      | refine rt_ret ?_
      | refine w_skip ?_
      | refine w_cond_t rfl ?_
      | refine w_cond_f rfl ?_
      | refine w_cnd rfl (fun hc => ?_) (fun hc => ?_)
      | refine w_cd rfl (fun hc => ?_) (fun hc => ?_)
      | refine w_cn rfl (fun hc => ?_) (fun hc => ?_)
      | refine w_cond rfl (fun hc => ?_) (fun hc => ?_)
      | (refine l_o ?_; first | refine l_eqnil rfl (by kernel_rfl) (by intro b; simp only [nz]; rfl) (fun b hb => ?_) | refine l_op rfl (by first | (apply k_callf; first | exact ops_callf (hfc := hB) | exact ops_callf (hfc := hD) | exact ops_callf (hfc := hI) | exact ops_callf (hfc := hS) | exact ops_callf (hfc := hI2) | exact ops_callf (hfc := hT) | exact ops_callf (hfc := hI3) | fail) | fail) (hk := ?_) | refine l_op (hk := ?_) | (refine l_g ?_; first | refine l_y rfl rfl rfl ?_ | refine l_n rfl rfl rfl rfl (hk := ?_) | refine l_n' rfl rfl rfl (hk := ?_) | refine l_spnd rfl rfl rfl (h1 := fun hc => ?_) (h2 := fun hc => ?_) | refine l_spd rfl rfl rfl (h1 := fun hc => ?_) (h2 := fun hc => ?_) | refine l_spn rfl rfl rfl (h1 := fun hc => ?_) (h2 := fun hc => ?_) | refine l_sp rfl rfl rfl (h1 := fun hc => ?_) (h2 := fun hc => ?_)))
    all_goals first
      | exact absurd rfl hc
      | (exfalso; rcases h3 with rfl | rfl | rfl <;> cases who <;> simp_all; done)
      | ((refine en_one (hf := Try.results11) (h := ?_); simp only [lget]; first | refine congrArg RVb ?_ | refine congrArg RVi ?_ | skip); all_goals (rcases h3 with rfl | rfl | rfl <;> cases who <;> simp_all))
end Go.Proofs.Ytoekdkoadienmaa
