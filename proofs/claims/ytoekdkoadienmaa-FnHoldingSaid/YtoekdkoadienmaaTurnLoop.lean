/- Turned loops: the reference's, the program's; loops marked and looked at again. For all loops. -/
import Derived.Test.YtoekdkoadienmaaTurn
import Derived.Test.YtoekdkoadienmaaEd
namespace Go.Proofs.Ytoekdkoadienmaa
open Eng
attribute [local irreducible] OpS OpG FC FCr Rel Fl Ef DR Fs
set_option linter.unusedSimpArgs false
set_option maxHeartbeats 0
set_option maxRecDepth 100000

/-- A loop turned, where it is good. -/
def turnA (L R : List (List Int)) : List (List Int) := if goodLp L R then R else []
def turnB (L R : List (List Int)) : List (List Int) := if goodLp L R then L else []
theorem small_of {L R : List (List Int)} (h : goodLp L R = true) : (L.length ≤ 1099511627775 ∧ ∀ r ∈ L, r.length ≤ 1099511627776) ∧ R.length ≤ 1099511627775 ∧ ∀ r ∈ R, r.length ≤ 1099511627776 := by
  obtain ⟨h1, h2, h3, h4, h5⟩ := goodLp_small h
  refine ⟨⟨by omega, fun r hr => ?_⟩, by omega, fun r hr => ?_⟩
  · have := tgtOk_len (h4 r hr); omega
  · have := tgtOk_len (h5 r hr); omega

theorem implTurn_ok (L R : List (List Int)) : FCr Try.prog 40 [RLp L R] (.tup [OLp (turnA L R) (turnB L R), RVb (goodLp L R)]) := by
  cases hg : goodLp L R with
  | false =>
    have ha : turnA L R = [] := by simp [turnA, hg]
    have hb : turnB L R = [] := by simp [turnB, hg]
    rw [ha, hb]
    refine (fcr_in Try.func40 rfl (by simp only [Try.ntmps40, anys, List.length_cons, List.length_nil, Nat.reduceAdd, Nat.reduceSub, List.replicate_succ, List.replicate_zero, List.cons_append, List.nil_append] <;> rfl) ?_)
    repeat' first
      | refine w_seq ?_
      | refine w_region ?_
      | refine l_nil ?_
      | refine rt_n ?_
      | refine w_ret ?_
      | refine rt_ret ?_
      | refine w_skip ?_
      | refine w_cond_t rfl ?_
      | refine w_cond_f rfl ?_
      | refine w_cnd rfl (fun hc => ?_) (fun hc => ?_)
      | refine w_cd rfl (fun hc => ?_) (fun hc => ?_)
      | refine w_cn rfl (fun hc => ?_) (fun hc => ?_)
      | refine w_cond rfl (fun hc => ?_) (fun hc => ?_)
      | (refine l_o ?_; first | refine l_op rfl (by first | (apply k_callf; first | exact ops_callf (hfc := hg ▸ implGood_ok L R) | fail) | fail) (hk := ?_) | refine l_op (hk := ?_))
      | refine d_nil ?_
      | (refine d_o ?_; first | refine d_fl (hk := ?_) | refine d_ef rfl (by first | exact .callf (hfc := hg ▸ implGood_ok L R) | fail) (hk := ?_) | refine d_ef (hk := ?_))
      | (refine w_o ?_; first | refine w_draw (id := 3) (fun _ => true) (fun k => [2, 5, 7].contains k) [[], [], []] 64 (by kernel_rfl) rfl (by kernel_rfl) (by simp [nm, nset, -List.map_take, -List.map_drop]) ?_)
    refine en_endn ([OLp [] [], RVb false]) (hf := Try.results40) (hr := ?_); simp only [ne]; first | rfl | skip
  | true =>
    obtain ⟨⟨b1, b2⟩, b3, b4⟩ := small_of hg
    have ha : turnA L R = R := by simp [turnA, hg]
    have hb : turnB L R = L := by simp [turnB, hg]
    rw [ha, hb]
    refine (fcr_in Try.func40 rfl (by simp only [Try.ntmps40, anys, List.length_cons, List.length_nil, Nat.reduceAdd, Nat.reduceSub, List.replicate_succ, List.replicate_zero, List.cons_append, List.nil_append] <;> rfl) ?_)
    repeat' first
      | refine w_seq ?_
      | refine w_region ?_
      | refine l_nil ?_
      | refine rt_n ?_
      | refine w_ret ?_
      | refine rt_ret ?_
      | refine w_skip ?_
      | refine w_cond_t rfl ?_
      | refine w_cond_f rfl ?_
      | refine w_cnd rfl (fun hc => ?_) (fun hc => ?_)
      | refine w_cd rfl (fun hc => ?_) (fun hc => ?_)
      | refine w_cn rfl (fun hc => ?_) (fun hc => ?_)
      | refine w_cond rfl (fun hc => ?_) (fun hc => ?_)
      | (refine l_o ?_; first | refine l_op rfl (by first | (apply k_callf; first | exact ops_callf (hfc := hg ▸ implGood_ok L R) | exact ops_callv (hfc := copied_ok R b3 b4) | exact ops_callv (hfc := copied_ok L b1 b2) | fail) | fail) (hk := ?_) | refine l_op (hk := ?_))
      | refine d_nil ?_
      | (refine d_o ?_; first | refine d_fl (hk := ?_) | refine d_ef rfl (by first | exact .callf (hfc := hg ▸ implGood_ok L R) | exact .callv (hfc := copied_ok R b3 b4) | exact .callv (hfc := copied_ok L b1 b2) | fail) (hk := ?_) | refine d_ef (hk := ?_))
      | (refine w_o ?_; first | refine w_draw (id := 3) (roL [1]) (fun k => [2, 5, 6, 7].contains k) [[10], [13], [], []] 64 (by kernel_rfl) rfl (by kernel_rfl) (by simp [nm, nset, -List.map_take, -List.map_drop]) ?_)
    refine en_end (hf := Try.results40) (hr := ?_); simp only [ne, nf, nl, nr, lget, reduceIte, Nat.reduceEqDiff]; first | rfl | refine congrArg RVb ?_ | refine congrArg RVi ?_ | skip

end Go.Proofs.Ytoekdkoadienmaa
