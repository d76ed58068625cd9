/- What the draws of the misere laws give: lists of at most 60 numbers. For all bytes. -/
import Derived.Test.YtmfbcipjknjicaaDrawM
namespace Go.Proofs.Ytmfbcipjknjicaa
open Eng
attribute [local irreducible] OpS OpG FC FCr Rel Fl Ef DR Fs
attribute [local simp] RV.fzR_names
set_option linter.unusedSimpArgs false
set_option linter.unusedVariables false
set_option maxHeartbeats 0
set_option maxRecDepth 100000

theorem drawMV_ok (code : List UInt8) : FC Try.prog 36 [RYs code] [] (fun rv O => ∃ x : List Int × List Int, (x.1.length ≤ 60 ∧ x.2.length ≤ 60) ∧ rv = .tup [OIs x.1, OIs x.2] ∧ O = []) := by
  have q1 := drawCode_ok ⟨code, 0, 0⟩ (by show (0 : Nat) ≤ _; omega)
  refine (fc_in Try.func36 rfl (by simp only [Try.ntmps36, anys, List.length_cons, List.length_nil, Nat.reduceAdd, Nat.reduceSub, List.replicate_succ, List.replicate_zero, List.cons_append, List.nil_append] <;> rfl) ?_)
  repeat' first
    | refine w_seq ?_
    | refine w_region ?_
    | refine l_nil ?_
    | refine rt_n ?_
    | refine w_ret ?_
    | refine rt_ret ?_
    | refine w_skip ?_
    | (refine l_o ?_; first | refine l_op (hk := ?_))
  refine l_callPx (MD 0) (fun x => OIs x.1) 8 (fun x => [RCur x.2]) q1 (hk := fun x hx => ?_)
  obtain ⟨a, c1⟩ := x
  obtain ⟨a1, a2⟩ := hx
  dsimp only at a1 a2 ⊢
  have p7 := among_ok c1 [8, 14, 20] (by omega) (by decide) (by decide)
  have a7 := pickC_at c1 ([8, 14, 20] : List Int).length
  have hr : ∃ m : Nat, ([8, 14, 20] : List Int).getD (pickV c1 ([8, 14, 20] : List Int).length) 0 = m ∧ 1 ≤ m ∧ m ≤ 100 := by
    have hv := pickV_lt c1 ([8, 14, 20] : List Int).length (by decide)
    generalize pickV c1 ([8, 14, 20] : List Int).length = v at *
    have hv : v < 3 := hv
    obtain rfl | rfl | rfl : v = 0 ∨ v = 1 ∨ v = 2 := by omega
    · exact ⟨8, rfl, by omega, by omega⟩
    · exact ⟨14, rfl, by omega, by omega⟩
    · exact ⟨20, rfl, by omega, by omega⟩
  obtain ⟨m, hm, hm1⟩ := hr
  rw [hm] at p7
  generalize pickC c1 ([8, 14, 20] : List Int).length = c2 at *
  repeat' first
    | refine w_seq ?_
    | refine w_region ?_
    | refine l_nil ?_
    | refine rt_n ?_
    | refine w_ret ?_
    | refine rt_ret ?_
    | refine w_skip ?_
    | (refine l_o ?_; first | refine l_op rfl (by first | (apply k_buildSlice; first | exact ops_buildSlice_fz (d := some 14) (k := 1) rfl rfl rfl (by decide) (by decide) (by kernel_rfl) (by decide +kernel) rfl | fail) | (apply k_callf; first | exact ops_callP (d := 15) 8 [RCur c2] (hfc := p7) | fail) | fail) (hk := ?_) | refine l_op (hk := ?_))
  have q2 := drawHeaps_ok c2 m hm1 (by omega)
  refine l_callPx (MD c2.at_) (fun x => OIs x.1) 8 (fun x => [RCur x.2]) q2 (hk := fun x hx => ?_)
  obtain ⟨b, c3⟩ := x
  obtain ⟨b1, b2⟩ := hx
  dsimp only at b1 b2 ⊢
  repeat' first
    | refine w_seq ?_
    | refine w_region ?_
    | refine l_nil ?_
    | refine rt_n ?_
    | refine w_ret ?_
    | refine rt_ret ?_
    | refine w_skip ?_
    | (refine l_o ?_; first | refine l_op (hk := ?_))
  refine en_ex (a, b) ⟨a1, b1⟩ ?_
  refine en_endm ([(8, 3, [RCur c3])]) (hf := Try.results36) (hO := ?_) (hr := ?_)
  · rfl
  · rfl
theorem drawMP_ok (code : List UInt8) : FC Try.prog 33 [RYs code] [] (fun rv O => ∃ x : List Int × List Int, (x.1.length ≤ 60 ∧ x.2.length ≤ 60) ∧ rv = .tup [OIs x.1, OIs x.2] ∧ O = []) := by
  have h1 := drawMV_ok code
  refine (fc_in Try.func33 rfl (by simp only [Try.ntmps33, anys, List.length_cons, List.length_nil, Nat.reduceAdd, Nat.reduceSub, List.replicate_succ, List.replicate_zero, List.cons_append, List.nil_append] <;> rfl) ?_)
  repeat' first
    | refine w_seq ?_
    | refine w_region ?_
    | refine l_nil ?_
    | refine rt_n ?_
    | refine w_ret ?_
    | refine rt_ret ?_
    | refine w_skip ?_
    | (refine l_o ?_; first | refine l_op (hk := ?_))
  refine l_callX _ _ h1 (hk := fun x hx => ?_)
  repeat' first
    | refine w_seq ?_
    | refine w_region ?_
    | refine l_nil ?_
    | refine rt_n ?_
    | refine w_ret ?_
    | refine rt_ret ?_
    | refine w_skip ?_
    | (refine l_o ?_; first | refine l_op (hk := ?_))
  refine en_ex x hx ?_
  refine en_endm [] (hf := Try.results33) (hO := ?_) (hr := ?_)
  · rfl
  · rfl
end Go.Proofs.Ytmfbcipjknjicaa
