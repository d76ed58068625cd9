/- The draw of LongestTurns' law; the law FnTurns answers true. For all bytes. -/
import Derived.Test.YtmplelnodamedaaStpAt
import Derived.Test.YtmplelnodamedaaTurnsLaw
namespace Go.Proofs.Ytmplelnodamedaa
open Eng
attribute [local irreducible] OpS OpG FC FCr Rel Fl Ef DR Fs
attribute [local simp] RV.fzR_names
set_option linter.unusedSimpArgs false
set_option maxHeartbeats 0
set_option maxRecDepth 100000

theorem drawLT_ok (code : List UInt8) : ∃ (L R : List (List Int)) (a : Int) (left : Bool), FCr Try.prog 14 [RYs code] (.tup [OLp L R, RVi a, RVb left]) := by
  have h1 := drawStp_ok (cur0 code) 6 (by simp) (by omega) (by omega)
  have a1 := drawStp_at (cur0 code) 6 (by omega) (by omega)
  have a0 : (cur0 code).at_ = 0 := rfl
  generalize drawStp (cur0 code) 6 = q at *
  obtain ⟨c1, L, R⟩ := q
  dsimp only at *
  have p1 := pick_ok c1 8 (by omega) (by omega)
  have k1 := pickC_at c1 8
  have v1 := pickV_lt c1 8 (by omega)
  generalize pickV c1 8 = x at *
  generalize pickC c1 8 = c3 at *
  have p2 := one_ok c3 2 (by omega) (by omega)
  generalize pickV c3 2 = y at *
  generalize pickC c3 2 = c4 at *
  refine ⟨L, R, (x : Int) - 1, decide (((y : Nat) : Int) = 0), ?_⟩
  refine (fcr_in Try.func14 rfl (by simp only [Try.ntmps14, anys, List.length_cons, List.length_nil, Nat.reduceAdd, Nat.reduceSub, List.replicate_succ, List.replicate_zero, List.cons_append, List.nil_append] <;> rfl) ?_)
  repeat' first
    | refine w_seq ?_
    | refine w_region ?_
    | refine l_nil ?_
    | refine rt_n ?_
    | refine w_ret ?_
    | refine rt_ret ?_
    | refine w_skip ?_
    | (refine l_o ?_; first | refine l_op rfl (by first | (apply k_sub; first | exact ops_sub (m := (x : Int)) (n := 1) rfl rfl (by omega) (by omega) | fail) | (apply k_callf; first | exact ops_callP (d := 11) 9 [RCur c1] (hfc := h1) | exact ops_callP (d := 14) 9 [RCur c3] (hfc := p1) | exact ops_callP (d := 17) 9 [RCur c4] (hfc := p2) | fail) | fail) (hk := ?_) | refine l_op (hk := ?_))
    | refine e_nil ?_
    | (refine e_o ?_; first | refine e_fl rfl (by first | exact .pl (by first | (apply q_sub; first | exact fs_sub (m := (x : Int)) (n := 1) rfl rfl (by omega) (by omega) | fail) | fail) | fail) (hk := ?_) | refine e_fl (hk := ?_) | refine e_ef rfl (by first | exact .callP (d := 11) 9 [RCur c1] (hfc := h1) | exact .callP (d := 14) 9 [RCur c3] (hfc := p1) | exact .callP (d := 17) 9 [RCur c4] (hfc := p2) | fail) (hk := ?_) | refine e_ef (hk := ?_))
    | (refine w_o ?_; first | refine w_drawS (id := 3) (rdP [(0, 6)]) (fun k => [2, 5, 6].contains k) [[],[],[]] (by kernel_rfl) rfl (by kernel_rfl) (by simp [nm, nset, -List.map_take, -List.map_drop]) ?_)
  refine en_le _ (le_drop 6 (by simp only [nz, nf, nl, nb, nr, ng, nq, nu, reduceIte, Nat.reduceEqDiff, Nat.reduceAdd]; rfl) (by simp only [nz, nf, nl, nb, nr, ng, nq, nu, reduceIte, Nat.reduceEqDiff, Nat.reduceAdd]; rfl)) ?_
  refine en_end (hf := Try.results14) (hr := ?_); simp only [ne, nf, nl, nr, lget, reduceIte, Nat.reduceEqDiff]; first | rfl | refine congrArg RVb ?_ | refine congrArg RVi ?_ | skip
theorem lawTurns_ok (code : List UInt8) : FCr Try.prog 4 [RYs code] (RVb true) := by
  obtain ⟨L, R, a, left, hD⟩ := drawLT_ok code
  exact lawTurns_of code hD
end Go.Proofs.Ytmplelnodamedaa
