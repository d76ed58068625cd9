/- The law FnExactGenus answers true. For all arguments. -/
import Derived.Test.YtmfbcipjknjicaaEd
import Derived.Test.YtmfbcipjknjicaaGenS
import Derived.Test.YtmfbcipjknjicaaJ46
import Derived.Test.YtmfbcipjknjicaaJ6
import Derived.Test.YtmfbcipjknjicaaMarks
namespace Go.Proofs.Ytmfbcipjknjicaa
open Eng
attribute [local irreducible] OpS OpG FC FCr Rel Fl Ef DR Fs
attribute [local simp] RV.fzR_names
set_option linter.unusedSimpArgs false
set_option linter.unusedVariables false
set_option maxHeartbeats 0
set_option maxRecDepth 100000

theorem lawGenus_ok (c h : List Int) : FCr Try.prog 4 [RIs c, RIs h] (RVb true) := by
  by_cases h1 : (1048576 : Int) < (c.length : Nat)
  · refine (fcr_in Try.func4 rfl (by simp only [Try.ntmps4, anys, List.length_cons, List.length_nil, Nat.reduceAdd, Nat.reduceSub, List.replicate_succ, List.replicate_zero, List.cons_append, List.nil_append] <;> rfl) ?_)
    repeat' first
      | refine w_seq ?_
      | refine w_region ?_
      | refine l_nil ?_
      | refine rt_n ?_
      | refine w_ret ?_
      | refine rt_ret ?_
      | refine w_skip ?_
      | refine w_cond_t rfl ?_
      | refine w_cond_f rfl ?_
      | refine w_cnd rfl (fun hc => ?_) (fun hc => ?_)
      | refine w_cd rfl (fun hc => ?_) (fun hc => ?_)
      | refine w_cn rfl (fun hc => ?_) (fun hc => ?_)
      | refine w_cond rfl (fun hc => ?_) (fun hc => ?_)
      | (exfalso; omega)
      | (refine l_o ?_; first | refine l_op (hk := ?_) | (refine l_g ?_; first | refine l_y rfl rfl rfl ?_ | refine l_n rfl rfl rfl rfl (hk := ?_) | refine l_n' rfl rfl rfl (hk := ?_) | refine l_spnd rfl rfl rfl (h1 := fun hc => ?_) (h2 := fun hc => ?_) | refine l_spd rfl rfl rfl (h1 := fun hc => ?_) (h2 := fun hc => ?_) | refine l_spn rfl rfl rfl (h1 := fun hc => ?_) (h2 := fun hc => ?_) | refine l_sp rfl rfl rfl (h1 := fun hc => ?_) (h2 := fun hc => ?_)))
    refine en_one (hf := Try.results4) (h := ?_); simp only [lget]; first | refine congrArg RVb ?_ | refine congrArg RVi ?_ | skip
  by_cases h2 : (1048576 : Int) < (h.length : Nat)
  · refine (fcr_in Try.func4 rfl (by simp only [Try.ntmps4, anys, List.length_cons, List.length_nil, Nat.reduceAdd, Nat.reduceSub, List.replicate_succ, List.replicate_zero, List.cons_append, List.nil_append] <;> rfl) ?_)
    repeat' first
      | refine w_seq ?_
      | refine w_region ?_
      | refine l_nil ?_
      | refine rt_n ?_
      | refine w_ret ?_
      | refine rt_ret ?_
      | refine w_skip ?_
      | refine w_cond_t rfl ?_
      | refine w_cond_f rfl ?_
      | refine w_cnd rfl (fun hc => ?_) (fun hc => ?_)
      | refine w_cd rfl (fun hc => ?_) (fun hc => ?_)
      | refine w_cn rfl (fun hc => ?_) (fun hc => ?_)
      | refine w_cond rfl (fun hc => ?_) (fun hc => ?_)
      | (exfalso; omega)
      | (refine l_o ?_; first | refine l_op (hk := ?_) | (refine l_g ?_; first | refine l_y rfl rfl rfl ?_ | refine l_n rfl rfl rfl rfl (hk := ?_) | refine l_n' rfl rfl rfl (hk := ?_) | refine l_spnd rfl rfl rfl (h1 := fun hc => ?_) (h2 := fun hc => ?_) | refine l_spd rfl rfl rfl (h1 := fun hc => ?_) (h2 := fun hc => ?_) | refine l_spn rfl rfl rfl (h1 := fun hc => ?_) (h2 := fun hc => ?_) | refine l_sp rfl rfl rfl (h1 := fun hc => ?_) (h2 := fun hc => ?_)))
    refine en_one (hf := Try.results4) (h := ?_); simp only [lget]; first | refine congrArg RVb ?_ | refine congrArg RVi ?_ | skip
  have hI := genus_ok c h (by omega) (by omega) (fun hg n hn => gv_255 hg hn)
  have hS := sGenus_ok c h (by omega) (by omega) (fun hg n hn => gv_255 hg hn)
  obtain ⟨A, o, hAl, eA⟩ : ∃ (A : List Int) (o : Bool), A.length ≤ 5 ∧ (if gcode c && ghp h && decide (h.sum ≤ 12) then RV.tup [.ow 1 ((gnI c h).map RVi), RVb true] else .tup [.ow 1 [], RVb false]) = .tup [.ow 1 (A.map RVi), RVb o] := by
    split
    · exact ⟨gnI c h, true, by simp [gnI], rfl⟩
    · exact ⟨[], false, by simp, rfl⟩
  rw [eA] at hI hS
  have hH := heldIntS_ok (fromN 1 A.length) 1 (by rw [fromN_length]; omega)
  rw [heldI_fromN, fromN_length, if_pos rfl] at hH
  have l1 := fromN_length 1 A.length
  have t1 := List.take_of_length_le (l := (fromN 1 A.length).map RVi) (i := A.length) (by simp [l1])
  have hm0 := markIntS_ok c 1 (by omega)
  have hm1 := markIntS_ok h (1 + c.length) (by omega)
  have hmA := markIntS_ok A 1 (by omega)
  refine (fcr_in Try.func4 rfl (by simp only [Try.ntmps4, anys, List.length_cons, List.length_nil, Nat.reduceAdd, Nat.reduceSub, List.replicate_succ, List.replicate_zero, List.cons_append, List.nil_append] <;> rfl) ?_)
  repeat' first
    | refine w_seq ?_
    | refine w_region ?_
    | refine l_nil ?_
    | refine rt_n ?_
    | refine w_ret ?_
    | refine rt_ret ?_
    | refine w_skip ?_
    | refine w_cond_t rfl ?_
    | refine w_cond_f rfl ?_
    | refine w_cnd rfl (fun hc => ?_) (fun hc => ?_)
    | refine w_cd rfl (fun hc => ?_) (fun hc => ?_)
    | refine w_cn rfl (fun hc => ?_) (fun hc => ?_)
    | refine w_cond rfl (fun hc => ?_) (fun hc => ?_)
    | (exfalso; omega)
    | (exfalso; exact absurd rfl hc)
    | (refine l_o ?_; first | refine l_op rfl (by first | (apply k_callf; first | exact ops_callP (d := 61) 31 ((fromN 1 c.length).map RVi) (hfc := hm0) | exact ops_callP (d := 64) 33 ((fromN (1 + c.length) h.length).map RVi) (hfc := hm1) | exact ops_callP (d := 80) 1037 ((fromN 1 A.length).map RVi) (hfc := hmA) | exact ops_callz (by simp [view1, viewC, olook, nz, nf, l1, t1]) rfl (by kernel_rfl) hH (by simp [ns]) | exact ops_callf (d := 24) (hfc := toIntS_ok c (by omega)) | exact ops_callf (d := 26) (hfc := toIntS_ok h (by omega)) | exact ops_callf (d := 27) (hfc := hS) | exact ops_callv (d := 31) (hfc := toIntS_ok c (by omega)) | exact ops_callv (d := 33) (hfc := toIntS_ok h (by omega)) | exact ops_callv (d := 37) (hfc := hI) | exact ops_callz (d := 42) (hfc := eqIntS_ok A A) | exact ops_callf (d := 51) (hfc := toIntS_ok c (by omega)) | exact ops_callz (d := 52) (hfc := eqIntS_ok c c) | exact ops_callf (d := 56) (hfc := toIntS_ok h (by omega)) | exact ops_callz (d := 57) (hfc := eqIntS_ok h h) | exact ops_callz (d := 70) (hfc := eqIntS_ok A A) | exact ops_callf (d := 91) (hfc := toIntS_ok c (by omega)) | exact ops_callf (d := 93) (hfc := toIntS_ok h (by omega)) | exact ops_callf (d := 94) (hfc := hI) | exact ops_callz (d := 99) (hfc := eqIntS_ok A A) | fail) | fail) (hk := ?_) | refine l_op (hk := ?_) | (refine l_g ?_; first | refine l_y rfl rfl rfl ?_ | refine l_n rfl rfl rfl rfl (hk := ?_) | refine l_n' rfl rfl rfl (hk := ?_) | refine l_spnd rfl rfl rfl (h1 := fun hc => ?_) (h2 := fun hc => ?_) | refine l_spd rfl rfl rfl (h1 := fun hc => ?_) (h2 := fun hc => ?_) | refine l_spn rfl rfl rfl (h1 := fun hc => ?_) (h2 := fun hc => ?_) | refine l_sp rfl rfl rfl (h1 := fun hc => ?_) (h2 := fun hc => ?_)))
  all_goals first
    | exact absurd rfl hc
    | (exfalso; omega)
    | (refine en_one (hf := Try.results4) (h := ?_); simp only [lget]; first | refine congrArg RVb ?_ | refine congrArg RVi ?_ | skip; done)
    | trace_state
end Go.Proofs.Ytmfbcipjknjicaa
/- What the parameters of the laws on loops read. No condition. -/
namespace Go.Proofs.Ytmfbcipjknjicaa
open Eng Go.ChangeShapes Go.WideShapes Go.ChangeAt Go.RowKit
set_option maxHeartbeats 0
set_option maxRecDepth 100000

theorem own : ownKnob Try.prog.godebug = none := by kernel_rfl
theorem laidOut : laidOutB Try.prog = true := by kernel_rfl

theorem head_cut : (behindMainWord (wordsSigns Try.prog.initOrder.toList)).head? = some "cut".toList := by
  have h := toList_of (s := Try.prog.initOrder) (_ :: _ :: _ :: _ :: _ :: _ :: _ :: _ :: _ :: _ :: _ :: _ :: _ :: _ :: _ :: _ :: _ :: _ :: _ :: _ :: _ :: _ :: _ :: _ :: _ :: _ :: _ :: _ :: _ :: _ :: _ :: _ :: _ :: _ :: _ :: _ :: _ :: _ :: _ :: _ :: _ :: _ :: _ :: _ :: _ :: _ :: _ :: _ :: _ :: _ :: _ :: _ :: _ :: _ :: _ :: _ :: _ :: _ :: _ :: _ :: _ :: _ :: _ :: _ :: _ :: _ :: _ :: _ :: _ :: _ :: _ :: _ :: _ :: _ :: _ :: _ :: _ :: _ :: _ :: _) rfl
  generalize Try.prog.initOrder.toList = l at h ⊢
  subst h
  decide +kernel
theorem p_make : Try.prog.make = some .cut := cut_make head_cut
theorem p_final : Try.prog.liftsFinal = false := cut_final head_cut
theorem p_enter : Try.prog.mayEnter = true := cut_enter head_cut (by decide +kernel) (by decide +kernel) (by decide +kernel)
end Go.Proofs.Ytmfbcipjknjicaa
/- What the parameters of the misere laws read: lists of numbers, boxes. No condition. -/
namespace Go.Proofs.Ytmfbcipjknjicaa
open Eng Go.ChangeShapes Go.WideShapes Go.ChangeAt Go.RowKit
set_option maxHeartbeats 0
set_option maxRecDepth 100000

theorem prd_ints : PRd Try.prog 24 RIs (fun l => l.length ≤ maxLen ∧ ∀ n ∈ l, (Lit.int .i64 n).wf = true) := prd_slice Try.underlying24 (by kernel_rfl) (by omega) (reads_int Try.underlying3)
end Go.Proofs.Ytmfbcipjknjicaa
