/- Lists of ints marked and looked at again, as the drawn laws do it. For all lists of the lengths that the theorem names. -/
import Derived.Test.YtmfbcipjknjicaaEd
import Derived.Test.YtmfbcipjknjicaaJ7
import Derived.Test.YtmfbcipjknjicaaSpY
namespace Go.Proofs.Ytmfbcipjknjicaa
open Eng
attribute [local irreducible] OpS OpG FC FCr Rel Fl Ef DR Fs
set_option linter.unusedSimpArgs false
set_option maxHeartbeats 0
set_option maxRecDepth 100000

end Go.Proofs.Ytmfbcipjknjicaa
/- The law FnExactClassSum answers true. For all arguments. -/
namespace Go.Proofs.Ytmfbcipjknjicaa
open Eng
attribute [local irreducible] OpS OpG FC FCr Rel Fl Ef DR Fs
attribute [local simp] RV.fzR_names
set_option linter.unusedSimpArgs false
set_option linter.unusedVariables false
set_option maxHeartbeats 0
set_option maxRecDepth 100000

theorem toBox_ok (s m : Int) : FCr Try.prog 23 [RBx s m] (RBx s m) := by
  refine (fcr_in Try.func23 rfl (by simp only [Try.ntmps23, anys, List.length_cons, List.length_nil, Nat.reduceAdd, Nat.reduceSub, List.replicate_succ, List.replicate_zero, List.cons_append, List.nil_append] <;> rfl) ?_)
  repeat' first
    | refine w_seq ?_
    | refine w_region ?_
    | refine l_nil ?_
    | refine rt_n ?_
    | refine w_ret ?_
    | refine rt_ret ?_
    | refine w_skip ?_
    | (refine l_o ?_; first | refine l_op (hk := ?_))
  refine en_end (hf := Try.results23) (hr := ?_); simp only [ne, nf, nl, nr, lget, reduceIte, Nat.reduceEqDiff]; first | rfl | refine congrArg RVb ?_ | refine congrArg RVi ?_ | skip
theorem lawCS_ok (c : List Int) (s m i k : Int) : FCr Try.prog 5 [RIs c, RBx s m, RVi i, RVi k] (RVb true) := by
  by_cases h1 : (1048576 : Int) < (c.length : Nat)
  · refine (fcr_in Try.func5 rfl (by simp only [Try.ntmps5, anys, List.length_cons, List.length_nil, Nat.reduceAdd, Nat.reduceSub, List.replicate_succ, List.replicate_zero, List.cons_append, List.nil_append] <;> rfl) ?_)
    repeat' first
      | refine w_seq ?_
      | refine w_region ?_
      | refine l_nil ?_
      | refine rt_n ?_
      | refine w_ret ?_
      | refine rt_ret ?_
      | refine w_skip ?_
      | refine w_cond_t rfl ?_
      | refine w_cond_f rfl ?_
      | refine w_cnd rfl (fun hc => ?_) (fun hc => ?_)
      | refine w_cd rfl (fun hc => ?_) (fun hc => ?_)
      | refine w_cn rfl (fun hc => ?_) (fun hc => ?_)
      | refine w_cond rfl (fun hc => ?_) (fun hc => ?_)
      | (exfalso; omega)
      | (refine l_o ?_; first | refine l_op (hk := ?_) | (refine l_g ?_; first | refine l_y rfl rfl rfl ?_ | refine l_n rfl rfl rfl rfl (hk := ?_) | refine l_n' rfl rfl rfl (hk := ?_) | refine l_spnd rfl rfl rfl (h1 := fun hc => ?_) (h2 := fun hc => ?_) | refine l_spd rfl rfl rfl (h1 := fun hc => ?_) (h2 := fun hc => ?_) | refine l_spn rfl rfl rfl (h1 := fun hc => ?_) (h2 := fun hc => ?_) | refine l_sp rfl rfl rfl (h1 := fun hc => ?_) (h2 := fun hc => ?_)))
      | refine d_nil ?_
      | (refine d_o ?_; first | refine d_fl (hk := ?_) | refine d_ef (hk := ?_) | (refine d_g ?_; first | refine d_spnd rfl rfl rfl (h1 := fun hc => ?_) (h2 := fun hc => ?_) | refine d_spd rfl rfl rfl (h1 := fun hc => ?_) (h2 := fun hc => ?_) | refine d_spn rfl rfl rfl (h1 := fun hc => ?_) (h2 := fun hc => ?_) | refine d_sp rfl rfl rfl (h1 := fun hc => ?_) (h2 := fun hc => ?_)))
      | (refine w_o ?_; first | refine w_draw (id := 3) (fun _ => true) (fun k => [1, 3, 6].contains k) [[], [], []] 64 (by kernel_rfl) rfl (by kernel_rfl) (by simp [nm, nset, -List.map_take, -List.map_drop]) ?_)
    refine en_one (hf := Try.results5) (h := ?_); simp only [lget]; first | refine congrArg RVb ?_ | refine congrArg RVi ?_ | skip
  have hI := classSum_ok c s m i k (by omega)
  have hS := sClassSum_ok c s m i k (by omega)
  obtain ⟨v, o, e⟩ : ∃ v o, csR c s m i k = .tup [RVi v, RVb o] := by
    unfold csR
    split
    · exact cofR_ok c s m _
    · exact ⟨_, _, rfl⟩
  rw [e] at hI hS
  refine (fcr_in Try.func5 rfl (by simp only [Try.ntmps5, anys, List.length_cons, List.length_nil, Nat.reduceAdd, Nat.reduceSub, List.replicate_succ, List.replicate_zero, List.cons_append, List.nil_append] <;> rfl) ?_)
  repeat' first
    | refine w_seq ?_
    | refine w_region ?_
    | refine l_nil ?_
    | refine rt_n ?_
    | refine w_ret ?_
    | refine rt_ret ?_
    | refine w_skip ?_
    | refine w_cond_t rfl ?_
    | refine w_cond_f rfl ?_
    | refine w_cnd rfl (fun hc => ?_) (fun hc => ?_)
    | refine w_cd rfl (fun hc => ?_) (fun hc => ?_)
    | refine w_cn rfl (fun hc => ?_) (fun hc => ?_)
    | refine w_cond rfl (fun hc => ?_) (fun hc => ?_)
    | (exfalso; omega)
    | (exfalso; exact absurd rfl hc)
    | (refine l_o ?_; first | refine l_op rfl (by first | (apply k_callf; first | exact ops_callv (d := 28) (hfc := toIntS_ok c (by omega)) | exact ops_callv (d := 35) (hfc := hI) | exact ops_callz (d := 49) (hfc := eqIntS_ok c c) | exact ops_callf (hfc := toIntS_ok c (by omega)) | exact ops_callf (hfc := toBox_ok s m) | exact ops_callf (hfc := hS) | fail) | fail) (hk := ?_) | refine l_op (hk := ?_) | (refine l_g ?_; first | refine l_y rfl rfl rfl ?_ | refine l_n rfl rfl rfl rfl (hk := ?_) | refine l_n' rfl rfl rfl (hk := ?_) | refine l_spnd rfl rfl rfl (h1 := fun hc => ?_) (h2 := fun hc => ?_) | refine l_spd rfl rfl rfl (h1 := fun hc => ?_) (h2 := fun hc => ?_) | refine l_spn rfl rfl rfl (h1 := fun hc => ?_) (h2 := fun hc => ?_) | refine l_sp rfl rfl rfl (h1 := fun hc => ?_) (h2 := fun hc => ?_)))
    | refine d_nil ?_
    | (refine d_o ?_; first | refine d_fl (hk := ?_) | refine d_ef rfl (by first | exact .callv (d := 28) (hfc := toIntS_ok c (by omega)) | exact .callv (d := 35) (hfc := hI) | exact .callz (d := 49) (hfc := eqIntS_ok c c) | exact .callf (hfc := toIntS_ok c (by omega)) | exact .callf (hfc := toBox_ok s m) | exact .callf (hfc := hS) | exact .callvY (d := 28) (hfc := toIntS_ok c (by omega)) | exact .callvY (d := 35) (hfc := hI) | exact .callzY (d := 49) (hfc := eqIntS_ok c c) | exact .callfY (hfc := toIntS_ok c (by omega)) | exact .callfY (hfc := toBox_ok s m) | exact .callfY (hfc := hS) | fail) (hk := ?_) | refine d_ef (hk := ?_) | (refine d_g ?_; first | refine d_spnd rfl rfl rfl (h1 := fun hc => ?_) (h2 := fun hc => ?_) | refine d_spd rfl rfl rfl (h1 := fun hc => ?_) (h2 := fun hc => ?_) | refine d_spn rfl rfl rfl (h1 := fun hc => ?_) (h2 := fun hc => ?_) | refine d_sp rfl rfl rfl (h1 := fun hc => ?_) (h2 := fun hc => ?_)))
    | (refine w_o ?_; first | refine w_draw (id := 3) (fun _ => true) (fun k => [1, 3, 6].contains k) [[], [], []] 64 (by kernel_rfl) rfl (by kernel_rfl) (by simp [nm, nset, -List.map_take, -List.map_drop]) ?_)
  all_goals first
    | exact absurd rfl hc
    | (exfalso; omega)
    | (refine en_one (hf := Try.results5) (h := ?_); simp only [lget]; first | refine congrArg RVb ?_ | refine congrArg RVi ?_ | skip; done)
    | trace_state
end Go.Proofs.Ytmfbcipjknjicaa
/- What the parameters of the laws on loops read. No condition. -/
namespace Go.Proofs.Ytmfbcipjknjicaa
open Eng Go.ChangeShapes Go.WideShapes Go.ChangeAt Go.RowKit
set_option maxHeartbeats 0
set_option maxRecDepth 100000

theorem own : ownKnob Try.prog.godebug = none := by kernel_rfl
theorem laidOut : laidOutB Try.prog = true := by kernel_rfl

theorem head_cut : (behindMainWord (wordsSigns Try.prog.initOrder.toList)).head? = some "cut".toList := by
  have h := toList_of (s := Try.prog.initOrder) (_ :: _ :: _ :: _ :: _ :: _ :: _ :: _ :: _ :: _ :: _ :: _ :: _ :: _ :: _ :: _ :: _ :: _ :: _ :: _ :: _ :: _ :: _ :: _ :: _ :: _ :: _ :: _ :: _ :: _ :: _ :: _ :: _ :: _ :: _ :: _ :: _ :: _ :: _ :: _ :: _ :: _ :: _ :: _ :: _ :: _ :: _ :: _ :: _ :: _ :: _ :: _ :: _ :: _ :: _ :: _ :: _ :: _ :: _ :: _ :: _ :: _ :: _ :: _ :: _ :: _ :: _ :: _ :: _ :: _ :: _ :: _ :: _ :: _ :: _ :: _ :: _ :: _ :: _ :: _) rfl
  generalize Try.prog.initOrder.toList = l at h ⊢
  subst h
  decide +kernel
theorem p_make : Try.prog.make = some .cut := cut_make head_cut
theorem p_final : Try.prog.liftsFinal = false := cut_final head_cut
theorem p_enter : Try.prog.mayEnter = true := cut_enter head_cut (by decide +kernel) (by decide +kernel) (by decide +kernel)
theorem prd_i64 : PRd Try.prog 3 RVi (fun n => (Lit.int .i64 n).wf = true) := prd_int Try.underlying3
end Go.Proofs.Ytmfbcipjknjicaa
/- What the parameters of the misere laws read: lists of numbers, boxes. No condition. -/
namespace Go.Proofs.Ytmfbcipjknjicaa
open Eng Go.ChangeShapes Go.WideShapes Go.ChangeAt Go.RowKit
set_option maxHeartbeats 0
set_option maxRecDepth 100000

theorem prd_ints : PRd Try.prog 24 RIs (fun l => l.length ≤ maxLen ∧ ∀ n ∈ l, (Lit.int .i64 n).wf = true) := prd_slice Try.underlying24 (by kernel_rfl) (by omega) (reads_int Try.underlying3)
theorem reads_box : Reads Try.prog 40 2 (fun x : Int × Int => .agg [RVi x.1, RVi x.2]) (fun x => (Lit.int .i64 x.1).wf = true ∧ (Lit.int .i64 x.2).wf = true) :=
  reads_struct2 Try.underlying40 (by kernel_rfl) rfl rfl (by kernel_rfl) (by kernel_rfl) (reads_int Try.underlying3) (reads_int Try.underlying3)
theorem prd_box : PRd Try.prog 40 (fun x : Int × Int => .agg [RVi x.1, RVi x.2]) (fun x => (Lit.int .i64 x.1).wf = true ∧ (Lit.int .i64 x.2).wf = true) := prd_struct Try.underlying40 reads_box
end Go.Proofs.Ytmfbcipjknjicaa
