/- The reference's looks at a code and at heaps. For all lists of at most 2^20 numbers. -/
import Derived.Test.YtmfbcipjknjicaaGreatDoorHpG
import Derived.Test.YtmfbcipjknjicaaGreatDoorSpB
namespace Go.Proofs.YtmfbcipjknjicaaGreatDoor
open Eng
attribute [local irreducible] OpS OpG FC FCr Rel Fl Ef DR Fs
attribute [local simp] RV.fzR_names
set_option linter.unusedSimpArgs false
set_option linter.unusedVariables false
set_option maxHeartbeats 0
set_option maxRecDepth 100000

theorem goodCodeS_ok (c : List Int) (hl : c.length ≤ 1048576) : FCr Tryz.prog 34 [RIs c] (RVb (gcode c)) := by
  have hI := l1In_ok ((c.length : Nat) : Int) 1 6
  by_cases h1 : 1 ≤ c.length ∧ c.length ≤ 6
  · rw [decide_eq_true (p := 1 ≤ ((c.length : Nat) : Int)) (by omega), decide_eq_true (p := ((c.length : Nat) : Int) ≤ 6) (by omega)] at hI
    have hlast : c[c.length - 1]'(by omega) = c.getD (c.length - 1) 0 := (getD_at (by omega)).symm
    have hall : gcode c = (decide (c.getD (c.length - 1) 0 ≠ 0) && c.all fun d => decide (0 ≤ d) && decide (d ≤ 7)) := by
      unfold gcode
      rw [decide_eq_true h1.1, decide_eq_true h1.2]; simp
    refine (fcr_in Tryz.func34 rfl (by simp only [Tryz.ntmps34, anys, List.length_cons, List.length_nil, Nat.reduceAdd, Nat.reduceSub, List.replicate_succ, List.replicate_zero, List.cons_append, List.nil_append] <;> rfl) ?_)
    repeat' first
      | refine w_seq ?_
      | refine w_block ?_
      | refine rb_n ?_
      | refine rb_ret ?_
      | refine rb_eq ?_
      | refine rb_ne (by rfl) ?_
      | refine w_exit ?_
      | refine rt_exit ?_
      | refine w_region ?_
      | refine l_nil ?_
      | refine rt_n ?_
      | refine w_ret ?_
      | refine rt_ret ?_
      | refine w_skip ?_
      | refine w_cond_t rfl ?_
      | refine w_cond_f rfl ?_
      | refine w_cnd rfl (fun hc => ?_) (fun hc => ?_)
      | refine w_cd rfl (fun hc => ?_) (fun hc => ?_)
      | refine w_cn rfl (fun hc => ?_) (fun hc => ?_)
      | refine w_cond rfl (fun hc => ?_) (fun hc => ?_)
      | (refine l_o ?_; first | refine l_op rfl (by first | (apply k_callf; first | exact ops_callf (hfc := hI) | fail) | fail) (hk := ?_) | refine l_op (hk := ?_))
    refine w_loopm (ι := Nat) (fun k => [(3, RVn k)]) (fun _ => []) (fun k => k ≤ c.length ∧ (c.drop k).all (fun d => decide (0 ≤ d) && decide (d ≤ 7)) = c.all fun d => decide (0 ≤ d) && decide (d ≤ 7)) (fun k => c.length - k) 0 (h0 := ?_) (hs := ?_) (round := ?_)
    · exact ⟨Nat.zero_le _, rfl⟩
    · refine le_eq (by (repeat' first | exact .nil | refine .keep ?_ | refine .any ?_); first | done | fail) rfl rfl
    · intro k ⟨hk, hg⟩
      by_cases hk2 : k < c.length
      · rw [List.drop_eq_getElem_cons hk2, List.all_cons] at hg
        have hJ := l1In_ok c[k] 0 7
        by_cases hin : (decide (0 ≤ c[k]) && decide (c[k] ≤ 7)) = true
        · rw [hin] at hJ hg
          repeat' first
            | refine w_seq ?_
            | refine w_block ?_
            | refine rb_n ?_
            | refine rb_ret ?_
            | refine rb_eq ?_
            | refine rb_ne (by rfl) ?_
            | refine w_exit ?_
            | refine rt_exit ?_
            | refine w_region ?_
            | refine l_nil ?_
            | refine rt_n ?_
            | refine w_ret ?_
            | refine rt_ret ?_
            | refine w_skip ?_
            | refine w_cond_t rfl ?_
            | refine w_cond_f rfl ?_
            | refine w_cnd rfl (fun hc => ?_) (fun hc => ?_)
            | refine w_cd rfl (fun hc => ?_) (fun hc => ?_)
            | refine w_cn rfl (fun hc => ?_) (fun hc => ?_)
            | refine w_cond rfl (fun hc => ?_) (fun hc => ?_)
            | (exfalso; omega)
            | (refine l_o ?_; first | refine l_op rfl (by first | (apply k_callf; first | exact ops_callf (hfc := hJ) | fail) | fail) (hk := ?_) | refine l_op (hk := ?_))
          refine rn_mk (k + 1) ?_ (by first | omega | (dsimp only; omega)) (le_eq (by (repeat' first | exact .nil | refine .keep ?_ | refine .any ?_); first | done | fail) rfl rfl)
          exact ⟨hk2, by simpa using hg⟩
        · rw [Bool.not_eq_true] at hin
          rw [hin] at hJ hg
          repeat' first
            | refine w_seq ?_
            | refine w_block ?_
            | refine rb_n ?_
            | refine rb_ret ?_
            | refine rb_eq ?_
            | refine rb_ne (by rfl) ?_
            | refine w_exit ?_
            | refine rt_exit ?_
            | refine w_region ?_
            | refine l_nil ?_
            | refine rt_n ?_
            | refine w_ret ?_
            | refine rt_ret ?_
            | refine w_skip ?_
            | refine w_cond_t rfl ?_
            | refine w_cond_f rfl ?_
            | refine w_cnd rfl (fun hc => ?_) (fun hc => ?_)
            | refine w_cd rfl (fun hc => ?_) (fun hc => ?_)
            | refine w_cn rfl (fun hc => ?_) (fun hc => ?_)
            | refine w_cond rfl (fun hc => ?_) (fun hc => ?_)
            | (exfalso; omega)
            | (refine l_o ?_; first | refine l_op rfl (by first | (apply k_callf; first | exact ops_callf (hfc := hJ) | fail) | fail) (hk := ?_) | refine l_op (hk := ?_))
          refine en_one (hf := Tryz.results34) (h := ?_); simp only [lget]; first | refine congrArg RVb ?_ | refine congrArg RVi ?_ | skip
          rw [hall, ← hg]; simp
      · rw [List.drop_eq_nil_of_le (by omega)] at hg
        repeat' first
          | refine w_seq ?_
          | refine w_block ?_
          | refine rb_n ?_
          | refine rb_ret ?_
          | refine rb_eq ?_
          | refine rb_ne (by rfl) ?_
          | refine w_exit ?_
          | refine rt_exit ?_
          | refine w_region ?_
          | refine l_nil ?_
          | refine rt_n ?_
          | refine w_ret ?_
          | refine rt_ret ?_
          | refine w_skip ?_
          | refine w_cond_t rfl ?_
          | refine w_cond_f rfl ?_
          | refine w_cnd rfl (fun hc => ?_) (fun hc => ?_)
          | refine w_cd rfl (fun hc => ?_) (fun hc => ?_)
          | refine w_cn rfl (fun hc => ?_) (fun hc => ?_)
          | refine w_cond rfl (fun hc => ?_) (fun hc => ?_)
          | (exfalso; omega)
          | (refine l_o ?_; first | refine l_op rfl (by first | (apply k_sub; first | exact ops_subn (a := c.length) (b := 1) rfl rfl (by omega) (by omega) | fail) | fail) (hk := ?_) | refine l_op (hk := ?_))
        refine en_one (hf := Tryz.results34) (h := ?_); simp only [lget]; first | refine congrArg RVb ?_ | refine congrArg RVi ?_ | skip
        rw [hall, ← hg, hlast]; simp
  · have hf : gcode c = false := by
      unfold gcode
      by_cases h : 1 ≤ c.length
      · rw [decide_eq_false (p := c.length ≤ 6) (by omega)]; simp
      · rw [decide_eq_false (p := 1 ≤ c.length) h]; simp
    have hI2 : (decide (1 ≤ ((c.length : Nat) : Int)) && decide (((c.length : Nat) : Int) ≤ 6)) = false := by
      by_cases h2 : 1 ≤ ((c.length : Nat) : Int)
      · rw [decide_eq_false (p := ((c.length : Nat) : Int) ≤ 6) (by omega)]; simp
      · rw [decide_eq_false h2]; rfl
    rw [hI2] at hI
    rw [hf]
    refine (fcr_in Tryz.func34 rfl (by simp only [Tryz.ntmps34, anys, List.length_cons, List.length_nil, Nat.reduceAdd, Nat.reduceSub, List.replicate_succ, List.replicate_zero, List.cons_append, List.nil_append] <;> rfl) ?_)
    repeat' first
      | refine w_seq ?_
      | refine w_block ?_
      | refine rb_n ?_
      | refine rb_ret ?_
      | refine rb_eq ?_
      | refine rb_ne (by rfl) ?_
      | refine w_exit ?_
      | refine rt_exit ?_
      | refine w_region ?_
      | refine l_nil ?_
      | refine rt_n ?_
      | refine w_ret ?_
      | refine rt_ret ?_
      | refine w_skip ?_
      | refine w_cond_t rfl ?_
      | refine w_cond_f rfl ?_
      | refine w_cnd rfl (fun hc => ?_) (fun hc => ?_)
      | refine w_cd rfl (fun hc => ?_) (fun hc => ?_)
      | refine w_cn rfl (fun hc => ?_) (fun hc => ?_)
      | refine w_cond rfl (fun hc => ?_) (fun hc => ?_)
      | (refine l_o ?_; first | refine l_op rfl (by first | (apply k_callf; first | exact ops_callf (hfc := hI) | fail) | fail) (hk := ?_) | refine l_op (hk := ?_))
    refine en_one (hf := Tryz.results34) (h := ?_); simp only [lget]; first | refine congrArg RVb ?_ | refine congrArg RVi ?_ | skip
end Go.Proofs.YtmfbcipjknjicaaGreatDoor
