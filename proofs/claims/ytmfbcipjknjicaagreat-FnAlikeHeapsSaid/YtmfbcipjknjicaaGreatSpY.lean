/- The reference's classes of positions and of sums. For all arguments. -/
import Derived.Test.YtmfbcipjknjicaaGreatSpX
namespace Go.Proofs.YtmfbcipjknjicaaGreat
open Eng
attribute [local irreducible] OpS OpG FC FCr Rel Fl Ef DR Fs
attribute [local simp] RV.fzR_names
set_option linter.unusedSimpArgs false
set_option linter.unusedVariables false
set_option maxHeartbeats 0
set_option maxRecDepth 100000

theorem sGoodX_ok (c : List Int) (s m : Int) (h : List Int) (hc : c.length ≤ 1048576) (hl : h.length ≤ 1048576) : FCr Tryz.prog 23 [RIs c, RBx s m, RIs h] (RVb (admB c s m h)) := by
  have hB := sGoodBox_ok s m
  have hG := l19Good_ok c h hc hl
  unfold admB
  by_cases hg : goodB s m = true
  · obtain ⟨a, b, rfl, rfl, h1, h2, h3, h4, h5⟩ := goodB_nat hg
    rw [hg] at hB ⊢
    have h6 : 1 ≤ a * b := Nat.mul_le_mul h1 h2
    have e : (20 : Int) - (a : Int) * (b : Int) = 20 - ((a * b : Nat) : Int) := by rw [Int.natCast_mul]
    rw [e]
    by_cases hgo : (gcode c && ghp h && decide (h.sum ≤ 20)) = true
    · rw [hgo] at hG
      simp only [Bool.and_eq_true, decide_eq_true_eq] at hgo
      have hgp : h.length ≤ 20 ∧ ghpF 0 h = true := by
        have := hgo.1.2
        simpa [ghp] using this
      have hgx := ghpF_pos hgp.2
      have hSu := l19Sum_ok h hgp.1 hgx.1
      rw [hgo.1.1, hgo.1.2]
      have hs0 : 0 ≤ h.sum := by
        have h7 : ∀ l : List Int, (∀ x ∈ l, 0 ≤ x) → 0 ≤ l.sum := by
          intro l
          induction l with
          | nil => simp
          | cons x xs ih =>
            intro hx
            have h8 := ih fun y hy => hx y (by simp [hy])
            have h9 := hx x (by simp)
            rw [List.sum_cons]; omega
        exact h7 h fun x hx => (hgx.1 x hx).1
      refine (fcr_in Tryz.func23 rfl (by simp only [Tryz.ntmps23, anys, List.length_cons, List.length_nil, Nat.reduceAdd, Nat.reduceSub, List.replicate_succ, List.replicate_zero, List.cons_append, List.nil_append] <;> rfl) ?_)
      repeat' first
        | refine w_seq ?_
        | refine w_region ?_
        | refine l_nil ?_
        | refine rt_n ?_
        | refine w_ret ?_
        | refine rt_ret ?_
        | refine w_skip ?_
        | (exfalso; omega)
        | (refine l_o ?_; first | refine l_op rfl (by first | (apply k_mul; first | exact ops_muln (m := a) (n := b) rfl rfl (by omega) | fail) | (apply k_add; first | exact ops_add (m := h.sum) rfl rfl (by omega) (by omega) | fail) | (apply k_callf; first | exact ops_callf (d := 8) (hfc := hB) | exact ops_callf (d := 12) (hfc := hG) | exact ops_callf (d := 16) (hfc := hSu) | fail) | fail) (hk := ?_) | refine l_op (hk := ?_) | (refine l_g ?_; first | refine l_y rfl rfl rfl ?_ | refine l_n rfl rfl rfl rfl (hk := ?_) | refine l_n' rfl rfl rfl (hk := ?_) | refine l_spnd rfl rfl rfl (h1 := fun hc => ?_) (h2 := fun hc => ?_) | refine l_spd rfl rfl rfl (h1 := fun hc => ?_) (h2 := fun hc => ?_) | refine l_spn rfl rfl rfl (h1 := fun hc => ?_) (h2 := fun hc => ?_) | refine l_sp rfl rfl rfl (h1 := fun hc => ?_) (h2 := fun hc => ?_)))
        | refine d_nil ?_
        | (refine d_o ?_; first | refine d_fl rfl (by first | exact .pl (by first | (apply q_mul; first | exact fs_muln (m := a) (n := b) rfl rfl (by omega) | fail) | (apply q_add; first | exact fs_add (m := h.sum) rfl rfl (by omega) (by omega) | fail) | (apply q_callf; first | exact fs_callf (d := 8) (hfc := hB) | exact fs_callf (d := 12) (hfc := hG) | exact fs_callf (d := 16) (hfc := hSu) | fail) | fail) | exact .ye rfl rfl rfl (by first | (apply q_mul; first | exact fs_muln (m := a) (n := b) rfl rfl (by omega) | fail) | (apply q_add; first | exact fs_add (m := h.sum) rfl rfl (by omega) (by omega) | fail) | (apply q_callf; first | exact fs_callf (d := 8) (hfc := hB) | exact fs_callf (d := 12) (hfc := hG) | exact fs_callf (d := 16) (hfc := hSu) | fail) | fail) | fail) (hk := ?_) | refine d_fl (hk := ?_) | refine d_ef (hk := ?_) | (refine d_g ?_; first | refine d_spnd rfl rfl rfl (h1 := fun hc => ?_) (h2 := fun hc => ?_) | refine d_spd rfl rfl rfl (h1 := fun hc => ?_) (h2 := fun hc => ?_) | refine d_spn rfl rfl rfl (h1 := fun hc => ?_) (h2 := fun hc => ?_) | refine d_sp rfl rfl rfl (h1 := fun hc => ?_) (h2 := fun hc => ?_)))
        | (refine w_o ?_; first | refine w_draw (id := 1) (roL [4]) (fun k => [].contains k) [] 64 (by kernel_rfl) rfl (by kernel_rfl) (by simp [nm, nset, -List.map_take, -List.map_drop]) ?_)
      refine en_one (hf := Tryz.results23) (h := ?_); simp only [lget]; first | refine congrArg RVb ?_ | refine congrArg RVi ?_ | skip
      simp only [Bool.true_and]
      congr 1
      apply propext
      omega
    · have hf : (gcode c && ghp h && decide (h.sum ≤ 20 - ((a * b : Nat) : Int))) = false := by
        cases hbb : (gcode c && ghp h && decide (h.sum ≤ 20 - ((a * b : Nat) : Int))) with
        | false => rfl
        | true =>
          simp only [Bool.and_eq_true, decide_eq_true_eq] at hbb hgo
          exact absurd ⟨hbb.1, by omega⟩ hgo
      rw [Bool.not_eq_true] at hgo
      rw [hgo] at hG
      rw [hf]
      refine (fcr_in Tryz.func23 rfl (by simp only [Tryz.ntmps23, anys, List.length_cons, List.length_nil, Nat.reduceAdd, Nat.reduceSub, List.replicate_succ, List.replicate_zero, List.cons_append, List.nil_append] <;> rfl) ?_)
      repeat' first
        | refine w_seq ?_
        | refine w_region ?_
        | refine l_nil ?_
        | refine rt_n ?_
        | refine w_ret ?_
        | refine rt_ret ?_
        | refine w_skip ?_
        | (exfalso; omega)
        | (refine l_o ?_; first | refine l_op rfl (by first | (apply k_callf; first | exact ops_callf (d := 8) (hfc := hB) | exact ops_callf (d := 12) (hfc := hG) | fail) | fail) (hk := ?_) | refine l_op (hk := ?_) | (refine l_g ?_; first | refine l_y rfl rfl rfl ?_ | refine l_n rfl rfl rfl rfl (hk := ?_) | refine l_n' rfl rfl rfl (hk := ?_) | refine l_spnd rfl rfl rfl (h1 := fun hc => ?_) (h2 := fun hc => ?_) | refine l_spd rfl rfl rfl (h1 := fun hc => ?_) (h2 := fun hc => ?_) | refine l_spn rfl rfl rfl (h1 := fun hc => ?_) (h2 := fun hc => ?_) | refine l_sp rfl rfl rfl (h1 := fun hc => ?_) (h2 := fun hc => ?_)))
        | refine d_nil ?_
        | (refine d_o ?_; first | refine d_fl rfl (by first | exact .pl (by first | (apply q_callf; first | exact fs_callf (d := 8) (hfc := hB) | exact fs_callf (d := 12) (hfc := hG) | fail) | fail) | exact .ye rfl rfl rfl (by first | (apply q_callf; first | exact fs_callf (d := 8) (hfc := hB) | exact fs_callf (d := 12) (hfc := hG) | fail) | fail) | fail) (hk := ?_) | refine d_fl (hk := ?_) | refine d_ef (hk := ?_) | (refine d_g ?_; first | refine d_spnd rfl rfl rfl (h1 := fun hc => ?_) (h2 := fun hc => ?_) | refine d_spd rfl rfl rfl (h1 := fun hc => ?_) (h2 := fun hc => ?_) | refine d_spn rfl rfl rfl (h1 := fun hc => ?_) (h2 := fun hc => ?_) | refine d_sp rfl rfl rfl (h1 := fun hc => ?_) (h2 := fun hc => ?_)))
        | (refine w_o ?_; first | refine w_draw (id := 1) (roL [4]) (fun k => [].contains k) [] 64 (by kernel_rfl) rfl (by kernel_rfl) (by simp [nm, nset, -List.map_take, -List.map_drop]) ?_)
      refine en_one (hf := Tryz.results23) (h := ?_); simp only [lget]; first | refine congrArg RVb ?_ | refine congrArg RVi ?_ | skip
      rfl
  · rw [Bool.not_eq_true] at hg
    rw [hg] at hB ⊢
    refine (fcr_in Tryz.func23 rfl (by simp only [Tryz.ntmps23, anys, List.length_cons, List.length_nil, Nat.reduceAdd, Nat.reduceSub, List.replicate_succ, List.replicate_zero, List.cons_append, List.nil_append] <;> rfl) ?_)
    repeat' first
      | refine w_seq ?_
      | refine w_region ?_
      | refine l_nil ?_
      | refine rt_n ?_
      | refine w_ret ?_
      | refine rt_ret ?_
      | refine w_skip ?_
      | (refine l_o ?_; first | refine l_op rfl (by first | (apply k_callf; first | exact ops_callf (d := 8) (hfc := hB) | fail) | fail) (hk := ?_) | refine l_op (hk := ?_) | (refine l_g ?_; first | refine l_y rfl rfl rfl ?_ | refine l_n rfl rfl rfl rfl (hk := ?_) | refine l_n' rfl rfl rfl (hk := ?_) | refine l_spnd rfl rfl rfl (h1 := fun hc => ?_) (h2 := fun hc => ?_) | refine l_spd rfl rfl rfl (h1 := fun hc => ?_) (h2 := fun hc => ?_) | refine l_spn rfl rfl rfl (h1 := fun hc => ?_) (h2 := fun hc => ?_) | refine l_sp rfl rfl rfl (h1 := fun hc => ?_) (h2 := fun hc => ?_)))
      | refine d_nil ?_
      | (refine d_o ?_; first | refine d_fl rfl (by first | exact .pl (by first | (apply q_callf; first | exact fs_callf (d := 8) (hfc := hB) | fail) | fail) | exact .ye rfl rfl rfl (by first | (apply q_callf; first | exact fs_callf (d := 8) (hfc := hB) | fail) | fail) | fail) (hk := ?_) | refine d_fl (hk := ?_) | refine d_ef (hk := ?_) | (refine d_g ?_; first | refine d_spnd rfl rfl rfl (h1 := fun hc => ?_) (h2 := fun hc => ?_) | refine d_spd rfl rfl rfl (h1 := fun hc => ?_) (h2 := fun hc => ?_) | refine d_spn rfl rfl rfl (h1 := fun hc => ?_) (h2 := fun hc => ?_) | refine d_sp rfl rfl rfl (h1 := fun hc => ?_) (h2 := fun hc => ?_)))
      | (refine w_o ?_; first | refine w_draw (id := 1) (roL [4]) (fun k => [].contains k) [] 64 (by kernel_rfl) rfl (by kernel_rfl) (by simp [nm, nset, -List.map_take, -List.map_drop]) ?_)
    refine en_one (hf := Tryz.results23) (h := ?_); simp only [lget]; first | refine congrArg RVb ?_ | refine congrArg RVi ?_ | skip
    rfl
end Go.Proofs.YtmfbcipjknjicaaGreat
