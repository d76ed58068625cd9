/- The reference's classes of positions and of sums. For all arguments. -/
import Derived.Test.YtmfbcipjknjicaaGreatSpX
namespace Go.Proofs.YtmfbcipjknjicaaGreat
open Eng
attribute [local irreducible] OpS OpG FC FCr Rel Fl Ef DR Fs
attribute [local simp] RV.fzR_names
set_option linter.unusedSimpArgs false
set_option linter.unusedVariables false
set_option maxHeartbeats 0
set_option maxRecDepth 100000

theorem sGoodX_ok (c : List Int) (s m : Int) (h : List Int) (hc : c.length ≤ 1048576) (hl : h.length ≤ 1048576) : FCr Tryz.prog 23 [RIs c, RBx s m, RIs h] (RVb (admB c s m h)) := by
  have hB := sGoodBox_ok s m
  have hG := l19Good_ok c h hc hl
  unfold admB
  by_cases hg : goodB s m = true
  · obtain ⟨a, b, rfl, rfl, h1, h2, h3, h4, h5⟩ := goodB_nat hg
    rw [hg] at hB ⊢
    have h6 : 1 ≤ a * b := Nat.mul_le_mul h1 h2
    have e : (20 : Int) - (a : Int) * (b : Int) = 20 - ((a * b : Nat) : Int) := by rw [Int.natCast_mul]
    rw [e]
    by_cases hgo : (gcode c && ghp h && decide (h.sum ≤ 20)) = true
    · rw [hgo] at hG
      simp only [Bool.and_eq_true, decide_eq_true_eq] at hgo
      have hgp : h.length ≤ 20 ∧ ghpF 0 h = true := by
        have := hgo.1.2
        simpa [ghp] using this
      have hgx := ghpF_pos hgp.2
      have hSu := l19Sum_ok h hgp.1 hgx.1
      rw [hgo.1.1, hgo.1.2]
      have hs0 : 0 ≤ h.sum := by
        have h7 : ∀ l : List Int, (∀ x ∈ l, 0 ≤ x) → 0 ≤ l.sum := by
          intro l
          induction l with
          | nil => simp
          | cons x xs ih =>
            intro hx
            have h8 := ih fun y hy => hx y (by simp [hy])
            have h9 := hx x (by simp)
            rw [List.sum_cons]; omega
        exact h7 h fun x hx => (hgx.1 x hx).1
      refine (fcr_in Tryz.func23 rfl (by simp only [Tryz.ntmps23, anys, List.length_cons, List.length_nil, Nat.reduceAdd, Nat.reduceSub, List.replicate_succ, List.replicate_zero, List.cons_append, List.nil_append] <;> rfl) ?_)
      repeat' first
        | refine w_seq ?_
        | refine w_region ?_
        | refine l_nil ?_
        | refine rt_n ?_
        | refine w_ret ?_
        | refine rt_ret ?_
        | refine w_skip ?_
        | (exfalso; omega)
        | (refine l_o ?_; first | refine l_op rfl (by first | (apply k_mul; first | exact ops_muln (m := a) (n := b) rfl rfl (by omega) | fail) | (apply k_add; first | exact ops_add (m := h.sum) rfl rfl (by omega) (by omega) | fail) | (apply k_callf; first | exact ops_callf (d := 8) (hfc := hB) | exact ops_callf (d := 12) (hfc := hG) | exact ops_callf (d := 16) (hfc := hSu) | fail) | fail) (hk := ?_) | refine l_op (hk := ?_) | (refine l_g ?_; first | refine l_y rfl rfl rfl ?_ | refine l_n rfl rfl rfl rfl (hk := ?_) | refine l_n' rfl rfl rfl (hk := ?_) | refine l_spnd rfl rfl rfl (h1 := fun hc => ?_) (h2 := fun hc => ?_) | refine l_spd rfl rfl rfl (h1 := fun hc => ?_) (h2 := fun hc => ?_) | refine l_spn rfl rfl rfl (h1 := fun hc => ?_) (h2 := fun hc => ?_) | refine l_sp rfl rfl rfl (h1 := fun hc => ?_) (h2 := fun hc => ?_)))
        | refine d_nil ?_
        | (refine d_o ?_; first | refine d_fl rfl (by first | exact .pl (by first | (apply q_mul; first | exact fs_muln (m := a) (n := b) rfl rfl (by omega) | fail) | (apply q_add; first | exact fs_add (m := h.sum) rfl rfl (by omega) (by omega) | fail) | (apply q_callf; first | exact fs_callf (d := 8) (hfc := hB) | exact fs_callf (d := 12) (hfc := hG) | exact fs_callf (d := 16) (hfc := hSu) | fail) | fail) | exact .ye rfl rfl rfl (by first | (apply q_mul; first | exact fs_muln (m := a) (n := b) rfl rfl (by omega) | fail) | (apply q_add; first | exact fs_add (m := h.sum) rfl rfl (by omega) (by omega) | fail) | (apply q_callf; first | exact fs_callf (d := 8) (hfc := hB) | exact fs_callf (d := 12) (hfc := hG) | exact fs_callf (d := 16) (hfc := hSu) | fail) | fail) | fail) (hk := ?_) | refine d_fl (hk := ?_) | refine d_ef (hk := ?_) | (refine d_g ?_; first | refine d_spnd rfl rfl rfl (h1 := fun hc => ?_) (h2 := fun hc => ?_) | refine d_spd rfl rfl rfl (h1 := fun hc => ?_) (h2 := fun hc => ?_) | refine d_spn rfl rfl rfl (h1 := fun hc => ?_) (h2 := fun hc => ?_) | refine d_sp rfl rfl rfl (h1 := fun hc => ?_) (h2 := fun hc => ?_)))
        | (refine w_o ?_; first | refine w_draw (id := 1) (roL [4]) (fun k => [].contains k) [] 64 (by kernel_rfl) rfl (by kernel_rfl) (by simp [nm, nset, -List.map_take, -List.map_drop]) ?_)
      refine en_one (hf := Tryz.results23) (h := ?_); simp only [lget]; first | refine congrArg RVb ?_ | refine congrArg RVi ?_ | skip
      simp only [Bool.true_and]
      congr 1
      apply propext
      omega
    · have hf : (gcode c && ghp h && decide (h.sum ≤ 20 - ((a * b : Nat) : Int))) = false := by
        cases hbb : (gcode c && ghp h && decide (h.sum ≤ 20 - ((a * b : Nat) : Int))) with
        | false => rfl
        | true =>
          simp only [Bool.and_eq_true, decide_eq_true_eq] at hbb hgo
          exact absurd ⟨hbb.1, by omega⟩ hgo
      rw [Bool.not_eq_true] at hgo
      rw [hgo] at hG
      rw [hf]
      refine (fcr_in Tryz.func23 rfl (by simp only [Tryz.ntmps23, anys, List.length_cons, List.length_nil, Nat.reduceAdd, Nat.reduceSub, List.replicate_succ, List.replicate_zero, List.cons_append, List.nil_append] <;> rfl) ?_)
      repeat' first
        | refine w_seq ?_
        | refine w_region ?_
        | refine l_nil ?_
        | refine rt_n ?_
        | refine w_ret ?_
        | refine rt_ret ?_
        | refine w_skip ?_
        | (exfalso; omega)
        | (refine l_o ?_; first | refine l_op rfl (by first | (apply k_callf; first | exact ops_callf (d := 8) (hfc := hB) | exact ops_callf (d := 12) (hfc := hG) | fail) | fail) (hk := ?_) | refine l_op (hk := ?_) | (refine l_g ?_; first | refine l_y rfl rfl rfl ?_ | refine l_n rfl rfl rfl rfl (hk := ?_) | refine l_n' rfl rfl rfl (hk := ?_) | refine l_spnd rfl rfl rfl (h1 := fun hc => ?_) (h2 := fun hc => ?_) | refine l_spd rfl rfl rfl (h1 := fun hc => ?_) (h2 := fun hc => ?_) | refine l_spn rfl rfl rfl (h1 := fun hc => ?_) (h2 := fun hc => ?_) | refine l_sp rfl rfl rfl (h1 := fun hc => ?_) (h2 := fun hc => ?_)))
        | refine d_nil ?_
        | (refine d_o ?_; first | refine d_fl rfl (by first | exact .pl (by first | (apply q_callf; first | exact fs_callf (d := 8) (hfc := hB) | exact fs_callf (d := 12) (hfc := hG) | fail) | fail) | exact .ye rfl rfl rfl (by first | (apply q_callf; first | exact fs_callf (d := 8) (hfc := hB) | exact fs_callf (d := 12) (hfc := hG) | fail) | fail) | fail) (hk := ?_) | refine d_fl (hk := ?_) | refine d_ef (hk := ?_) | (refine d_g ?_; first | refine d_spnd rfl rfl rfl (h1 := fun hc => ?_) (h2 := fun hc => ?_) | refine d_spd rfl rfl rfl (h1 := fun hc => ?_) (h2 := fun hc => ?_) | refine d_spn rfl rfl rfl (h1 := fun hc => ?_) (h2 := fun hc => ?_) | refine d_sp rfl rfl rfl (h1 := fun hc => ?_) (h2 := fun hc => ?_)))
        | (refine w_o ?_; first | refine w_draw (id := 1) (roL [4]) (fun k => [].contains k) [] 64 (by kernel_rfl) rfl (by kernel_rfl) (by simp [nm, nset, -List.map_take, -List.map_drop]) ?_)
      refine en_one (hf := Tryz.results23) (h := ?_); simp only [lget]; first | refine congrArg RVb ?_ | refine congrArg RVi ?_ | skip
      rfl
  · rw [Bool.not_eq_true] at hg
    rw [hg] at hB ⊢
    refine (fcr_in Tryz.func23 rfl (by simp only [Tryz.ntmps23, anys, List.length_cons, List.length_nil, Nat.reduceAdd, Nat.reduceSub, List.replicate_succ, List.replicate_zero, List.cons_append, List.nil_append] <;> rfl) ?_)
    repeat' first
      | refine w_seq ?_
      | refine w_region ?_
      | refine l_nil ?_
      | refine rt_n ?_
      | refine w_ret ?_
      | refine rt_ret ?_
      | refine w_skip ?_
      | (refine l_o ?_; first | refine l_op rfl (by first | (apply k_callf; first | exact ops_callf (d := 8) (hfc := hB) | fail) | fail) (hk := ?_) | refine l_op (hk := ?_) | (refine l_g ?_; first | refine l_y rfl rfl rfl ?_ | refine l_n rfl rfl rfl rfl (hk := ?_) | refine l_n' rfl rfl rfl (hk := ?_) | refine l_spnd rfl rfl rfl (h1 := fun hc => ?_) (h2 := fun hc => ?_) | refine l_spd rfl rfl rfl (h1 := fun hc => ?_) (h2 := fun hc => ?_) | refine l_spn rfl rfl rfl (h1 := fun hc => ?_) (h2 := fun hc => ?_) | refine l_sp rfl rfl rfl (h1 := fun hc => ?_) (h2 := fun hc => ?_)))
      | refine d_nil ?_
      | (refine d_o ?_; first | refine d_fl rfl (by first | exact .pl (by first | (apply q_callf; first | exact fs_callf (d := 8) (hfc := hB) | fail) | fail) | exact .ye rfl rfl rfl (by first | (apply q_callf; first | exact fs_callf (d := 8) (hfc := hB) | fail) | fail) | fail) (hk := ?_) | refine d_fl (hk := ?_) | refine d_ef (hk := ?_) | (refine d_g ?_; first | refine d_spnd rfl rfl rfl (h1 := fun hc => ?_) (h2 := fun hc => ?_) | refine d_spd rfl rfl rfl (h1 := fun hc => ?_) (h2 := fun hc => ?_) | refine d_spn rfl rfl rfl (h1 := fun hc => ?_) (h2 := fun hc => ?_) | refine d_sp rfl rfl rfl (h1 := fun hc => ?_) (h2 := fun hc => ?_)))
      | (refine w_o ?_; first | refine w_draw (id := 1) (roL [4]) (fun k => [].contains k) [] 64 (by kernel_rfl) rfl (by kernel_rfl) (by simp [nm, nset, -List.map_take, -List.map_drop]) ?_)
    refine en_one (hf := Tryz.results23) (h := ?_); simp only [lget]; first | refine congrArg RVb ?_ | refine congrArg RVi ?_ | skip
    rfl
theorem l1MostM_ok (a b : Int) : FCr Tryz.prog 57 [RVi a, RVi b] (RVi (max a b)) := by
  refine (fcr_in Tryz.func57 rfl (by simp only [Tryz.ntmps57, anys, List.length_cons, List.length_nil, Nat.reduceAdd, Nat.reduceSub, List.replicate_succ, List.replicate_zero, List.cons_append, List.nil_append] <;> rfl) ?_)
  repeat' first
    | refine w_seq ?_
    | refine w_region ?_
    | refine l_nil ?_
    | refine rt_n ?_
    | refine w_ret ?_
    | refine rt_ret ?_
    | refine w_skip ?_
    | refine w_cond_t rfl ?_
    | refine w_cond_f rfl ?_
    | refine w_cnd rfl (fun hc => ?_) (fun hc => ?_)
    | refine w_cd rfl (fun hc => ?_) (fun hc => ?_)
    | refine w_cn rfl (fun hc => ?_) (fun hc => ?_)
    | refine w_cond rfl (fun hc => ?_) (fun hc => ?_)
    | (refine l_o ?_; first | refine l_op (hk := ?_))
  all_goals
    refine en_one (hf := Tryz.results57) (h := ?_); simp only [lget]; first | refine congrArg RVb ?_ | refine congrArg RVi ?_ | skip
    omega
theorem sClassOf_ok (c : List Int) (s m : Int) (h : List Int) (hc : c.length ≤ 1048576) (hl : h.length ≤ 1048576) : FCr Tryz.prog 38 [RIs c, RBx s m, RIs h] (cofR c s m h) := by
  have hA := sGoodX_ok c s m h hc hl
  obtain ⟨K0, V0, hb0, hN⟩ := sbook_new c
  unfold cofR
  by_cases ha : admB c s m h = true
  · rw [ha] at hA ⊢
    obtain ⟨a, b, rfl, rfl, h1, h2, h3, h4, h5, hg, hok⟩ := admB_nat ha
    obtain ⟨⟨K1, V1⟩, hb1, hS⟩ := sSigns_ok hg h3 h4 hok.1 hok.2 (B := (K0, V0)) hb0
    obtain ⟨⟨K2, V2⟩, hb2, hF⟩ := sFirst_ok hg h3 h4 h5 (W := sgnB c a b h) (sgnB_len c a b h) (B := (K1, V1)) hb1
    rw [Int.toNat_natCast, Int.toNat_natCast]
    rw [show fstB (fun p => decide (sgnB c a b p = sgnB c a b h)) (posB a b) 0 = clsB c a b h from rfl] at hF
    dsimp only at hS hF
    have hM := l1MostM_ok (clsB c a b h) 0
    generalize clsB c a b h = v at *
    generalize sgnB c a b h = W at *
    refine (fcr_in Tryz.func38 rfl (by simp only [Tryz.ntmps38, anys, List.length_cons, List.length_nil, Nat.reduceAdd, Nat.reduceSub, List.replicate_succ, List.replicate_zero, List.cons_append, List.nil_append] <;> rfl) ?_)
    repeat' first
      | refine w_seq ?_
      | refine w_region ?_
      | refine l_nil ?_
      | refine rt_n ?_
      | refine w_ret ?_
      | refine rt_ret ?_
      | refine w_skip ?_
      | refine w_cond_t rfl ?_
      | refine w_cond_f rfl ?_
      | refine w_cnd rfl (fun hc => ?_) (fun hc => ?_)
      | refine w_cd rfl (fun hc => ?_) (fun hc => ?_)
      | refine w_cn rfl (fun hc => ?_) (fun hc => ?_)
      | refine w_cond rfl (fun hc => ?_) (fun hc => ?_)
      | (refine l_o ?_; first | refine l_op rfl (by first | (apply k_callf; first | exact ops_callf (hfc := hA) | fail) | fail) (hk := ?_) | refine l_op (hk := ?_))
      | refine d_nil ?_
      | (refine d_o ?_; first | refine d_fl (hk := ?_) | refine d_ef rfl (by first | exact .callf (hfc := hA) | fail) (hk := ?_) | refine d_ef (hk := ?_))
      | (refine w_o ?_; first | refine w_draw (id := 4) (fun _ => true) (fun k => [5, 6].contains k) [[], []] 64 (by kernel_rfl) rfl (by kernel_rfl) (by simp [nm, nset, -List.map_take, -List.map_drop]) ?_)
    refine l_book 1000 1009 1006 1007 hN (hk := ?_)
    repeat' first
      | refine w_seq ?_
      | refine w_region ?_
      | refine l_nil ?_
      | refine rt_n ?_
      | refine w_ret ?_
      | refine rt_ret ?_
      | refine w_skip ?_
      | refine w_cond_t rfl ?_
      | refine w_cond_f rfl ?_
      | refine w_cnd rfl (fun hc => ?_) (fun hc => ?_)
      | refine w_cd rfl (fun hc => ?_) (fun hc => ?_)
      | refine w_cn rfl (fun hc => ?_) (fun hc => ?_)
      | refine w_cond rfl (fun hc => ?_) (fun hc => ?_)
      | (refine l_o ?_; first | refine l_op rfl (by first | (apply k_callf; first | exact ops_callG (d := 22) [1009, 1006, 1007] [] (BK c K1 V1) (hfc := hS) | exact ops_callG (d := 23) [1009, 1006, 1007, 22] [22] (BK c K2 V2) (hfc := hF) | exact ops_callf (d := 25) (hfc := hM) | fail) | fail) (hk := ?_) | refine l_op (hk := ?_))
      | refine d_nil ?_
      | (refine d_o ?_; first | refine d_fl (hk := ?_) | refine d_ef rfl (by first | exact .callG (d := 22) [1009, 1006, 1007] (BK c K1 V1) (hfc := hS) | exact .callG (d := 23) [1009, 1006, 1007, 22] (BK c K2 V2) (hfc := hF) | exact .callf (d := 25) (hfc := hM) | fail) (hk := ?_) | refine d_ef (hk := ?_))
      | (refine w_o ?_; first | refine w_draw (id := 4) (roL [4]) (fun k => [5, 6].contains k) [[22],[]] 64 (by kernel_rfl) rfl (by kernel_rfl) (by simp [nm, nset, -List.map_take, -List.map_drop]) ?_)
    refine en_end (hf := Tryz.results38) (hr := ?_); simp only [ne, nf, nl, nr, lget, reduceIte, Nat.reduceEqDiff]; first | rfl | refine congrArg RVb ?_ | refine congrArg RVi ?_ | skip
  · rw [Bool.not_eq_true] at ha
    rw [ha] at hA ⊢
    refine (fcr_in Tryz.func38 rfl (by simp only [Tryz.ntmps38, anys, List.length_cons, List.length_nil, Nat.reduceAdd, Nat.reduceSub, List.replicate_succ, List.replicate_zero, List.cons_append, List.nil_append] <;> rfl) ?_)
    repeat' first
      | refine w_seq ?_
      | refine w_region ?_
      | refine l_nil ?_
      | refine rt_n ?_
      | refine w_ret ?_
      | refine rt_ret ?_
      | refine w_skip ?_
      | refine w_cond_t rfl ?_
      | refine w_cond_f rfl ?_
      | refine w_cnd rfl (fun hc => ?_) (fun hc => ?_)
      | refine w_cd rfl (fun hc => ?_) (fun hc => ?_)
      | refine w_cn rfl (fun hc => ?_) (fun hc => ?_)
      | refine w_cond rfl (fun hc => ?_) (fun hc => ?_)
      | (refine l_o ?_; first | refine l_op rfl (by first | (apply k_callf; first | exact ops_callf (hfc := hA) | fail) | fail) (hk := ?_) | refine l_op (hk := ?_))
      | refine d_nil ?_
      | (refine d_o ?_; first | refine d_fl (hk := ?_) | refine d_ef rfl (by first | exact .callf (hfc := hA) | fail) (hk := ?_) | refine d_ef (hk := ?_))
      | (refine w_o ?_; first | refine w_draw (id := 4) (fun _ => true) (fun k => [5, 6].contains k) [[], []] 64 (by kernel_rfl) rfl (by kernel_rfl) (by simp [nm, nset, -List.map_take, -List.map_drop]) ?_)
    refine en_end (hf := Tryz.results38) (hr := ?_); simp only [ne, nf, nl, nr, lget, reduceIte, Nat.reduceEqDiff]; first | rfl | refine congrArg RVb ?_ | refine congrArg RVi ?_ | skip
theorem sClassSum_ok (c : List Int) (s m i k : Int) (hc : c.length ≤ 1048576) : FCr Tryz.prog 13 [RIs c, RBx s m, RVi i, RVi k] (csR c s m i k) := by
  have hC := goodCodeS_ok c hc
  have hB := sGoodBox_ok s m
  unfold csR csB
  by_cases hg : gcode c = true
  · by_cases hb : goodB s m = true
    · obtain ⟨a, b, rfl, rfl, h1, h2, h3, h4, h5⟩ := goodB_nat hb
      rw [hg] at hC ⊢
      rw [hb] at hB ⊢
      have hP := sAll_ok h3 h4
      have hpl : (posB a b).length ≤ 1000000 := by have := posT_len h3 (b + 1) (by omega); unfold posB; omega
      have hpm : ∀ p ∈ posB a b, p.length ≤ 20 ∧ ∀ x ∈ p, 0 ≤ x := fun p hp => by
        have := posB_mem hp
        exact ⟨by omega, fun x hx => by have := this.2.1 x hx; omega⟩
      rw [Int.toNat_natCast, Int.toNat_natCast]
      have hcof : ∀ h : List Int, h.length ≤ 1048576 → FCr Tryz.prog 38 [RIs c, RBx (a : Int) (b : Int), RIs h] (cofR c a b h) := fun h hl => sClassOf_ok c a b h hc hl
      generalize posB a b = P at *
      have hIi := l1In_ok i 0 ((P.length : Int) - 1)
      have hIk := l1In_ok k 0 ((P.length : Int) - 1)
      by_cases hik : 0 ≤ i ∧ i < (P.length : Nat) ∧ 0 ≤ k ∧ k < (P.length : Nat)
      · obtain ⟨i1, i2, k1, k2⟩ := hik
        rw [decide_eq_true i1, decide_eq_true i2, decide_eq_true k1, decide_eq_true k2]
        have hi3 : i.toNat < P.length := by omega
        have hk3 : k.toNat < P.length := by omega
        have ei : P.getD i.toNat [] = P[i.toNat] := by rw [List.getD_eq_getElem?_getD, List.getElem?_eq_getElem hi3]; rfl
        have ek : P.getD k.toNat [] = P[k.toNat] := by rw [List.getD_eq_getElem?_getD, List.getElem?_eq_getElem hk3]; rfl
        rw [ei, ek]
        have hl1 := hpm _ (List.getElem_mem hi3)
        have hl2 := hpm _ (List.getElem_mem hk3)
        have hT := l17Sorted_ok (P[i.toNat] ++ P[k.toNat]) (by simp; omega)
        rw [srt0_tog hl1.2 hl2.2] at hT
        rw [decide_eq_true i1, decide_eq_true (show i ≤ (P.length : Int) - 1 by omega)] at hIi
        rw [decide_eq_true k1, decide_eq_true (show k ≤ (P.length : Int) - 1 by omega)] at hIk
        have htl := togH_len (h := P[i.toNat]) (p := P[k.toNat])
        have hF := hcof (togH P[i.toNat] P[k.toNat]) (by omega)
        obtain ⟨v, o, e⟩ := cofR_ok c a b (togH P[i.toNat] P[k.toNat])
        rw [e] at hF ⊢
        generalize togH P[i.toNat] P[k.toNat] = T at *
        simp only [Bool.and_self, reduceIte]
        refine (fcr_in Tryz.func13 rfl (by simp only [Tryz.ntmps13, anys, List.length_cons, List.length_nil, Nat.reduceAdd, Nat.reduceSub, List.replicate_succ, List.replicate_zero, List.cons_append, List.nil_append] <;> rfl) ?_)
        repeat' first
          | refine w_seq ?_
          | refine w_region ?_
          | refine l_nil ?_
          | refine rt_n ?_
          | refine w_ret ?_
          | refine rt_ret ?_
          | refine w_skip ?_
          | refine w_cond_t rfl ?_
          | refine w_cond_f rfl ?_
          | refine w_cnd rfl (fun hc => ?_) (fun hc => ?_)
          | refine w_cd rfl (fun hc => ?_) (fun hc => ?_)
          | refine w_cn rfl (fun hc => ?_) (fun hc => ?_)
          | refine w_cond rfl (fun hc => ?_) (fun hc => ?_)
          | (exfalso; omega)
          | (refine l_o ?_; first | refine l_op rfl (by first | (apply k_sub; first | exact ops_sub (m := (P.length : Int)) (n := 1) rfl rfl (by omega) (by omega) | fail) | (apply k_callf; first | exact ops_callf (d := 20) (hfc := hP) | exact ops_callf (d := 25) (hfc := hIi) | exact ops_callz (d := 48) (hfc := hT) | exact ops_callf (d := 49) (hfc := hF) | exact ops_callf (d := 32) (hfc := hIk) | exact ops_callf (hfc := hC) | exact ops_callf (hfc := hB) | fail) | fail) (hk := ?_) | refine l_op (hk := ?_) | (refine l_g ?_; first | refine l_y rfl rfl rfl ?_ | refine l_n rfl rfl rfl rfl (hk := ?_) | refine l_n' rfl rfl rfl (hk := ?_) | refine l_spnd rfl rfl rfl (h1 := fun hc => ?_) (h2 := fun hc => ?_) | refine l_spd rfl rfl rfl (h1 := fun hc => ?_) (h2 := fun hc => ?_) | refine l_spn rfl rfl rfl (h1 := fun hc => ?_) (h2 := fun hc => ?_) | refine l_sp rfl rfl rfl (h1 := fun hc => ?_) (h2 := fun hc => ?_)))
          | refine d_nil ?_
          | (refine d_o ?_; first | refine d_fl rfl (by first | exact .pl (by first | (apply q_sub; first | exact fs_sub (m := (P.length : Int)) (n := 1) rfl rfl (by omega) (by omega) | fail) | (apply q_callf; first | exact fs_callf (d := 32) (hfc := hIk) | fail) | fail) | exact .ye rfl rfl rfl (by first | (apply q_sub; first | exact fs_sub (m := (P.length : Int)) (n := 1) rfl rfl (by omega) (by omega) | fail) | (apply q_callf; first | exact fs_callf (d := 32) (hfc := hIk) | fail) | fail) | fail) (hk := ?_) | refine d_fl (hk := ?_) | refine d_ef rfl (by first | exact .callf (d := 20) (hfc := hP) | exact .callf (d := 25) (hfc := hIi) | exact .callz (d := 48) (hfc := hT) | exact .callf (d := 49) (hfc := hF) | exact .callf (hfc := hC) | exact .callf (hfc := hB) | exact .callfY (d := 20) (hfc := hP) | exact .callfY (d := 25) (hfc := hIi) | exact .callzY (d := 48) (hfc := hT) | exact .callfY (d := 49) (hfc := hF) | exact .callfY (hfc := hC) | exact .callfY (hfc := hB) | fail) (hk := ?_) | refine d_ef (hk := ?_) | (refine d_g ?_; first | refine d_spnd rfl rfl rfl (h1 := fun hc => ?_) (h2 := fun hc => ?_) | refine d_spd rfl rfl rfl (h1 := fun hc => ?_) (h2 := fun hc => ?_) | refine d_spn rfl rfl rfl (h1 := fun hc => ?_) (h2 := fun hc => ?_) | refine d_sp rfl rfl rfl (h1 := fun hc => ?_) (h2 := fun hc => ?_)))
          | (refine w_o ?_; first | refine w_draw (id := 6) (roL [5]) (fun k => [2, 7, 12, 13, 14].contains k) [[37],[42],[47],[],[]] 64 (by kernel_rfl) rfl (by kernel_rfl) (by simp [nm, nset, -List.map_take, -List.map_drop]) ?_)
        all_goals
          refine en_end (hf := Tryz.results13) (hr := ?_); simp only [ne, nf, nl, nr, lget, reduceIte, Nat.reduceEqDiff]; first | rfl | refine congrArg RVb ?_ | refine congrArg RVi ?_ | skip
      · have hf : (decide (0 ≤ i) && decide (i < (P.length : Nat)) && decide (0 ≤ k) && decide (k < (P.length : Nat))) = false := by
          cases hbb : (decide (0 ≤ i) && decide (i < (P.length : Nat)) && decide (0 ≤ k) && decide (k < (P.length : Nat))) with
          | false => rfl
          | true =>
            simp only [Bool.and_eq_true, decide_eq_true_eq] at hbb
            exact absurd ⟨hbb.1.1.1, hbb.1.1.2, hbb.1.2, hbb.2⟩ hik
        rw [hf]
        by_cases hi2 : 0 ≤ i ∧ i < (P.length : Nat)
        · have hk2 : (decide (0 ≤ k) && decide (k ≤ (P.length : Int) - 1)) = false := by
            cases hbb : (decide (0 ≤ k) && decide (k ≤ (P.length : Int) - 1)) with
            | false => rfl
            | true =>
              simp only [Bool.and_eq_true, decide_eq_true_eq] at hbb
              exact absurd ⟨hi2.1, hi2.2, hbb.1, by omega⟩ hik
          rw [decide_eq_true hi2.1, decide_eq_true (show i ≤ (P.length : Int) - 1 by omega)] at hIi
          rw [hk2] at hIk
          refine (fcr_in Tryz.func13 rfl (by simp only [Tryz.ntmps13, anys, List.length_cons, List.length_nil, Nat.reduceAdd, Nat.reduceSub, List.replicate_succ, List.replicate_zero, List.cons_append, List.nil_append] <;> rfl) ?_)
          repeat' first
            | refine w_seq ?_
            | refine w_region ?_
            | refine l_nil ?_
            | refine rt_n ?_
            | refine w_ret ?_
            | refine rt_ret ?_
            | refine w_skip ?_
            | refine w_cond_t rfl ?_
            | refine w_cond_f rfl ?_
            | refine w_cnd rfl (fun hc => ?_) (fun hc => ?_)
            | refine w_cd rfl (fun hc => ?_) (fun hc => ?_)
            | refine w_cn rfl (fun hc => ?_) (fun hc => ?_)
            | refine w_cond rfl (fun hc => ?_) (fun hc => ?_)
            | (refine l_o ?_; first | refine l_op rfl (by first | (apply k_sub; first | exact ops_sub (m := (P.length : Int)) (n := 1) rfl rfl (by omega) (by omega) | fail) | (apply k_callf; first | exact ops_callf (d := 20) (hfc := hP) | exact ops_callf (d := 25) (hfc := hIi) | exact ops_callf (d := 32) (hfc := hIk) | exact ops_callf (hfc := hC) | exact ops_callf (hfc := hB) | fail) | fail) (hk := ?_) | refine l_op (hk := ?_) | (refine l_g ?_; first | refine l_y rfl rfl rfl ?_ | refine l_n rfl rfl rfl rfl (hk := ?_) | refine l_n' rfl rfl rfl (hk := ?_) | refine l_spnd rfl rfl rfl (h1 := fun hc => ?_) (h2 := fun hc => ?_) | refine l_spd rfl rfl rfl (h1 := fun hc => ?_) (h2 := fun hc => ?_) | refine l_spn rfl rfl rfl (h1 := fun hc => ?_) (h2 := fun hc => ?_) | refine l_sp rfl rfl rfl (h1 := fun hc => ?_) (h2 := fun hc => ?_)))
            | refine d_nil ?_
            | (refine d_o ?_; first | refine d_fl rfl (by first | exact .pl (by first | (apply q_sub; first | exact fs_sub (m := (P.length : Int)) (n := 1) rfl rfl (by omega) (by omega) | fail) | (apply q_callf; first | exact fs_callf (d := 32) (hfc := hIk) | fail) | fail) | exact .ye rfl rfl rfl (by first | (apply q_sub; first | exact fs_sub (m := (P.length : Int)) (n := 1) rfl rfl (by omega) (by omega) | fail) | (apply q_callf; first | exact fs_callf (d := 32) (hfc := hIk) | fail) | fail) | fail) (hk := ?_) | refine d_fl (hk := ?_) | refine d_ef rfl (by first | exact .callf (d := 20) (hfc := hP) | exact .callf (d := 25) (hfc := hIi) | exact .callf (hfc := hC) | exact .callf (hfc := hB) | exact .callfY (d := 20) (hfc := hP) | exact .callfY (d := 25) (hfc := hIi) | exact .callfY (hfc := hC) | exact .callfY (hfc := hB) | fail) (hk := ?_) | refine d_ef (hk := ?_) | (refine d_g ?_; first | refine d_spnd rfl rfl rfl (h1 := fun hc => ?_) (h2 := fun hc => ?_) | refine d_spd rfl rfl rfl (h1 := fun hc => ?_) (h2 := fun hc => ?_) | refine d_spn rfl rfl rfl (h1 := fun hc => ?_) (h2 := fun hc => ?_) | refine d_sp rfl rfl rfl (h1 := fun hc => ?_) (h2 := fun hc => ?_)))
            | (refine w_o ?_; first | refine w_draw (id := 6) (fun _ => true) (fun k => [2, 7, 12, 13, 14].contains k) [[], [], [], [], []] 64 (by kernel_rfl) rfl (by kernel_rfl) (by simp [nm, nset, -List.map_take, -List.map_drop]) ?_)
          refine en_end (hf := Tryz.results13) (hr := ?_); simp only [ne, nf, nl, nr, lget, reduceIte, Nat.reduceEqDiff]; first | rfl | refine congrArg RVb ?_ | refine congrArg RVi ?_ | skip
        · have hk2 : (decide (0 ≤ i) && decide (i ≤ (P.length : Int) - 1)) = false := by
            cases hbb : (decide (0 ≤ i) && decide (i ≤ (P.length : Int) - 1)) with
            | false => rfl
            | true =>
              simp only [Bool.and_eq_true, decide_eq_true_eq] at hbb
              exact absurd ⟨hbb.1, by omega⟩ hi2
          rw [hk2] at hIi
          refine (fcr_in Tryz.func13 rfl (by simp only [Tryz.ntmps13, anys, List.length_cons, List.length_nil, Nat.reduceAdd, Nat.reduceSub, List.replicate_succ, List.replicate_zero, List.cons_append, List.nil_append] <;> rfl) ?_)
          repeat' first
            | refine w_seq ?_
            | refine w_region ?_
            | refine l_nil ?_
            | refine rt_n ?_
            | refine w_ret ?_
            | refine rt_ret ?_
            | refine w_skip ?_
            | refine w_cond_t rfl ?_
            | refine w_cond_f rfl ?_
            | refine w_cnd rfl (fun hc => ?_) (fun hc => ?_)
            | refine w_cd rfl (fun hc => ?_) (fun hc => ?_)
            | refine w_cn rfl (fun hc => ?_) (fun hc => ?_)
            | refine w_cond rfl (fun hc => ?_) (fun hc => ?_)
            | (refine l_o ?_; first | refine l_op rfl (by first | (apply k_sub; first | exact ops_sub (m := (P.length : Int)) (n := 1) rfl rfl (by omega) (by omega) | fail) | (apply k_callf; first | exact ops_callf (d := 20) (hfc := hP) | exact ops_callf (d := 25) (hfc := hIi) | exact ops_callf (hfc := hC) | exact ops_callf (hfc := hB) | fail) | fail) (hk := ?_) | refine l_op (hk := ?_) | (refine l_g ?_; first | refine l_y rfl rfl rfl ?_ | refine l_n rfl rfl rfl rfl (hk := ?_) | refine l_n' rfl rfl rfl (hk := ?_) | refine l_spnd rfl rfl rfl (h1 := fun hc => ?_) (h2 := fun hc => ?_) | refine l_spd rfl rfl rfl (h1 := fun hc => ?_) (h2 := fun hc => ?_) | refine l_spn rfl rfl rfl (h1 := fun hc => ?_) (h2 := fun hc => ?_) | refine l_sp rfl rfl rfl (h1 := fun hc => ?_) (h2 := fun hc => ?_)))
            | refine d_nil ?_
            | (refine d_o ?_; first | refine d_fl rfl (by first | exact .pl (by first | (apply q_sub; first | exact fs_sub (m := (P.length : Int)) (n := 1) rfl rfl (by omega) (by omega) | fail) | fail) | exact .ye rfl rfl rfl (by first | (apply q_sub; first | exact fs_sub (m := (P.length : Int)) (n := 1) rfl rfl (by omega) (by omega) | fail) | fail) | fail) (hk := ?_) | refine d_fl (hk := ?_) | refine d_ef rfl (by first | exact .callf (d := 20) (hfc := hP) | exact .callf (d := 25) (hfc := hIi) | exact .callf (hfc := hC) | exact .callf (hfc := hB) | exact .callfY (d := 20) (hfc := hP) | exact .callfY (d := 25) (hfc := hIi) | exact .callfY (hfc := hC) | exact .callfY (hfc := hB) | fail) (hk := ?_) | refine d_ef (hk := ?_) | (refine d_g ?_; first | refine d_spnd rfl rfl rfl (h1 := fun hc => ?_) (h2 := fun hc => ?_) | refine d_spd rfl rfl rfl (h1 := fun hc => ?_) (h2 := fun hc => ?_) | refine d_spn rfl rfl rfl (h1 := fun hc => ?_) (h2 := fun hc => ?_) | refine d_sp rfl rfl rfl (h1 := fun hc => ?_) (h2 := fun hc => ?_)))
            | (refine w_o ?_; first | refine w_draw (id := 6) (fun _ => true) (fun k => [2, 7, 12, 13, 14].contains k) [[], [], [], [], []] 64 (by kernel_rfl) rfl (by kernel_rfl) (by simp [nm, nset, -List.map_take, -List.map_drop]) ?_)
          refine en_end (hf := Tryz.results13) (hr := ?_); simp only [ne, nf, nl, nr, lget, reduceIte, Nat.reduceEqDiff]; first | rfl | refine congrArg RVb ?_ | refine congrArg RVi ?_ | skip
    · rw [Bool.not_eq_true] at hb
      rw [hg] at hC ⊢
      rw [hb] at hB ⊢
      refine (fcr_in Tryz.func13 rfl (by simp only [Tryz.ntmps13, anys, List.length_cons, List.length_nil, Nat.reduceAdd, Nat.reduceSub, List.replicate_succ, List.replicate_zero, List.cons_append, List.nil_append] <;> rfl) ?_)
      repeat' first
        | refine w_seq ?_
        | refine w_region ?_
        | refine l_nil ?_
        | refine rt_n ?_
        | refine w_ret ?_
        | refine rt_ret ?_
        | refine w_skip ?_
        | refine w_cond_t rfl ?_
        | refine w_cond_f rfl ?_
        | refine w_cnd rfl (fun hc => ?_) (fun hc => ?_)
        | refine w_cd rfl (fun hc => ?_) (fun hc => ?_)
        | refine w_cn rfl (fun hc => ?_) (fun hc => ?_)
        | refine w_cond rfl (fun hc => ?_) (fun hc => ?_)
        | (refine l_o ?_; first | refine l_op rfl (by first | (apply k_callf; first | exact ops_callf (hfc := hC) | exact ops_callf (hfc := hB) | fail) | fail) (hk := ?_) | refine l_op (hk := ?_) | (refine l_g ?_; first | refine l_y rfl rfl rfl ?_ | refine l_n rfl rfl rfl rfl (hk := ?_) | refine l_n' rfl rfl rfl (hk := ?_) | refine l_spnd rfl rfl rfl (h1 := fun hc => ?_) (h2 := fun hc => ?_) | refine l_spd rfl rfl rfl (h1 := fun hc => ?_) (h2 := fun hc => ?_) | refine l_spn rfl rfl rfl (h1 := fun hc => ?_) (h2 := fun hc => ?_) | refine l_sp rfl rfl rfl (h1 := fun hc => ?_) (h2 := fun hc => ?_)))
        | refine d_nil ?_
        | (refine d_o ?_; first | refine d_fl (hk := ?_) | refine d_ef rfl (by first | exact .callf (hfc := hC) | exact .callf (hfc := hB) | exact .callfY (hfc := hC) | exact .callfY (hfc := hB) | fail) (hk := ?_) | refine d_ef (hk := ?_) | (refine d_g ?_; first | refine d_spnd rfl rfl rfl (h1 := fun hc => ?_) (h2 := fun hc => ?_) | refine d_spd rfl rfl rfl (h1 := fun hc => ?_) (h2 := fun hc => ?_) | refine d_spn rfl rfl rfl (h1 := fun hc => ?_) (h2 := fun hc => ?_) | refine d_sp rfl rfl rfl (h1 := fun hc => ?_) (h2 := fun hc => ?_)))
        | (refine w_o ?_; first | refine w_draw (id := 6) (fun _ => true) (fun k => [2, 7, 12, 13, 14].contains k) [[], [], [], [], []] 64 (by kernel_rfl) rfl (by kernel_rfl) (by simp [nm, nset, -List.map_take, -List.map_drop]) ?_)
      refine en_end (hf := Tryz.results13) (hr := ?_); simp only [ne, nf, nl, nr, lget, reduceIte, Nat.reduceEqDiff]; first | rfl | refine congrArg RVb ?_ | refine congrArg RVi ?_ | skip
  · rw [Bool.not_eq_true] at hg
    rw [hg] at hC ⊢
    refine (fcr_in Tryz.func13 rfl (by simp only [Tryz.ntmps13, anys, List.length_cons, List.length_nil, Nat.reduceAdd, Nat.reduceSub, List.replicate_succ, List.replicate_zero, List.cons_append, List.nil_append] <;> rfl) ?_)
    repeat' first
      | refine w_seq ?_
      | refine w_region ?_
      | refine l_nil ?_
      | refine rt_n ?_
      | refine w_ret ?_
      | refine rt_ret ?_
      | refine w_skip ?_
      | refine w_cond_t rfl ?_
      | refine w_cond_f rfl ?_
      | refine w_cnd rfl (fun hc => ?_) (fun hc => ?_)
      | refine w_cd rfl (fun hc => ?_) (fun hc => ?_)
      | refine w_cn rfl (fun hc => ?_) (fun hc => ?_)
      | refine w_cond rfl (fun hc => ?_) (fun hc => ?_)
      | (refine l_o ?_; first | refine l_op rfl (by first | (apply k_callf; first | exact ops_callf (hfc := hC) | exact ops_callf (hfc := hB) | fail) | fail) (hk := ?_) | refine l_op (hk := ?_) | (refine l_g ?_; first | refine l_y rfl rfl rfl ?_ | refine l_n rfl rfl rfl rfl (hk := ?_) | refine l_n' rfl rfl rfl (hk := ?_) | refine l_spnd rfl rfl rfl (h1 := fun hc => ?_) (h2 := fun hc => ?_) | refine l_spd rfl rfl rfl (h1 := fun hc => ?_) (h2 := fun hc => ?_) | refine l_spn rfl rfl rfl (h1 := fun hc => ?_) (h2 := fun hc => ?_) | refine l_sp rfl rfl rfl (h1 := fun hc => ?_) (h2 := fun hc => ?_)))
      | refine d_nil ?_
      | (refine d_o ?_; first | refine d_fl (hk := ?_) | refine d_ef rfl (by first | exact .callf (hfc := hC) | exact .callf (hfc := hB) | exact .callfY (hfc := hC) | exact .callfY (hfc := hB) | fail) (hk := ?_) | refine d_ef (hk := ?_) | (refine d_g ?_; first | refine d_spnd rfl rfl rfl (h1 := fun hc => ?_) (h2 := fun hc => ?_) | refine d_spd rfl rfl rfl (h1 := fun hc => ?_) (h2 := fun hc => ?_) | refine d_spn rfl rfl rfl (h1 := fun hc => ?_) (h2 := fun hc => ?_) | refine d_sp rfl rfl rfl (h1 := fun hc => ?_) (h2 := fun hc => ?_)))
      | (refine w_o ?_; first | refine w_draw (id := 6) (fun _ => true) (fun k => [2, 7, 12, 13, 14].contains k) [[], [], [], [], []] 64 (by kernel_rfl) rfl (by kernel_rfl) (by simp [nm, nset, -List.map_take, -List.map_drop]) ?_)
    refine en_end (hf := Tryz.results13) (hr := ?_); simp only [ne, nf, nl, nr, lget, reduceIte, Nat.reduceEqDiff]; first | rfl | refine congrArg RVb ?_ | refine congrArg RVi ?_ | skip
end Go.Proofs.YtmfbcipjknjicaaGreat
