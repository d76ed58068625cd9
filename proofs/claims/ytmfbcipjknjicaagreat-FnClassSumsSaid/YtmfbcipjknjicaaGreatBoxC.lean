/- The program's classes of positions and of sums. For all arguments. -/
import Derived.Test.YtmfbcipjknjicaaGreatBoxS
import Derived.Test.YtmfbcipjknjicaaGreatDrawE
namespace Go.Proofs.YtmfbcipjknjicaaGreat
open Eng
attribute [local irreducible] OpS OpG FC FCr Rel Fl Ef DR Fs
attribute [local simp] RV.fzR_names
set_option linter.unusedSimpArgs false
set_option linter.unusedVariables false
set_option maxHeartbeats 0
set_option maxRecDepth 100000

theorem admB_nat {c : List Int} {s m : Int} {h : List Int} (ha : admB c s m h = true) : ∃ a b : Nat, s = a ∧ m = b ∧ 1 ≤ a ∧ 1 ≤ b ∧ a ≤ 6 ∧ b ≤ 6 ∧ a * b ≤ 6 ∧ gcode c = true ∧ okS a b h := by
  simp only [admB, Bool.and_eq_true, decide_eq_true_eq] at ha
  obtain ⟨a, b, rfl, rfl, h1, h2, h3, h4, h5⟩ := goodB_nat ha.1
  refine ⟨a, b, rfl, rfl, h1, h2, h3, h4, h5, ha.2.1.1, ha.2.1.2, ?_⟩
  have := ha.2.2
  rw [← Int.natCast_mul] at this
  omega
theorem classOf_ok (c : List Int) (s m : Int) (h : List Int) (hc : c.length ≤ 1048576) (hl : h.length ≤ 1048576) : FCr Tryz.prog 32 [RIs c, RBx s m, RIs h] (if admB c s m h then .tup [RVi (max (clsB c s.toNat m.toNat h) 0), RVb (decide (0 ≤ clsB c s.toNat m.toNat h))] else .tup [RVi 0, RVb false]) := by
  have hA := admissible_ok c s m h hc hl
  have hN := newMisere_ok c
  by_cases ha : admB c s m h = true
  · rw [ha] at hA ⊢
    obtain ⟨a, b, rfl, rfl, h1, h2, h3, h4, h5, hg, hok⟩ := admB_nat ha
    obtain ⟨M', _, hcl⟩ := class_ok hg h3 h4 h5 hok (memOk_nil c)
    rw [Int.toNat_natCast, Int.toNat_natCast]
    generalize clsB c a b h = v at *
    refine (fcr_in Tryz.func32 rfl (by simp only [Tryz.ntmps32, anys, List.length_cons, List.length_nil, Nat.reduceAdd, Nat.reduceSub, List.replicate_succ, List.replicate_zero, List.cons_append, List.nil_append] <;> rfl) ?_)
    repeat' first
      | refine w_seq ?_
      | refine w_region ?_
      | refine l_nil ?_
      | refine rt_n ?_
      | refine w_ret ?_
      | refine rt_ret ?_
      | refine w_skip ?_
      | refine w_cond_t rfl ?_
      | refine w_cond_f rfl ?_
      | refine w_cnd rfl (fun hc => ?_) (fun hc => ?_)
      | refine w_cd rfl (fun hc => ?_) (fun hc => ?_)
      | refine w_cn rfl (fun hc => ?_) (fun hc => ?_)
      | refine w_cond rfl (fun hc => ?_) (fun hc => ?_)
      | (refine l_callM (hfc := hN) (hk := fun b _ => ?_))
      | (refine l_o ?_; first | refine l_op rfl (by first | (apply k_callf; first | exact ops_callP (d := 18) 15 (MSI _ M') (hfc := (hcl _)) | exact ops_callf (hfc := hA) | fail) | fail) (hk := ?_) | refine l_op (hk := ?_))
      | refine y_fin (by decide +kernel) ?_
      | refine y_go (by decide +kernel) ?_
      | exact yb_z
      | refine yb_skip (by decide +kernel) ?_
      | refine yb_go rfl ?_ ?_
      | refine d_nil ?_
      | (refine d_o ?_; first | refine d_fl (hk := ?_) | refine d_ef rfl (by first | exact .callP (d := 18) 15 (MSI _ M') (hfc := (hcl _)) | exact .callf (hfc := hA) | fail) (hk := ?_) | refine d_ef (hk := ?_))
      | (refine w_o ?_; first | refine w_drawE (id := 3) (by kernel_rfl) ?_)
    all_goals
      refine en_end (hf := Tryz.results32) (hr := ?_); simp only [ne, nf, nl, nr, lget, reduceIte, Nat.reduceEqDiff]; first | rfl | refine congrArg RVb ?_ | refine congrArg RVi ?_ | skip
  · rw [Bool.not_eq_true] at ha
    rw [ha] at hA ⊢
    refine (fcr_in Tryz.func32 rfl (by simp only [Tryz.ntmps32, anys, List.length_cons, List.length_nil, Nat.reduceAdd, Nat.reduceSub, List.replicate_succ, List.replicate_zero, List.cons_append, List.nil_append] <;> rfl) ?_)
    repeat' first
      | refine w_seq ?_
      | refine w_region ?_
      | refine l_nil ?_
      | refine rt_n ?_
      | refine w_ret ?_
      | refine rt_ret ?_
      | refine w_skip ?_
      | refine w_cond_t rfl ?_
      | refine w_cond_f rfl ?_
      | refine w_cnd rfl (fun hc => ?_) (fun hc => ?_)
      | refine w_cd rfl (fun hc => ?_) (fun hc => ?_)
      | refine w_cn rfl (fun hc => ?_) (fun hc => ?_)
      | refine w_cond rfl (fun hc => ?_) (fun hc => ?_)
      | (refine l_o ?_; first | refine l_op rfl (by first | (apply k_callf; first | exact ops_callf (hfc := hA) | fail) | fail) (hk := ?_) | refine l_op (hk := ?_))
      | refine d_nil ?_
      | (refine d_o ?_; first | refine d_fl (hk := ?_) | refine d_ef rfl (by first | exact .callf (hfc := hA) | fail) (hk := ?_) | refine d_ef (hk := ?_))
      | (refine w_o ?_; first | refine w_draw (id := 3) (fun _ => true) (fun k => [1, 4].contains k) [[], []] 64 (by kernel_rfl) rfl (by kernel_rfl) (by simp [nm, nset, -List.map_take, -List.map_drop]) ?_)
    refine en_end (hf := Tryz.results32) (hr := ?_); simp only [ne, nf, nl, nr, lget, reduceIte, Nat.reduceEqDiff]; first | rfl | refine congrArg RVb ?_ | refine congrArg RVi ?_ | skip
/-- What ClassOf tells, and what ClassSum tells. -/
def cofR (c : List Int) (s m : Int) (h : List Int) : RV := if admB c s m h then .tup [RVi (max (clsB c s.toNat m.toNat h) 0), RVb (decide (0 ≤ clsB c s.toNat m.toNat h))] else .tup [RVi 0, RVb false]
def csB (c : List Int) (s m i k : Int) : Bool := gcode c && goodB s m && (decide (0 ≤ i) && decide (i < ((posB s.toNat m.toNat).length : Nat)) && decide (0 ≤ k) && decide (k < ((posB s.toNat m.toNat).length : Nat)))
def csR (c : List Int) (s m i k : Int) : RV := if csB c s m i k then cofR c s m (togH ((posB s.toNat m.toNat).getD i.toNat []) ((posB s.toNat m.toNat).getD k.toNat [])) else .tup [RVi 0, RVb false]
theorem cofR_ok (c : List Int) (s m : Int) (h : List Int) : ∃ v o, cofR c s m h = .tup [RVi v, RVb o] := by
  unfold cofR
  split
  · exact ⟨_, _, rfl⟩
  · exact ⟨_, _, rfl⟩
theorem togH_len {h p : List Int} : (togH h p).length ≤ h.length + p.length := by
  rw [togH, srtI_len]
  have := fillH_len (h ++ p)
  rw [List.length_append] at this
  exact this
theorem classSum_ok (c : List Int) (s m i k : Int) (hc : c.length ≤ 1048576) : FCr Tryz.prog 12 [RIs c, RBx s m, RVi i, RVi k] (csR c s m i k) := by
  have hC := goodCode_ok c hc
  have hB := goodBox_ok s m
  unfold csR csB
  by_cases hg : gcode c = true
  · by_cases hb : goodB s m = true
    · obtain ⟨a, b, rfl, rfl, h1, h2, h3, h4, h5⟩ := goodB_nat hb
      rw [hg] at hC ⊢
      rw [hb] at hB ⊢
      have hP := positions_ok h3 h4
      have hpl : (posB a b).length ≤ 1000000 := by have := posT_len h3 (b + 1) (by omega); unfold posB; omega
      have hpm : ∀ p ∈ posB a b, p.length ≤ 20 := fun p hp => by have := (posB_mem hp).1; omega
      rw [Int.toNat_natCast, Int.toNat_natCast]
      have hcof : ∀ h : List Int, h.length ≤ 1048576 → FCr Tryz.prog 32 [RIs c, RBx (a : Int) (b : Int), RIs h] (cofR c a b h) := fun h hl => classOf_ok c a b h hc hl
      generalize posB a b = P at *
      by_cases hik : 0 ≤ i ∧ i < (P.length : Nat) ∧ 0 ≤ k ∧ k < (P.length : Nat)
      · obtain ⟨i1, i2, k1, k2⟩ := hik
        rw [decide_eq_true i1, decide_eq_true i2, decide_eq_true k1, decide_eq_true k2]
        have hi3 : i.toNat < P.length := by omega
        have hk3 : k.toNat < P.length := by omega
        have ei : P.getD i.toNat [] = P[i.toNat] := by rw [List.getD_eq_getElem?_getD, List.getElem?_eq_getElem hi3]; rfl
        have ek : P.getD k.toNat [] = P[k.toNat] := by rw [List.getD_eq_getElem?_getD, List.getElem?_eq_getElem hk3]; rfl
        rw [ei, ek]
        have hl1 := hpm _ (List.getElem_mem hi3)
        have hl2 := hpm _ (List.getElem_mem hk3)
        have hT := together_ok P[i.toNat] P[k.toNat] (by omega) (by omega)
        have htl := togH_len (h := P[i.toNat]) (p := P[k.toNat])
        have hF := hcof (togH P[i.toNat] P[k.toNat]) (by omega)
        obtain ⟨v, o, e⟩ := cofR_ok c a b (togH P[i.toNat] P[k.toNat])
        rw [e] at hF ⊢
        generalize togH P[i.toNat] P[k.toNat] = T at *
        simp only [Bool.and_self, reduceIte]
        refine (fcr_in Tryz.func12 rfl (by simp only [Tryz.ntmps12, anys, List.length_cons, List.length_nil, Nat.reduceAdd, Nat.reduceSub, List.replicate_succ, List.replicate_zero, List.cons_append, List.nil_append] <;> rfl) ?_)
        repeat' first
          | refine w_seq ?_
          | refine w_region ?_
          | refine l_nil ?_
          | refine rt_n ?_
          | refine w_ret ?_
          | refine rt_ret ?_
          | refine w_skip ?_
          | refine w_cond_t rfl ?_
          | refine w_cond_f rfl ?_
          | refine w_cnd rfl (fun hc => ?_) (fun hc => ?_)
          | refine w_cd rfl (fun hc => ?_) (fun hc => ?_)
          | refine w_cn rfl (fun hc => ?_) (fun hc => ?_)
          | refine w_cond rfl (fun hc => ?_) (fun hc => ?_)
          | (exfalso; omega)
          | (refine l_o ?_; first | refine l_op rfl (by first | (apply k_callf; first | exact ops_callf (d := 20) (hfc := hP) | exact ops_callf (d := 49) (hfc := hT) | exact ops_callf (d := 50) (hfc := hF) | exact ops_callf (hfc := hC) | exact ops_callf (hfc := hB) | fail) | fail) (hk := ?_) | refine l_op (hk := ?_) | (refine l_g ?_; first | refine l_y rfl rfl rfl ?_ | refine l_n rfl rfl rfl rfl (hk := ?_) | refine l_n' rfl rfl rfl (hk := ?_) | refine l_spnd rfl rfl rfl (h1 := fun hc => ?_) (h2 := fun hc => ?_) | refine l_spd rfl rfl rfl (h1 := fun hc => ?_) (h2 := fun hc => ?_) | refine l_spn rfl rfl rfl (h1 := fun hc => ?_) (h2 := fun hc => ?_) | refine l_sp rfl rfl rfl (h1 := fun hc => ?_) (h2 := fun hc => ?_)))
          | refine d_nil ?_
          | (refine d_o ?_; first | refine d_fl rfl (by first | exact .pl (by first | (apply q_callf; first | exact fs_callf (d := 49) (hfc := hT) | exact fs_callf (d := 50) (hfc := hF) | fail) | fail) | exact .ye rfl rfl rfl (by first | (apply q_callf; first | exact fs_callf (d := 49) (hfc := hT) | exact fs_callf (d := 50) (hfc := hF) | fail) | fail) | fail) (hk := ?_) | refine d_fl (hk := ?_) | refine d_ef rfl (by first | exact .callf (d := 20) (hfc := hP) | exact .callf (hfc := hC) | exact .callf (hfc := hB) | exact .callfY (d := 20) (hfc := hP) | exact .callfY (hfc := hC) | exact .callfY (hfc := hB) | fail) (hk := ?_) | refine d_ef (hk := ?_) | (refine d_g ?_; first | refine d_spnd rfl rfl rfl (h1 := fun hc => ?_) (h2 := fun hc => ?_) | refine d_spd rfl rfl rfl (h1 := fun hc => ?_) (h2 := fun hc => ?_) | refine d_spn rfl rfl rfl (h1 := fun hc => ?_) (h2 := fun hc => ?_) | refine d_sp rfl rfl rfl (h1 := fun hc => ?_) (h2 := fun hc => ?_)))
          | (refine w_o ?_; first | refine w_draw (id := 6) (roL [5]) (fun k => [].contains k) [] 64 (by kernel_rfl) rfl (by kernel_rfl) (by simp [nm, nset, -List.map_take, -List.map_drop]) ?_)
        all_goals
          refine en_end (hf := Tryz.results12) (hr := ?_); simp only [ne, nf, nl, nr, lget, reduceIte, Nat.reduceEqDiff]; first | rfl | refine congrArg RVb ?_ | refine congrArg RVi ?_ | skip
      · have hf : (decide (0 ≤ i) && decide (i < (P.length : Nat)) && decide (0 ≤ k) && decide (k < (P.length : Nat))) = false := by
          cases hbb : (decide (0 ≤ i) && decide (i < (P.length : Nat)) && decide (0 ≤ k) && decide (k < (P.length : Nat))) with
          | false => rfl
          | true =>
            simp only [Bool.and_eq_true, decide_eq_true_eq] at hbb
            exact absurd ⟨hbb.1.1.1, hbb.1.1.2, hbb.1.2, hbb.2⟩ hik
        rw [hf]
        refine (fcr_in Tryz.func12 rfl (by simp only [Tryz.ntmps12, anys, List.length_cons, List.length_nil, Nat.reduceAdd, Nat.reduceSub, List.replicate_succ, List.replicate_zero, List.cons_append, List.nil_append] <;> rfl) ?_)
        repeat' first
          | refine w_seq ?_
          | refine w_region ?_
          | refine l_nil ?_
          | refine rt_n ?_
          | refine w_ret ?_
          | refine rt_ret ?_
          | refine w_skip ?_
          | refine w_cond_t rfl ?_
          | refine w_cond_f rfl ?_
          | refine w_cnd rfl (fun hc => ?_) (fun hc => ?_)
          | refine w_cd rfl (fun hc => ?_) (fun hc => ?_)
          | refine w_cn rfl (fun hc => ?_) (fun hc => ?_)
          | refine w_cond rfl (fun hc => ?_) (fun hc => ?_)
          | (exfalso; omega)
          | (refine l_o ?_; first | refine l_op rfl (by first | (apply k_callf; first | exact ops_callf (d := 20) (hfc := hP) | exact ops_callf (hfc := hC) | exact ops_callf (hfc := hB) | fail) | fail) (hk := ?_) | refine l_op (hk := ?_) | (refine l_g ?_; first | refine l_y rfl rfl rfl ?_ | refine l_n rfl rfl rfl rfl (hk := ?_) | refine l_n' rfl rfl rfl (hk := ?_) | refine l_spnd rfl rfl rfl (h1 := fun hc => ?_) (h2 := fun hc => ?_) | refine l_spd rfl rfl rfl (h1 := fun hc => ?_) (h2 := fun hc => ?_) | refine l_spn rfl rfl rfl (h1 := fun hc => ?_) (h2 := fun hc => ?_) | refine l_sp rfl rfl rfl (h1 := fun hc => ?_) (h2 := fun hc => ?_)))
          | refine d_nil ?_
          | (refine d_o ?_; first | refine d_fl (hk := ?_) | refine d_ef rfl (by first | exact .callf (d := 20) (hfc := hP) | exact .callf (hfc := hC) | exact .callf (hfc := hB) | exact .callfY (d := 20) (hfc := hP) | exact .callfY (hfc := hC) | exact .callfY (hfc := hB) | fail) (hk := ?_) | refine d_ef (hk := ?_) | (refine d_g ?_; first | refine d_spnd rfl rfl rfl (h1 := fun hc => ?_) (h2 := fun hc => ?_) | refine d_spd rfl rfl rfl (h1 := fun hc => ?_) (h2 := fun hc => ?_) | refine d_spn rfl rfl rfl (h1 := fun hc => ?_) (h2 := fun hc => ?_) | refine d_sp rfl rfl rfl (h1 := fun hc => ?_) (h2 := fun hc => ?_)))
          | (refine w_o ?_; first | refine w_draw (id := 6) (fun _ => true) (fun k => [10, 11].contains k) [[], []] 64 (by kernel_rfl) rfl (by kernel_rfl) (by simp [nm, nset, -List.map_take, -List.map_drop]) ?_)
        all_goals
          refine en_end (hf := Tryz.results12) (hr := ?_); simp only [ne, nf, nl, nr, lget, reduceIte, Nat.reduceEqDiff]; first | rfl | refine congrArg RVb ?_ | refine congrArg RVi ?_ | skip
    · rw [Bool.not_eq_true] at hb
      rw [hg] at hC ⊢
      rw [hb] at hB ⊢
      refine (fcr_in Tryz.func12 rfl (by simp only [Tryz.ntmps12, anys, List.length_cons, List.length_nil, Nat.reduceAdd, Nat.reduceSub, List.replicate_succ, List.replicate_zero, List.cons_append, List.nil_append] <;> rfl) ?_)
      repeat' first
        | refine w_seq ?_
        | refine w_region ?_
        | refine l_nil ?_
        | refine rt_n ?_
        | refine w_ret ?_
        | refine rt_ret ?_
        | refine w_skip ?_
        | refine w_cond_t rfl ?_
        | refine w_cond_f rfl ?_
        | refine w_cnd rfl (fun hc => ?_) (fun hc => ?_)
        | refine w_cd rfl (fun hc => ?_) (fun hc => ?_)
        | refine w_cn rfl (fun hc => ?_) (fun hc => ?_)
        | refine w_cond rfl (fun hc => ?_) (fun hc => ?_)
        | (refine l_o ?_; first | refine l_op rfl (by first | (apply k_callf; first | exact ops_callf (hfc := hC) | exact ops_callf (hfc := hB) | fail) | fail) (hk := ?_) | refine l_op (hk := ?_) | (refine l_g ?_; first | refine l_y rfl rfl rfl ?_ | refine l_n rfl rfl rfl rfl (hk := ?_) | refine l_n' rfl rfl rfl (hk := ?_) | refine l_spnd rfl rfl rfl (h1 := fun hc => ?_) (h2 := fun hc => ?_) | refine l_spd rfl rfl rfl (h1 := fun hc => ?_) (h2 := fun hc => ?_) | refine l_spn rfl rfl rfl (h1 := fun hc => ?_) (h2 := fun hc => ?_) | refine l_sp rfl rfl rfl (h1 := fun hc => ?_) (h2 := fun hc => ?_)))
        | refine d_nil ?_
        | (refine d_o ?_; first | refine d_fl (hk := ?_) | refine d_ef rfl (by first | exact .callf (hfc := hC) | exact .callf (hfc := hB) | exact .callfY (hfc := hC) | exact .callfY (hfc := hB) | fail) (hk := ?_) | refine d_ef (hk := ?_) | (refine d_g ?_; first | refine d_spnd rfl rfl rfl (h1 := fun hc => ?_) (h2 := fun hc => ?_) | refine d_spd rfl rfl rfl (h1 := fun hc => ?_) (h2 := fun hc => ?_) | refine d_spn rfl rfl rfl (h1 := fun hc => ?_) (h2 := fun hc => ?_) | refine d_sp rfl rfl rfl (h1 := fun hc => ?_) (h2 := fun hc => ?_)))
        | (refine w_o ?_; first | refine w_draw (id := 6) (fun _ => true) (fun k => [10, 11].contains k) [[], []] 64 (by kernel_rfl) rfl (by kernel_rfl) (by simp [nm, nset, -List.map_take, -List.map_drop]) ?_)
      refine en_end (hf := Tryz.results12) (hr := ?_); simp only [ne, nf, nl, nr, lget, reduceIte, Nat.reduceEqDiff]; first | rfl | refine congrArg RVb ?_ | refine congrArg RVi ?_ | skip
  · rw [Bool.not_eq_true] at hg
    rw [hg] at hC ⊢
    refine (fcr_in Tryz.func12 rfl (by simp only [Tryz.ntmps12, anys, List.length_cons, List.length_nil, Nat.reduceAdd, Nat.reduceSub, List.replicate_succ, List.replicate_zero, List.cons_append, List.nil_append] <;> rfl) ?_)
    repeat' first
      | refine w_seq ?_
      | refine w_region ?_
      | refine l_nil ?_
      | refine rt_n ?_
      | refine w_ret ?_
      | refine rt_ret ?_
      | refine w_skip ?_
      | refine w_cond_t rfl ?_
      | refine w_cond_f rfl ?_
      | refine w_cnd rfl (fun hc => ?_) (fun hc => ?_)
      | refine w_cd rfl (fun hc => ?_) (fun hc => ?_)
      | refine w_cn rfl (fun hc => ?_) (fun hc => ?_)
      | refine w_cond rfl (fun hc => ?_) (fun hc => ?_)
      | (refine l_o ?_; first | refine l_op rfl (by first | (apply k_callf; first | exact ops_callf (hfc := hC) | exact ops_callf (hfc := hB) | fail) | fail) (hk := ?_) | refine l_op (hk := ?_) | (refine l_g ?_; first | refine l_y rfl rfl rfl ?_ | refine l_n rfl rfl rfl rfl (hk := ?_) | refine l_n' rfl rfl rfl (hk := ?_) | refine l_spnd rfl rfl rfl (h1 := fun hc => ?_) (h2 := fun hc => ?_) | refine l_spd rfl rfl rfl (h1 := fun hc => ?_) (h2 := fun hc => ?_) | refine l_spn rfl rfl rfl (h1 := fun hc => ?_) (h2 := fun hc => ?_) | refine l_sp rfl rfl rfl (h1 := fun hc => ?_) (h2 := fun hc => ?_)))
      | refine d_nil ?_
      | (refine d_o ?_; first | refine d_fl (hk := ?_) | refine d_ef rfl (by first | exact .callf (hfc := hC) | exact .callf (hfc := hB) | exact .callfY (hfc := hC) | exact .callfY (hfc := hB) | fail) (hk := ?_) | refine d_ef (hk := ?_) | (refine d_g ?_; first | refine d_spnd rfl rfl rfl (h1 := fun hc => ?_) (h2 := fun hc => ?_) | refine d_spd rfl rfl rfl (h1 := fun hc => ?_) (h2 := fun hc => ?_) | refine d_spn rfl rfl rfl (h1 := fun hc => ?_) (h2 := fun hc => ?_) | refine d_sp rfl rfl rfl (h1 := fun hc => ?_) (h2 := fun hc => ?_)))
      | (refine w_o ?_; first | refine w_draw (id := 6) (fun _ => true) (fun k => [10, 11].contains k) [[], []] 64 (by kernel_rfl) rfl (by kernel_rfl) (by simp [nm, nset, -List.map_take, -List.map_drop]) ?_)
    refine en_end (hf := Tryz.results12) (hr := ?_); simp only [ne, nf, nl, nr, lget, reduceIte, Nat.reduceEqDiff]; first | rfl | refine congrArg RVb ?_ | refine congrArg RVi ?_ | skip
end Go.Proofs.YtmfbcipjknjicaaGreat
