/- AlikeHeaps, of the program and of the reference. For all arguments. -/
import Derived.Test.YtmfbcipjknjicaaGreatDoorJ27
import Derived.Test.YtmfbcipjknjicaaGreatDoorJ36
namespace Go.Proofs.YtmfbcipjknjicaaGreatDoor
open Eng
attribute [local irreducible] OpS OpG FC FCr Rel Fl Ef DR Fs
attribute [local simp] RV.fzR_names
set_option linter.unusedSimpArgs false
set_option linter.unusedVariables false
set_option maxHeartbeats 0
set_option maxRecDepth 100000

def alkB (c : List Int) (s m : Int) (x y : List Int) : Bool := decide (sgnB c s.toNat m.toNat x = sgnB c s.toNat m.toNat y)
def alkR (c : List Int) (s m : Int) (x y : List Int) : RV := if admB c s m x && admB c s m y then .tup [RVb (alkB c s m x y), RVb true] else .tup [RVb false, RVb false]
theorem alike_ok (c : List Int) (s m : Int) (x y : List Int) (hc : c.length ≤ 1048576) (hx : x.length ≤ 1048576) (hy : y.length ≤ 1048576) : FCr Tryz.prog 16 [RIs c, RBx s m, RIs x, RIs y] (alkR c s m x y) := by
  have hA1 := admissible_ok c s m x hc hx
  have hA2 := admissible_ok c s m y hc hy
  have hN := newMisere_ok c
  unfold alkR alkB
  by_cases h1 : admB c s m x = true
  · by_cases h2 : admB c s m y = true
    · rw [h1] at hA1 ⊢
      rw [h2] at hA2 ⊢
      obtain ⟨a, b, rfl, rfl, h11, h12, h13, h14, h15, hg, hok⟩ := admB_nat h1
      obtain ⟨a', b', ea, eb, _, _, _, _, _, _, hok2⟩ := admB_nat h2
      obtain rfl : a = a' := by omega
      obtain rfl : b = b' := by omega
      obtain ⟨M1, hM1, hs1⟩ := signs_ok hg h13 h14 hok.1 hok.2 (memOk_nil c)
      obtain ⟨M2, hM2, hs2⟩ := signs_ok hg h13 h14 hok2.1 hok2.2 hM1
      rw [Int.toNat_natCast, Int.toNat_natCast]
      have hE := equalB_ok (sgnB c a b x) (sgnB c a b y)
      generalize sgnB c a b x = X at *
      generalize sgnB c a b y = Y at *
      refine (fcr_in Tryz.func16 rfl (by simp only [Tryz.ntmps16, anys, List.length_cons, List.length_nil, Nat.reduceAdd, Nat.reduceSub, List.replicate_succ, List.replicate_zero, List.cons_append, List.nil_append] <;> rfl) ?_)
      repeat' first | apply w_seq | apply w_region | apply l_nil | apply rt_n | apply w_ret | apply rt_ret | apply w_skip | refine w_cond_t rfl ?_ | refine w_cond_f rfl ?_ | ((first | refine w_cnd rfl ?_ ?_ | refine w_cd rfl ?_ ?_ | refine w_cn rfl ?_ ?_ | refine w_cond rfl ?_ ?_) <;> intro hc) | (refine l_callM (hfc := hN) (hk := fun b _ => ?_)) | (refine l_o ?_; first | refine l_op rfl (by first | (apply k_callf; first | exact ops_callP (d := 28) 24 (MSI _ M1) (hfc := (hs1 _)) | exact ops_callP (d := 32) 24 (MSI _ M2) (hfc := (hs2 _)) | exact ops_callf (d := 14) (hfc := hA1) | exact ops_callz (d := 33) (hfc := hE) | exact ops_callf (d := 20) (hfc := hA2) | fail) | fail) (hk := ?_) | refine l_op (hk := ?_) | (refine l_g ?_; first | refine l_y rfl rfl rfl ?_ | refine l_n rfl rfl rfl rfl (hk := ?_) | refine l_n' rfl rfl rfl (hk := ?_) | refine l_spnd rfl rfl rfl (h1 := fun hc => ?_) (h2 := fun hc => ?_) | refine l_spd rfl rfl rfl (h1 := fun hc => ?_) (h2 := fun hc => ?_) | refine l_spn rfl rfl rfl (h1 := fun hc => ?_) (h2 := fun hc => ?_) | refine l_sp rfl rfl rfl (h1 := fun hc => ?_) (h2 := fun hc => ?_))) | refine d_nil ?_ | (refine d_o ?_; first | refine d_fl rfl (by first | exact .pl (by first | (apply q_callf; first | exact fs_callf (d := 20) (hfc := hA2) | fail) | fail) | exact .ye rfl rfl rfl (by first | (apply q_callf; first | exact fs_callf (d := 20) (hfc := hA2) | fail) | fail) | fail) (hk := ?_) | refine d_fl (hk := ?_) | refine d_ef rfl (by first | exact .callP (d := 28) 24 (MSI _ M1) (hfc := (hs1 _)) | exact .callP (d := 32) 24 (MSI _ M2) (hfc := (hs2 _)) | exact .callf (d := 14) (hfc := hA1) | exact .callz (d := 33) (hfc := hE) | exact .callPY (d := 28) 24 (MSI _ M1) (hfc := (hs1 _)) | exact .callPY (d := 32) 24 (MSI _ M2) (hfc := (hs2 _)) | exact .callfY (d := 14) (hfc := hA1) | exact .callzY (d := 33) (hfc := hE) | fail) (hk := ?_) | refine d_ef (hk := ?_) | (refine d_g ?_; first | refine d_spnd rfl rfl rfl (h1 := fun hc => ?_) (h2 := fun hc => ?_) | refine d_spd rfl rfl rfl (h1 := fun hc => ?_) (h2 := fun hc => ?_) | refine d_spn rfl rfl rfl (h1 := fun hc => ?_) (h2 := fun hc => ?_) | refine d_sp rfl rfl rfl (h1 := fun hc => ?_) (h2 := fun hc => ?_))) | (refine w_o ?_; first | refine w_draw (id := 4) (roL [5,10]) (fun k => [3, 7, 8].contains k) [[28],[32],[]] 64 (by kernel_rfl) rfl (by kernel_rfl) (by simp [nm, nset, -List.map_take, -List.map_drop]) ?_)
      all_goals
        refine en_end (hf := Tryz.results16) (hr := ?_); simp only [ne, nf, nl, nr, lget, reduceIte, Nat.reduceEqDiff]; first | rfl | refine congrArg RVb ?_ | refine congrArg RVi ?_ | skip
    · rw [Bool.not_eq_true] at h2
      rw [h1] at hA1 ⊢
      rw [h2] at hA2 ⊢
      refine (fcr_in Tryz.func16 rfl (by simp only [Tryz.ntmps16, anys, List.length_cons, List.length_nil, Nat.reduceAdd, Nat.reduceSub, List.replicate_succ, List.replicate_zero, List.cons_append, List.nil_append] <;> rfl) ?_)
      repeat' first | apply w_seq | apply w_region | apply l_nil | apply rt_n | apply w_ret | apply rt_ret | apply w_skip | refine w_cond_t rfl ?_ | refine w_cond_f rfl ?_ | ((first | refine w_cnd rfl ?_ ?_ | refine w_cd rfl ?_ ?_ | refine w_cn rfl ?_ ?_ | refine w_cond rfl ?_ ?_) <;> intro hc) | (refine l_o ?_; first | refine l_op rfl (by first | (apply k_callf; first | exact ops_callf (d := 14) (hfc := hA1) | exact ops_callf (d := 20) (hfc := hA2) | fail) | fail) (hk := ?_) | refine l_op (hk := ?_) | (refine l_g ?_; first | refine l_y rfl rfl rfl ?_ | refine l_n rfl rfl rfl rfl (hk := ?_) | refine l_n' rfl rfl rfl (hk := ?_) | refine l_spnd rfl rfl rfl (h1 := fun hc => ?_) (h2 := fun hc => ?_) | refine l_spd rfl rfl rfl (h1 := fun hc => ?_) (h2 := fun hc => ?_) | refine l_spn rfl rfl rfl (h1 := fun hc => ?_) (h2 := fun hc => ?_) | refine l_sp rfl rfl rfl (h1 := fun hc => ?_) (h2 := fun hc => ?_))) | refine d_nil ?_ | (refine d_o ?_; first | refine d_fl rfl (by first | exact .pl (by first | (apply q_callf; first | exact fs_callf (d := 20) (hfc := hA2) | fail) | fail) | exact .ye rfl rfl rfl (by first | (apply q_callf; first | exact fs_callf (d := 20) (hfc := hA2) | fail) | fail) | fail) (hk := ?_) | refine d_fl (hk := ?_) | refine d_ef rfl (by first | exact .callf (d := 14) (hfc := hA1) | exact .callfY (d := 14) (hfc := hA1) | fail) (hk := ?_) | refine d_ef (hk := ?_) | (refine d_g ?_; first | refine d_spnd rfl rfl rfl (h1 := fun hc => ?_) (h2 := fun hc => ?_) | refine d_spd rfl rfl rfl (h1 := fun hc => ?_) (h2 := fun hc => ?_) | refine d_spn rfl rfl rfl (h1 := fun hc => ?_) (h2 := fun hc => ?_) | refine d_sp rfl rfl rfl (h1 := fun hc => ?_) (h2 := fun hc => ?_))) | (refine w_o ?_; first | refine w_draw (id := 4) (fun _ => true) (fun k => [3, 7, 8].contains k) [[], [], []] 64 (by kernel_rfl) rfl (by kernel_rfl) (by simp [nm, nset, -List.map_take, -List.map_drop]) ?_)
      refine en_end (hf := Tryz.results16) (hr := ?_); simp only [ne, nf, nl, nr, lget, reduceIte, Nat.reduceEqDiff]; first | rfl | refine congrArg RVb ?_ | refine congrArg RVi ?_ | skip
  · rw [Bool.not_eq_true] at h1
    rw [h1] at hA1 ⊢
    refine (fcr_in Tryz.func16 rfl (by simp only [Tryz.ntmps16, anys, List.length_cons, List.length_nil, Nat.reduceAdd, Nat.reduceSub, List.replicate_succ, List.replicate_zero, List.cons_append, List.nil_append] <;> rfl) ?_)
    repeat' first | apply w_seq | apply w_region | apply l_nil | apply rt_n | apply w_ret | apply rt_ret | apply w_skip | refine w_cond_t rfl ?_ | refine w_cond_f rfl ?_ | ((first | refine w_cnd rfl ?_ ?_ | refine w_cd rfl ?_ ?_ | refine w_cn rfl ?_ ?_ | refine w_cond rfl ?_ ?_) <;> intro hc) | (refine l_o ?_; first | refine l_op rfl (by first | (apply k_callf; first | exact ops_callf (d := 14) (hfc := hA1) | fail) | fail) (hk := ?_) | refine l_op (hk := ?_) | (refine l_g ?_; first | refine l_y rfl rfl rfl ?_ | refine l_n rfl rfl rfl rfl (hk := ?_) | refine l_n' rfl rfl rfl (hk := ?_) | refine l_spnd rfl rfl rfl (h1 := fun hc => ?_) (h2 := fun hc => ?_) | refine l_spd rfl rfl rfl (h1 := fun hc => ?_) (h2 := fun hc => ?_) | refine l_spn rfl rfl rfl (h1 := fun hc => ?_) (h2 := fun hc => ?_) | refine l_sp rfl rfl rfl (h1 := fun hc => ?_) (h2 := fun hc => ?_))) | refine d_nil ?_ | (refine d_o ?_; first | refine d_fl (hk := ?_) | refine d_ef rfl (by first | exact .callf (d := 14) (hfc := hA1) | exact .callfY (d := 14) (hfc := hA1) | fail) (hk := ?_) | refine d_ef (hk := ?_) | (refine d_g ?_; first | refine d_spnd rfl rfl rfl (h1 := fun hc => ?_) (h2 := fun hc => ?_) | refine d_spd rfl rfl rfl (h1 := fun hc => ?_) (h2 := fun hc => ?_) | refine d_spn rfl rfl rfl (h1 := fun hc => ?_) (h2 := fun hc => ?_) | refine d_sp rfl rfl rfl (h1 := fun hc => ?_) (h2 := fun hc => ?_))) | (refine w_o ?_; first | refine w_draw (id := 4) (fun _ => true) (fun k => [3, 7, 8].contains k) [[], [], []] 64 (by kernel_rfl) rfl (by kernel_rfl) (by simp [nm, nset, -List.map_take, -List.map_drop]) ?_)
    refine en_end (hf := Tryz.results16) (hr := ?_); simp only [ne, nf, nl, nr, lget, reduceIte, Nat.reduceEqDiff]; first | rfl | refine congrArg RVb ?_ | refine congrArg RVi ?_ | skip
end Go.Proofs.YtmfbcipjknjicaaGreatDoor
