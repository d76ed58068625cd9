/- What the draws of the misere laws give: lists of at most 60 numbers. For all bytes. -/
import Derived.Test.YtmfbcipjknjicaaGreatDoorDrawM
import Derived.Test.YtmfbcipjknjicaaGreatDoorJ10
import Derived.Test.YtmfbcipjknjicaaGreatDoorJ27
import Derived.Test.YtmfbcipjknjicaaGreatDoorJ6
namespace Go.Proofs.YtmfbcipjknjicaaGreatDoor
open Eng
attribute [local irreducible] OpS OpG FC FCr Rel Fl Ef DR Fs
attribute [local simp] RV.fzR_names
set_option linter.unusedSimpArgs false
set_option linter.unusedVariables false
set_option maxHeartbeats 0
set_option maxRecDepth 100000

end Go.Proofs.YtmfbcipjknjicaaGreatDoor
/- Codes, boxes, and pairs of heaps drawn: what is drawn is bounded. For all readers within the bounds that the theorems name. -/
namespace Go.Proofs.YtmfbcipjknjicaaGreatDoor
open Eng
attribute [local irreducible] OpS OpG FC FCr Rel Fl Ef DR Fs
attribute [local simp] RV.fzR_names
set_option linter.unusedSimpArgs false
set_option linter.unusedVariables false
set_option maxHeartbeats 0
set_option maxRecDepth 100000

def ME (at0 : Nat) (x : List Int × Cur) : Prop := x.1.length ≤ 60 ∧ x.2.at_ ≤ at0 + 2000
def knD : List (List Int) := [[7, 7], [3, 3], [3, 1], [0, 7], [1, 3, 7], [3, 3, 3], [7], [1, 2, 3], [2, 7]]
theorem knD_len : ∀ x ∈ knD, x.length ≤ 4 := by decide
theorem drawCodeD_ok (c : Cur) (h : c.at_ ≤ 1099511610000) : FC Tryz.prog 64 [.ptr 1000000000000 0 0] [(1000000000000, 3, [RCur c])]
    (fun rv O => ∃ x : List Int × Cur, ME c.at_ x ∧ rv = OIs x.1 ∧ O = [(1000000000000, 3, [RCur x.2])]) := by
  have p2 := one_ok c 3 (by omega) (by omega)
  have a2 := pickC_at c 3
  generalize pickV c 3 = o4 at *
  generalize pickC c 3 = c2 at *
  by_cases h3 : ((o4 : Nat) : Int) = 0
  · rw [decide_eq_true h3] at p2
    have q1 := drawCode_ok c2 (by omega)
    refine (fc_in Tryz.func64 rfl (by simp only [Tryz.ntmps64, anys, List.length_cons, List.length_nil, Nat.reduceAdd, Nat.reduceSub, List.replicate_succ, List.replicate_zero, List.cons_append, List.nil_append] <;> rfl) ?_)
    repeat' first | apply w_seq | apply w_region | apply l_nil | apply rt_n | apply w_ret | apply rt_ret | apply w_skip | refine w_cond_t rfl ?_ | refine w_cond_f rfl ?_ | ((first | refine w_cnd rfl ?_ ?_ | refine w_cd rfl ?_ ?_ | refine w_cn rfl ?_ ?_ | refine w_cond rfl ?_ ?_) <;> intro hc) | (refine l_o ?_; first | refine l_op rfl (by first | (apply k_buildSlice; first | exact ops_buildSlice_fz (d := some 4) (k := 1) rfl rfl rfl (by decide) (by decide) (by kernel_rfl) (by decide +kernel) rfl | exact ops_buildSlice_fz (d := some 5) (k := 1) rfl rfl rfl (by decide) (by decide) (by kernel_rfl) (by decide +kernel) rfl | exact ops_buildSlice_fz (d := some 6) (k := 1) rfl rfl rfl (by decide) (by decide) (by kernel_rfl) (by decide +kernel) rfl | exact ops_buildSlice_fz (d := some 7) (k := 1) rfl rfl rfl (by decide) (by decide) (by kernel_rfl) (by decide +kernel) rfl | exact ops_buildSlice_fz (d := some 8) (k := 1) rfl rfl rfl (by decide) (by decide) (by kernel_rfl) (by decide +kernel) rfl | exact ops_buildSlice_fz (d := some 9) (k := 1) rfl rfl rfl (by decide) (by decide) (by kernel_rfl) (by decide +kernel) rfl | exact ops_buildSlice_fz (d := some 10) (k := 1) rfl rfl rfl (by decide) (by decide) (by kernel_rfl) (by decide +kernel) rfl | exact ops_buildSlice_fz (d := some 11) (k := 1) rfl rfl rfl (by decide) (by decide) (by kernel_rfl) (by decide +kernel) rfl | exact ops_buildSlice_fz (d := some 12) (k := 1) rfl rfl rfl (by decide) (by decide) (by kernel_rfl) (by decide +kernel) rfl | exact ops_buildSlice_fz (d := some 13) (k := 1) rfl rfl rfl (by decide) (by decide) (by kernel_rfl) (by decide +kernel) rfl | fail) | (apply k_callf; first | exact ops_callP (d := 15) 1000000000000 [RCur c2] (hfc := p2) | fail) | fail) (hk := ?_) | refine l_op (hk := ?_))
    refine l_callPx (MD c2.at_) (fun x => OIs x.1) 1000000000000 (fun x => [RCur x.2]) q1 (hk := fun x hx => ?_)
    obtain ⟨a, c3⟩ := x
    obtain ⟨g1, g2⟩ := hx
    dsimp only at g1 g2 ⊢
    repeat' first | apply w_seq | apply w_region | apply l_nil | apply rt_n | apply w_ret | apply rt_ret | apply w_skip | refine w_cond_t rfl ?_ | refine w_cond_f rfl ?_ | ((first | refine w_cnd rfl ?_ ?_ | refine w_cd rfl ?_ ?_ | refine w_cn rfl ?_ ?_ | refine w_cond rfl ?_ ?_) <;> intro hc) | (refine l_o ?_; first | refine l_op (hk := ?_))
    refine en_ex (a, c3) ⟨g1, by dsimp only; omega⟩ ?_
    refine en_endm [] (hf := Tryz.results64) (hO := ?_) (hr := ?_)
    · rfl
    · rfl
  · rw [decide_eq_false h3] at p2
    have p3 := pick_ok c2 9 (by omega) (by omega)
    have v3 := pickV_lt c2 9 (by omega)
    have a3 := pickC_at c2 9
    generalize pickV c2 9 = n at *
    generalize pickC c2 9 = c3 at *
    have hkl : knD.length = 9 := rfl
    have hk := knD_len _ (List.getElem_mem (show n < knD.length by omega))
    refine (fc_in Tryz.func64 rfl (by simp only [Tryz.ntmps64, anys, List.length_cons, List.length_nil, Nat.reduceAdd, Nat.reduceSub, List.replicate_succ, List.replicate_zero, List.cons_append, List.nil_append] <;> rfl) ?_)
    repeat' first | apply w_seq | apply w_region | apply l_nil | apply rt_n | apply w_ret | apply rt_ret | apply w_skip | refine w_cond_t rfl ?_ | refine w_cond_f rfl ?_ | ((first | refine w_cnd rfl ?_ ?_ | refine w_cd rfl ?_ ?_ | refine w_cn rfl ?_ ?_ | refine w_cond rfl ?_ ?_) <;> intro hc) | (refine l_o ?_; first | refine l_op rfl (by first | (apply k_buildSlice; first | exact ops_buildSlice_fz (d := some 4) (k := 1) rfl rfl rfl (by decide) (by decide) (by kernel_rfl) (by decide +kernel) rfl | exact ops_buildSlice_fz (d := some 5) (k := 1) rfl rfl rfl (by decide) (by decide) (by kernel_rfl) (by decide +kernel) rfl | exact ops_buildSlice_fz (d := some 6) (k := 1) rfl rfl rfl (by decide) (by decide) (by kernel_rfl) (by decide +kernel) rfl | exact ops_buildSlice_fz (d := some 7) (k := 1) rfl rfl rfl (by decide) (by decide) (by kernel_rfl) (by decide +kernel) rfl | exact ops_buildSlice_fz (d := some 8) (k := 1) rfl rfl rfl (by decide) (by decide) (by kernel_rfl) (by decide +kernel) rfl | exact ops_buildSlice_fz (d := some 9) (k := 1) rfl rfl rfl (by decide) (by decide) (by kernel_rfl) (by decide +kernel) rfl | exact ops_buildSlice_fz (d := some 10) (k := 1) rfl rfl rfl (by decide) (by decide) (by kernel_rfl) (by decide +kernel) rfl | exact ops_buildSlice_fz (d := some 11) (k := 1) rfl rfl rfl (by decide) (by decide) (by kernel_rfl) (by decide +kernel) rfl | exact ops_buildSlice_fz (d := some 12) (k := 1) rfl rfl rfl (by decide) (by decide) (by kernel_rfl) (by decide +kernel) rfl | exact ops_buildSlice_fz (d := some 13) (k := 1) rfl rfl rfl (by decide) (by decide) (by kernel_rfl) (by decide +kernel) rfl | fail) | (apply k_indexAddr; first | exact ops_idx_map (l := knD) (f := RIs) rfl rfl (by omega) (by kernel_rfl) (by kernel_rfl) | fail) | (apply k_callf; first | exact ops_callP (d := 15) 1000000000000 [RCur c2] (hfc := p2) | exact ops_callP (d := 23) 1000000000000 [RCur c3] (hfc := p3) | fail) | fail) (hk := ?_) | refine l_op (hk := ?_))
    refine en_ex (knD[n], c3) ⟨by dsimp only; omega, by dsimp only; omega⟩ ?_
    refine en_endm [] (hf := Tryz.results64) (hO := ?_) (hr := ?_)
    · rfl
    · rfl
def knB : List (Int × Int) := [(2, 2), (2, 3), (3, 2), (6, 1), (1, 4), (4, 1), (3, 1)]
theorem drawBox_ok (c : Cur) (h : c.at_ ≤ 1099511610000) : FC Tryz.prog 65 [.ptr 1000000000000 0 0] [(1000000000000, 3, [RCur c])]
    (fun rv O => ∃ x : (Int × Int) × Cur, x.2.at_ ≤ c.at_ + 2000 ∧ rv = RBx x.1.1 x.1.2 ∧ O = [(1000000000000, 3, [RCur x.2])]) := by
  have p1 := pick_ok c 7 (by omega) (by omega)
  have v1 := pickV_lt c 7 (by omega)
  have a1 := pickC_at c 7
  generalize pickV c 7 = n at *
  generalize pickC c 7 = c1 at *
  have p2 := one_ok c1 12 (by omega) (by omega)
  have a2 := pickC_at c1 12
  generalize pickV c1 12 = o12 at *
  generalize pickC c1 12 = c2 at *
  have hkl : knB.length = 7 := rfl
  by_cases h12 : ((o12 : Nat) : Int) = 0
  · rw [decide_eq_true h12] at p2
    have p3 := pick_ok c2 3 (by omega) (by omega)
    have v3 := pickV_lt c2 3 (by omega)
    have a3 := pickC_at c2 3
    generalize pickV c2 3 = m at *
    generalize pickC c2 3 = c3 at *
    have p7 := among_ok c3 [0, 7, -1] (by omega) (by decide) (by decide)
    have a7 := pickC_at c3 ([0, 7, -1] : List Int).length
    generalize ([0, 7, -1] : List Int).getD (pickV c3 ([0, 7, -1] : List Int).length) 0 = r at *
    generalize pickC c3 ([0, 7, -1] : List Int).length = c4 at *
    obtain rfl | rfl | rfl : m = 0 ∨ m = 1 ∨ m = 2 := by omega
    · refine (fc_in Tryz.func65 rfl (by simp only [Tryz.ntmps65, anys, List.length_cons, List.length_nil, Nat.reduceAdd, Nat.reduceSub, List.replicate_succ, List.replicate_zero, List.cons_append, List.nil_append] <;> rfl) ?_)
      repeat' first | apply w_seq | apply w_block | apply rb_n | apply rb_ret | apply rb_eq | refine rb_ne (by rfl) ?_ | apply w_region | apply l_nil | apply rt_n | apply w_ret | apply rt_ret | apply w_skip | refine w_cond_t rfl ?_ | refine w_cond_f rfl ?_ | ((first | refine w_cnd rfl ?_ ?_ | refine w_cd rfl ?_ ?_ | refine w_cn rfl ?_ ?_ | refine w_cond rfl ?_ ?_) <;> intro hc) | (refine l_o ?_; first | refine l_eqnil rfl (by kernel_rfl) (by intro b; simp only [nz]; rfl) (fun b hb => ?_) | refine l_op rfl (by first | (apply k_buildSlice; first | exact ops_buildSlice_fz (d := some 12) (k := 2) rfl rfl rfl (by decide) (by decide) (by kernel_rfl) (by decide +kernel) rfl | exact ops_buildSlice_fz (d := some 27) (k := 1) rfl rfl rfl (by decide) (by decide) (by kernel_rfl) (by decide +kernel) rfl | fail) | (apply k_indexAddr; first | exact ops_idx_map (l := knB) (f := fun x => RBx x.1 x.2) rfl rfl (by omega) (by kernel_rfl) (by kernel_rfl) | fail) | (apply k_callf; first | exact ops_callP (d := 17) 1000000000000 [RCur c1] (hfc := p1) | exact ops_callP (d := 21) 1000000000000 [RCur c2] (hfc := p2) | exact ops_callP (d := 23) 1000000000000 [RCur c3] (hfc := p3) | exact ops_callP (d := 28) 1000000000000 [RCur c4] (hfc := p7) | fail) | fail) (hk := ?_) | refine l_op (hk := ?_))
      refine en_ex ((r, (knB[n]).2), c4) (by dsimp only; omega) ?_
      refine en_endm ([(4, 2, [.agg [RVi r, RVi (knB[n]).2]]), (2, 2, [.agg [RVi r, RVi (knB[n]).2]])]) (hf := Tryz.results65) (hO := ?_) (hr := ?_)
      · rfl
      · rfl
    · refine (fc_in Tryz.func65 rfl (by simp only [Tryz.ntmps65, anys, List.length_cons, List.length_nil, Nat.reduceAdd, Nat.reduceSub, List.replicate_succ, List.replicate_zero, List.cons_append, List.nil_append] <;> rfl) ?_)
      repeat' first | apply w_seq | apply w_block | apply rb_n | apply rb_ret | apply rb_eq | refine rb_ne (by rfl) ?_ | apply w_region | apply l_nil | apply rt_n | apply w_ret | apply rt_ret | apply w_skip | refine w_cond_t rfl ?_ | refine w_cond_f rfl ?_ | ((first | refine w_cnd rfl ?_ ?_ | refine w_cd rfl ?_ ?_ | refine w_cn rfl ?_ ?_ | refine w_cond rfl ?_ ?_) <;> intro hc) | (refine l_o ?_; first | refine l_eqnil rfl (by kernel_rfl) (by intro b; simp only [nz]; rfl) (fun b hb => ?_) | refine l_op rfl (by first | (apply k_buildSlice; first | exact ops_buildSlice_fz (d := some 12) (k := 2) rfl rfl rfl (by decide) (by decide) (by kernel_rfl) (by decide +kernel) rfl | exact ops_buildSlice_fz (d := some 33) (k := 1) rfl rfl rfl (by decide) (by decide) (by kernel_rfl) (by decide +kernel) rfl | fail) | (apply k_indexAddr; first | exact ops_idx_map (l := knB) (f := fun x => RBx x.1 x.2) rfl rfl (by omega) (by kernel_rfl) (by kernel_rfl) | fail) | (apply k_callf; first | exact ops_callP (d := 17) 1000000000000 [RCur c1] (hfc := p1) | exact ops_callP (d := 21) 1000000000000 [RCur c2] (hfc := p2) | exact ops_callP (d := 23) 1000000000000 [RCur c3] (hfc := p3) | exact ops_callP (d := 34) 1000000000000 [RCur c4] (hfc := p7) | fail) | fail) (hk := ?_) | refine l_op (hk := ?_))
      refine en_ex (((knB[n]).1, r), c4) (by dsimp only; omega) ?_
      refine en_endm ([(4, 2, [.agg [RVi (knB[n]).1, RVi r]]), (2, 2, [.agg [RVi (knB[n]).1, RVi r]])]) (hf := Tryz.results65) (hO := ?_) (hr := ?_)
      · rfl
      · rfl
    · refine (fc_in Tryz.func65 rfl (by simp only [Tryz.ntmps65, anys, List.length_cons, List.length_nil, Nat.reduceAdd, Nat.reduceSub, List.replicate_succ, List.replicate_zero, List.cons_append, List.nil_append] <;> rfl) ?_)
      repeat' first | apply w_seq | apply w_block | apply rb_n | apply rb_ret | apply rb_eq | refine rb_ne (by rfl) ?_ | apply w_region | apply l_nil | apply rt_n | apply w_ret | apply rt_ret | apply w_skip | refine w_cond_t rfl ?_ | refine w_cond_f rfl ?_ | ((first | refine w_cnd rfl ?_ ?_ | refine w_cd rfl ?_ ?_ | refine w_cn rfl ?_ ?_ | refine w_cond rfl ?_ ?_) <;> intro hc) | (refine l_o ?_; first | refine l_eqnil rfl (by kernel_rfl) (by intro b; simp only [nz]; rfl) (fun b hb => ?_) | refine l_op rfl (by first | (apply k_buildSlice; first | exact ops_buildSlice_fz (d := some 12) (k := 2) rfl rfl rfl (by decide) (by decide) (by kernel_rfl) (by decide +kernel) rfl | fail) | (apply k_indexAddr; first | exact ops_idx_map (l := knB) (f := fun x => RBx x.1 x.2) rfl rfl (by omega) (by kernel_rfl) (by kernel_rfl) | fail) | (apply k_callf; first | exact ops_callP (d := 17) 1000000000000 [RCur c1] (hfc := p1) | exact ops_callP (d := 21) 1000000000000 [RCur c2] (hfc := p2) | exact ops_callP (d := 23) 1000000000000 [RCur c3] (hfc := p3) | fail) | fail) (hk := ?_) | refine l_op (hk := ?_))
      refine en_ex ((4, 2), c3) (by dsimp only; omega) ?_
      refine en_endm ([(4, 2, [.agg [RVi 4, RVi 2]]), (2, 2, [.agg [RVi 4, RVi 2]])]) (hf := Tryz.results65) (hO := ?_) (hr := ?_)
      · rfl
      · rfl
  · rw [decide_eq_false h12] at p2
    refine (fc_in Tryz.func65 rfl (by simp only [Tryz.ntmps65, anys, List.length_cons, List.length_nil, Nat.reduceAdd, Nat.reduceSub, List.replicate_succ, List.replicate_zero, List.cons_append, List.nil_append] <;> rfl) ?_)
    repeat' first | apply w_seq | apply w_block | apply rb_n | apply rb_ret | apply rb_eq | refine rb_ne (by rfl) ?_ | apply w_region | apply l_nil | apply rt_n | apply w_ret | apply rt_ret | apply w_skip | refine w_cond_t rfl ?_ | refine w_cond_f rfl ?_ | ((first | refine w_cnd rfl ?_ ?_ | refine w_cd rfl ?_ ?_ | refine w_cn rfl ?_ ?_ | refine w_cond rfl ?_ ?_) <;> intro hc) | (refine l_o ?_; first | refine l_eqnil rfl (by kernel_rfl) (by intro b; simp only [nz]; rfl) (fun b hb => ?_) | refine l_op rfl (by first | (apply k_buildSlice; first | exact ops_buildSlice_fz (d := some 12) (k := 2) rfl rfl rfl (by decide) (by decide) (by kernel_rfl) (by decide +kernel) rfl | fail) | (apply k_indexAddr; first | exact ops_idx_map (l := knB) (f := fun x => RBx x.1 x.2) rfl rfl (by omega) (by kernel_rfl) (by kernel_rfl) | fail) | (apply k_callf; first | exact ops_callP (d := 17) 1000000000000 [RCur c1] (hfc := p1) | exact ops_callP (d := 21) 1000000000000 [RCur c2] (hfc := p2) | fail) | fail) (hk := ?_) | refine l_op (hk := ?_))
    refine en_ex (knB[n], c2) (by dsimp only; omega) ?_
    refine en_endm ([(4, 2, [.agg [RVi (knB[n]).1, RVi (knB[n]).2]]), (2, 2, [.agg [RVi (knB[n]).1, RVi (knB[n]).2]])]) (hf := Tryz.results65) (hO := ?_) (hr := ?_)
    · rfl
    · rfl
end Go.Proofs.YtmfbcipjknjicaaGreatDoor
/- Small functions of the laws: sizes, likeness of lists. For all lists. -/
namespace Go.Proofs.YtmfbcipjknjicaaGreatDoor
open Eng
attribute [local irreducible] OpS OpG FC FCr Rel Fl Ef DR Fs
set_option linter.unusedSimpArgs false
set_option linter.unusedVariables false
set_option maxHeartbeats 0
set_option maxRecDepth 100000

theorem rBigQ_ok (l : List UInt8) : FCr Tryz.prog 6 [RYs l] (RVb (decide ((65536 : Int) < (l.length : Nat)))) := by
  refine (fcr_in Tryz.func6 rfl (by simp only [Tryz.ntmps6, anys, List.length_cons, List.length_nil, Nat.reduceAdd, Nat.reduceSub, List.replicate_succ, List.replicate_zero, List.cons_append, List.nil_append] <;> rfl) ?_)
  repeat' first | apply w_seq | apply w_region | apply l_nil | apply rt_n | apply w_ret | apply rt_ret | apply w_skip | (refine l_o ?_; first | refine l_op (hk := ?_))
  refine en_one (hf := Tryz.results6) (h := ?_); simp only [lget]; first | refine congrArg RVb ?_ | refine congrArg RVi ?_ | skip
theorem rIntsM_ok (l m : List Int) : FCr Tryz.prog 12 [RIs l, RIs m] (RVb (decide (l = m))) := by
  refine fcr_lens fun hL => ?_
  simp only [lnk] at hL
  refine (fcr_in Tryz.func12 rfl (by simp only [Tryz.ntmps12, anys, List.length_cons, List.length_nil, Nat.reduceAdd, Nat.reduceSub, List.replicate_succ, List.replicate_zero, List.cons_append, List.nil_append] <;> rfl) ?_)
  repeat' first | apply w_seq | apply w_block | apply rb_n | apply rb_ret | apply rb_eq | refine rb_ne (by rfl) ?_ | apply w_exit | apply rt_exit | apply w_region | apply l_nil | apply rt_n | apply w_ret | apply rt_ret | apply w_skip | refine w_cond_t rfl ?_ | refine w_cond_f rfl ?_ | ((first | refine w_cnd rfl ?_ ?_ | refine w_cd rfl ?_ ?_ | refine w_cn rfl ?_ ?_ | refine w_cond rfl ?_ ?_) <;> intro hc) | (refine l_o ?_; first | refine l_op (hk := ?_)) | refine d_nil ?_ | (refine d_o ?_; first | refine d_fl (hk := ?_) | refine d_ef (hk := ?_)) | (refine w_o ?_; first | refine w_draw (id := 6) (fun _ => true) (fun k => [].contains k) [] 64 (by kernel_rfl) rfl (by kernel_rfl) (by simp [nm, nset, -List.map_take, -List.map_drop]) ?_)
  · refine en_one (hf := Tryz.results12) (h := ?_); simp only [lget]; first | refine congrArg RVb ?_ | refine congrArg RVi ?_ | skip
    grind
  have hn : l.length = m.length := by omega
  clear hc
  refine w_loopm (ι := Nat) (fun k => [(5, RVi k)]) (fun _ => []) (fun k => k ≤ l.length ∧ ((l.drop k = m.drop k) ↔ l = m)) (fun k => l.length - k) 0 (h0 := ?_) (hs := ?_) (round := ?_)
  · simp
  · refine le_eq (by (repeat' first | exact .nil | refine .keep ?_ | refine .any ?_); first | done | fail) rfl rfl
  · intro k ⟨hk, hg⟩
    repeat' first | apply w_seq | apply w_block | apply rb_n | apply rb_ret | apply rb_eq | refine rb_ne (by rfl) ?_ | apply w_exit | apply rt_exit | apply w_region | apply l_nil | apply rt_n | apply w_ret | apply rt_ret | apply w_skip | refine w_cond_t rfl ?_ | refine w_cond_f rfl ?_ | ((first | refine w_cnd rfl ?_ ?_ | refine w_cd rfl ?_ ?_ | refine w_cn rfl ?_ ?_ | refine w_cond rfl ?_ ?_) <;> intro hc) | (refine l_o ?_; first | refine l_op (hk := ?_)) | refine d_nil ?_ | (refine d_o ?_; first | refine d_fl (hk := ?_) | refine d_ef (hk := ?_)) | (refine w_o ?_; first | refine w_draw (id := 6) (fun _ => true) (fun k => [].contains k) [] 64 (by kernel_rfl) rfl (by kernel_rfl) (by simp [nm, nset, -List.map_take, -List.map_drop]) ?_)
    · refine en_one (hf := Tryz.results12) (h := ?_); simp only [lget]; first | refine congrArg RVb ?_ | refine congrArg RVi ?_ | skip
      grind [drop_both]
    · refine rn_mk (k + 1) ?_ (by first | omega | (dsimp only; omega)) (le_eq (by (repeat' first | exact .nil | refine .keep ?_ | refine .any ?_); first | done | fail) rfl rfl)
      grind [drop_both]
    · refine en_one (hf := Tryz.results12) (h := ?_); simp only [lget]; first | refine congrArg RVb ?_ | refine congrArg RVi ?_ | skip
      grind [dn]
theorem rHasM_ok (l : List Int) (x : Int) : FCr Tryz.prog 14 [RIs l, RVi x] (RVb (decide (x ∈ l))) := by
  refine fcr_lens fun hL => ?_
  simp only [lnk] at hL
  refine (fcr_in Tryz.func14 rfl (by simp only [Tryz.ntmps14, anys, List.length_cons, List.length_nil, Nat.reduceAdd, Nat.reduceSub, List.replicate_succ, List.replicate_zero, List.cons_append, List.nil_append] <;> rfl) ?_)
  repeat' first | apply w_seq | apply w_block | apply rb_n | apply rb_ret | apply rb_eq | refine rb_ne (by rfl) ?_ | apply w_exit | apply rt_exit | apply w_region | apply l_nil | apply rt_n | apply w_ret | apply rt_ret | apply w_skip | refine w_cond_t rfl ?_ | refine w_cond_f rfl ?_ | ((first | refine w_cnd rfl ?_ ?_ | refine w_cd rfl ?_ ?_ | refine w_cn rfl ?_ ?_ | refine w_cond rfl ?_ ?_) <;> intro hc) | (refine l_o ?_; first | refine l_eqnil rfl (by kernel_rfl) (by intro b; simp only [nz]; rfl) (fun b hb => ?_) | refine l_op (hk := ?_))
  refine w_loopk (ι := Nat) (fun k => [(5, RVn k)]) (fun k => k ≤ l.length ∧ (x ∈ l.drop k ↔ x ∈ l)) (fun k => l.length - k) 0 (h0 := ?_) (hs := ?_) (round := ?_)
  · simp
  · refine le_eq (by (repeat' first | exact .nil | refine .keep ?_ | refine .any ?_); first | done | fail) rfl rfl
  · intro k ⟨hk, hm⟩
    by_cases hkl : k < l.length
    · rw [List.drop_eq_getElem_cons hkl, List.mem_cons] at hm
      repeat' first | apply w_seq | apply w_block | apply rb_n | apply rb_ret | apply rb_eq | refine rb_ne (by rfl) ?_ | apply w_exit | apply rt_exit | apply w_region | apply l_nil | apply rt_n | apply w_ret | apply rt_ret | apply w_skip | refine w_cond_t rfl ?_ | refine w_cond_f rfl ?_ | ((first | refine w_cnd rfl ?_ ?_ | refine w_cd rfl ?_ ?_ | refine w_cn rfl ?_ ?_ | refine w_cond rfl ?_ ?_) <;> intro hc) | (exfalso; omega) | (refine l_o ?_; first | refine l_eqnil rfl (by kernel_rfl) (by intro b; simp only [nz]; rfl) (fun b hb => ?_) | refine l_op (hk := ?_))
      · refine en_one (hf := Tryz.results14) (h := ?_); simp only [lget]; first | refine congrArg RVb ?_ | refine congrArg RVi ?_ | skip
        rw [eq_comm, decide_eq_true_eq]
        exact hm.1 (.inl hc.symm)
      · refine rn_mk (k + 1) ?_ (by first | omega | (dsimp only; omega)) (le_eq (by (repeat' first | exact .nil | refine .keep ?_ | refine .any ?_); first | done | fail) rfl rfl)
        exact ⟨by omega, by rw [← hm]; exact ⟨.inr, fun h => h.resolve_left (fun e => hc e.symm)⟩⟩
    · rw [List.drop_eq_nil_of_le (by omega)] at hm
      repeat' first | apply w_seq | apply w_block | apply rb_n | apply rb_ret | apply rb_eq | refine rb_ne (by rfl) ?_ | apply w_exit | apply rt_exit | apply w_region | apply l_nil | apply rt_n | apply w_ret | apply rt_ret | apply w_skip | refine w_cond_t rfl ?_ | refine w_cond_f rfl ?_ | ((first | refine w_cnd rfl ?_ ?_ | refine w_cd rfl ?_ ?_ | refine w_cn rfl ?_ ?_ | refine w_cond rfl ?_ ?_) <;> intro hc) | (exfalso; omega) | (refine l_o ?_; first | refine l_eqnil rfl (by kernel_rfl) (by intro b; simp only [nz]; rfl) (fun b hb => ?_) | refine l_op (hk := ?_))
      refine en_one (hf := Tryz.results14) (h := ?_); simp only [lget]; first | refine congrArg RVb ?_ | refine congrArg RVi ?_ | skip
      rw [eq_comm, decide_eq_false_iff_not, ← hm]
      simp
end Go.Proofs.YtmfbcipjknjicaaGreatDoor
/- A byte of the drawn bytes as a number. For all bytes. -/
namespace Go.Proofs.YtmfbcipjknjicaaGreatDoor
open Eng
attribute [local irreducible] OpS OpG FC FCr Rel Fl Ef DR Fs
attribute [local simp] RV.fzR_names
set_option linter.unusedSimpArgs false
set_option linter.unusedVariables false
set_option maxHeartbeats 0
set_option maxRecDepth 100000

def rAtV (code : List UInt8) (i : Nat) : Nat := if h : i < code.length then code[i].toNat else (i * 11 + 3 * code.length) % 256
theorem rAtQ_ok (code : List UInt8) (i : Nat) (hc : code.length ≤ 1000000) (hi : i ≤ 1000) : FCr Tryz.prog 15 [RYs code, RVn i] (RVn (rAtV code i)) := by
  by_cases h : i < code.length
  · rw [show rAtV code i = code[i].toNat from by rw [rAtV, dif_pos h]]
    refine (fcr_in Tryz.func15 rfl (by simp only [Tryz.ntmps15, anys, List.length_cons, List.length_nil, Nat.reduceAdd, Nat.reduceSub, List.replicate_succ, List.replicate_zero, List.cons_append, List.nil_append] <;> rfl) ?_)
    repeat' first | apply w_seq | apply w_region | apply l_nil | apply rt_n | apply w_ret | apply rt_ret | apply w_skip | refine w_cond_t rfl ?_ | refine w_cond_f rfl ?_ | ((first | refine w_cnd rfl ?_ ?_ | refine w_cd rfl ?_ ?_ | refine w_cn rfl ?_ ?_ | refine w_cond rfl ?_ ?_) <;> intro hc) | (exfalso; omega) | (refine l_o ?_; first | refine l_op (hk := ?_))
    refine en_one (hf := Tryz.results15) (h := ?_); simp only [lget]; first | refine congrArg RVb ?_ | refine congrArg RVi ?_ | skip
  · rw [show rAtV code i = (i * 11 + 3 * code.length) % 256 from by rw [rAtV, dif_neg h]]
    refine (fcr_in Tryz.func15 rfl (by simp only [Tryz.ntmps15, anys, List.length_cons, List.length_nil, Nat.reduceAdd, Nat.reduceSub, List.replicate_succ, List.replicate_zero, List.cons_append, List.nil_append] <;> rfl) ?_)
    repeat' first | apply w_seq | apply w_region | apply l_nil | apply rt_n | apply w_ret | apply rt_ret | apply w_skip | refine w_cond_t rfl ?_ | refine w_cond_f rfl ?_ | ((first | refine w_cnd rfl ?_ ?_ | refine w_cd rfl ?_ ?_ | refine w_cn rfl ?_ ?_ | refine w_cond rfl ?_ ?_) <;> intro hc) | (exfalso; omega) | (refine l_o ?_; first | refine l_op rfl (by first | (apply k_mul; first | exact ops_muln (m := i) (n := 11) rfl rfl (by omega) | exact ops_muln (m := 3) (n := code.length) rfl rfl (by omega) | fail) | (apply k_add; first | exact ops_addn (a := i * 11) (b := 3 * code.length) rfl rfl (by omega) | fail) | (apply k_rem; first | exact ops_remn (m := i * 11 + 3 * code.length) (n := 256) rfl rfl (by omega) | fail) | fail) (hk := ?_) | refine l_op (hk := ?_))
    refine en_one (hf := Tryz.results15) (h := ?_); simp only [lget]; first | refine congrArg RVb ?_ | refine congrArg RVi ?_ | skip
theorem rAtV_lt (code : List UInt8) (i : Nat) : rAtV code i < 256 := by
  unfold rAtV
  split
  · exact UInt8.toNat_lt _
  · omega
end Go.Proofs.YtmfbcipjknjicaaGreatDoor
