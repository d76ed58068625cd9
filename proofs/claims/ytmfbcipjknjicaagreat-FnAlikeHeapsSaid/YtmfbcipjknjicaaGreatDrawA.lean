/- Codes, boxes, and pairs of heaps drawn: what is drawn is bounded. For all readers within the bounds that the theorems name. -/
import Derived.Test.YtmfbcipjknjicaaGreatDrawN
import Derived.Test.YtmfbcipjknjicaaGreatJ31
namespace Go.Proofs.YtmfbcipjknjicaaGreat
open Eng
attribute [local irreducible] OpS OpG FC FCr Rel Fl Ef DR Fs
attribute [local simp] RV.fzR_names
set_option linter.unusedSimpArgs false
set_option linter.unusedVariables false
set_option maxHeartbeats 0
set_option maxRecDepth 100000

def ME (at0 : Nat) (x : List Int × Cur) : Prop := x.1.length ≤ 60 ∧ x.2.at_ ≤ at0 + 2000
def knD : List (List Int) := [[7, 7], [3, 3], [3, 1], [0, 7], [1, 3, 7], [3, 3, 3], [7], [1, 2, 3], [2, 7]]
theorem knD_len : ∀ x ∈ knD, x.length ≤ 4 := by decide
theorem drawCodeD_ok (c : Cur) (h : c.at_ ≤ 1099511610000) : FC Tryz.prog 15 [.ptr 1000000000000 0 0] [(1000000000000, 3, [RCur c])]
    (fun rv O => ∃ x : List Int × Cur, ME c.at_ x ∧ rv = OIs x.1 ∧ O = [(1000000000000, 3, [RCur x.2])]) := by
  have p2 := one_ok c 3 (by omega) (by omega)
  have a2 := pickC_at c 3
  generalize pickV c 3 = o4 at *
  generalize pickC c 3 = c2 at *
  by_cases h3 : ((o4 : Nat) : Int) = 0
  · rw [decide_eq_true h3] at p2
    have q1 := drawCode_ok c2 (by omega)
    refine (fc_in Tryz.func15 rfl (by simp only [Tryz.ntmps15, anys, List.length_cons, List.length_nil, Nat.reduceAdd, Nat.reduceSub, List.replicate_succ, List.replicate_zero, List.cons_append, List.nil_append] <;> rfl) ?_)
    repeat' first
      | refine w_seq ?_
      | refine w_region ?_
      | refine l_nil ?_
      | refine rt_n ?_
      | refine w_ret ?_
      | refine rt_ret ?_
      | refine w_skip ?_
      | refine w_cond_t rfl ?_
      | refine w_cond_f rfl ?_
      | refine w_cnd rfl (fun hc => ?_) (fun hc => ?_)
      | refine w_cd rfl (fun hc => ?_) (fun hc => ?_)
      | refine w_cn rfl (fun hc => ?_) (fun hc => ?_)
      | refine w_cond rfl (fun hc => ?_) (fun hc => ?_)
      | (refine l_o ?_; first | refine l_op rfl (by first | (apply k_buildSlice; first | exact ops_buildSlice_fz (d := some 4) (k := 1) rfl rfl rfl (by decide) (by decide) (by kernel_rfl) (by decide +kernel) rfl | exact ops_buildSlice_fz (d := some 5) (k := 1) rfl rfl rfl (by decide) (by decide) (by kernel_rfl) (by decide +kernel) rfl | exact ops_buildSlice_fz (d := some 6) (k := 1) rfl rfl rfl (by decide) (by decide) (by kernel_rfl) (by decide +kernel) rfl | exact ops_buildSlice_fz (d := some 7) (k := 1) rfl rfl rfl (by decide) (by decide) (by kernel_rfl) (by decide +kernel) rfl | exact ops_buildSlice_fz (d := some 8) (k := 1) rfl rfl rfl (by decide) (by decide) (by kernel_rfl) (by decide +kernel) rfl | exact ops_buildSlice_fz (d := some 9) (k := 1) rfl rfl rfl (by decide) (by decide) (by kernel_rfl) (by decide +kernel) rfl | exact ops_buildSlice_fz (d := some 10) (k := 1) rfl rfl rfl (by decide) (by decide) (by kernel_rfl) (by decide +kernel) rfl | exact ops_buildSlice_fz (d := some 11) (k := 1) rfl rfl rfl (by decide) (by decide) (by kernel_rfl) (by decide +kernel) rfl | exact ops_buildSlice_fz (d := some 12) (k := 1) rfl rfl rfl (by decide) (by decide) (by kernel_rfl) (by decide +kernel) rfl | exact ops_buildSlice_fz (d := some 13) (k := 1) rfl rfl rfl (by decide) (by decide) (by kernel_rfl) (by decide +kernel) rfl | fail) | (apply k_callf; first | exact ops_callP (d := 15) 1000000000000 [RCur c2] (hfc := p2) | fail) | fail) (hk := ?_) | refine l_op (hk := ?_))
    refine l_callPx (MD c2.at_) (fun x => OIs x.1) 1000000000000 (fun x => [RCur x.2]) q1 (hk := fun x hx => ?_)
    obtain ⟨a, c3⟩ := x
    obtain ⟨g1, g2⟩ := hx
    dsimp only at g1 g2 ⊢
    repeat' first
      | refine w_seq ?_
      | refine w_region ?_
      | refine l_nil ?_
      | refine rt_n ?_
      | refine w_ret ?_
      | refine rt_ret ?_
      | refine w_skip ?_
      | refine w_cond_t rfl ?_
      | refine w_cond_f rfl ?_
      | refine w_cnd rfl (fun hc => ?_) (fun hc => ?_)
      | refine w_cd rfl (fun hc => ?_) (fun hc => ?_)
      | refine w_cn rfl (fun hc => ?_) (fun hc => ?_)
      | refine w_cond rfl (fun hc => ?_) (fun hc => ?_)
      | (refine l_o ?_; first | refine l_op (hk := ?_))
    refine en_ex (a, c3) ⟨g1, by dsimp only; omega⟩ ?_
    refine en_endm [] (hf := Tryz.results15) (hO := ?_) (hr := ?_)
    · rfl
    · rfl
  · rw [decide_eq_false h3] at p2
    have p3 := pick_ok c2 9 (by omega) (by omega)
    have v3 := pickV_lt c2 9 (by omega)
    have a3 := pickC_at c2 9
    generalize pickV c2 9 = n at *
    generalize pickC c2 9 = c3 at *
    have hkl : knD.length = 9 := rfl
    have hk := knD_len _ (List.getElem_mem (show n < knD.length by omega))
    refine (fc_in Tryz.func15 rfl (by simp only [Tryz.ntmps15, anys, List.length_cons, List.length_nil, Nat.reduceAdd, Nat.reduceSub, List.replicate_succ, List.replicate_zero, List.cons_append, List.nil_append] <;> rfl) ?_)
    repeat' first
      | refine w_seq ?_
      | refine w_region ?_
      | refine l_nil ?_
      | refine rt_n ?_
      | refine w_ret ?_
      | refine rt_ret ?_
      | refine w_skip ?_
      | refine w_cond_t rfl ?_
      | refine w_cond_f rfl ?_
      | refine w_cnd rfl (fun hc => ?_) (fun hc => ?_)
      | refine w_cd rfl (fun hc => ?_) (fun hc => ?_)
      | refine w_cn rfl (fun hc => ?_) (fun hc => ?_)
      | refine w_cond rfl (fun hc => ?_) (fun hc => ?_)
      | (refine l_o ?_; first | refine l_op rfl (by first | (apply k_buildSlice; first | exact ops_buildSlice_fz (d := some 4) (k := 1) rfl rfl rfl (by decide) (by decide) (by kernel_rfl) (by decide +kernel) rfl | exact ops_buildSlice_fz (d := some 5) (k := 1) rfl rfl rfl (by decide) (by decide) (by kernel_rfl) (by decide +kernel) rfl | exact ops_buildSlice_fz (d := some 6) (k := 1) rfl rfl rfl (by decide) (by decide) (by kernel_rfl) (by decide +kernel) rfl | exact ops_buildSlice_fz (d := some 7) (k := 1) rfl rfl rfl (by decide) (by decide) (by kernel_rfl) (by decide +kernel) rfl | exact ops_buildSlice_fz (d := some 8) (k := 1) rfl rfl rfl (by decide) (by decide) (by kernel_rfl) (by decide +kernel) rfl | exact ops_buildSlice_fz (d := some 9) (k := 1) rfl rfl rfl (by decide) (by decide) (by kernel_rfl) (by decide +kernel) rfl | exact ops_buildSlice_fz (d := some 10) (k := 1) rfl rfl rfl (by decide) (by decide) (by kernel_rfl) (by decide +kernel) rfl | exact ops_buildSlice_fz (d := some 11) (k := 1) rfl rfl rfl (by decide) (by decide) (by kernel_rfl) (by decide +kernel) rfl | exact ops_buildSlice_fz (d := some 12) (k := 1) rfl rfl rfl (by decide) (by decide) (by kernel_rfl) (by decide +kernel) rfl | exact ops_buildSlice_fz (d := some 13) (k := 1) rfl rfl rfl (by decide) (by decide) (by kernel_rfl) (by decide +kernel) rfl | fail) | (apply k_indexAddr; first | exact ops_idx_map (l := knD) (f := RIs) rfl rfl (by omega) (by kernel_rfl) (by kernel_rfl) | fail) | (apply k_callf; first | exact ops_callP (d := 15) 1000000000000 [RCur c2] (hfc := p2) | exact ops_callP (d := 23) 1000000000000 [RCur c3] (hfc := p3) | fail) | fail) (hk := ?_) | refine l_op (hk := ?_))
    refine en_ex (knD[n], c3) ⟨by dsimp only; omega, by dsimp only; omega⟩ ?_
    refine en_endm [] (hf := Tryz.results15) (hO := ?_) (hr := ?_)
    · rfl
    · rfl
def knB : List (Int × Int) := [(2, 2), (2, 3), (3, 2), (6, 1), (1, 4), (4, 1), (3, 1)]
theorem drawBox_ok (c : Cur) (h : c.at_ ≤ 1099511610000) : FC Tryz.prog 16 [.ptr 1000000000000 0 0] [(1000000000000, 3, [RCur c])]
    (fun rv O => ∃ x : (Int × Int) × Cur, x.2.at_ ≤ c.at_ + 2000 ∧ rv = RBx x.1.1 x.1.2 ∧ O = [(1000000000000, 3, [RCur x.2])]) := by
  have p1 := pick_ok c 7 (by omega) (by omega)
  have v1 := pickV_lt c 7 (by omega)
  have a1 := pickC_at c 7
  generalize pickV c 7 = n at *
  generalize pickC c 7 = c1 at *
  have p2 := one_ok c1 12 (by omega) (by omega)
  have a2 := pickC_at c1 12
  generalize pickV c1 12 = o12 at *
  generalize pickC c1 12 = c2 at *
  have hkl : knB.length = 7 := rfl
  by_cases h12 : ((o12 : Nat) : Int) = 0
  · rw [decide_eq_true h12] at p2
    have p3 := pick_ok c2 3 (by omega) (by omega)
    have v3 := pickV_lt c2 3 (by omega)
    have a3 := pickC_at c2 3
    generalize pickV c2 3 = m at *
    generalize pickC c2 3 = c3 at *
    have p7 := among_ok c3 [0, 7, -1] (by omega) (by decide) (by decide)
    have a7 := pickC_at c3 ([0, 7, -1] : List Int).length
    generalize ([0, 7, -1] : List Int).getD (pickV c3 ([0, 7, -1] : List Int).length) 0 = r at *
    generalize pickC c3 ([0, 7, -1] : List Int).length = c4 at *
    obtain rfl | rfl | rfl : m = 0 ∨ m = 1 ∨ m = 2 := by omega
    · refine (fc_in Tryz.func16 rfl (by simp only [Tryz.ntmps16, anys, List.length_cons, List.length_nil, Nat.reduceAdd, Nat.reduceSub, List.replicate_succ, List.replicate_zero, List.cons_append, List.nil_append] <;> rfl) ?_)
      repeat' first
        | refine w_seq ?_
        | refine w_block ?_
        | refine rb_n ?_
        | refine rb_ret ?_
        | refine rb_eq ?_
        | refine rb_ne (by rfl) ?_
        | refine w_region ?_
        | refine l_nil ?_
        | refine rt_n ?_
        | refine w_ret ?_
        | refine rt_ret ?_
        | refine w_skip ?_
        | refine w_cond_t rfl ?_
        | refine w_cond_f rfl ?_
        | refine w_cnd rfl (fun hc => ?_) (fun hc => ?_)
        | refine w_cd rfl (fun hc => ?_) (fun hc => ?_)
        | refine w_cn rfl (fun hc => ?_) (fun hc => ?_)
        | refine w_cond rfl (fun hc => ?_) (fun hc => ?_)
        | (refine l_o ?_; first | refine l_eqnil rfl (by kernel_rfl) (by intro b; simp only [nz]; rfl) (fun b hb => ?_) | refine l_op rfl (by first | (apply k_buildSlice; first | exact ops_buildSlice_fz (d := some 12) (k := 2) rfl rfl rfl (by decide) (by decide) (by kernel_rfl) (by decide +kernel) rfl | exact ops_buildSlice_fz (d := some 27) (k := 1) rfl rfl rfl (by decide) (by decide) (by kernel_rfl) (by decide +kernel) rfl | fail) | (apply k_indexAddr; first | exact ops_idx_map (l := knB) (f := fun x => RBx x.1 x.2) rfl rfl (by omega) (by kernel_rfl) (by kernel_rfl) | fail) | (apply k_callf; first | exact ops_callP (d := 17) 1000000000000 [RCur c1] (hfc := p1) | exact ops_callP (d := 21) 1000000000000 [RCur c2] (hfc := p2) | exact ops_callP (d := 23) 1000000000000 [RCur c3] (hfc := p3) | exact ops_callP (d := 28) 1000000000000 [RCur c4] (hfc := p7) | fail) | fail) (hk := ?_) | refine l_op (hk := ?_))
      refine en_ex ((r, (knB[n]).2), c4) (by dsimp only; omega) ?_
      refine en_endm ([(4, 2, [.agg [RVi r, RVi (knB[n]).2]]), (2, 2, [.agg [RVi r, RVi (knB[n]).2]])]) (hf := Tryz.results16) (hO := ?_) (hr := ?_)
      · rfl
      · rfl
    · refine (fc_in Tryz.func16 rfl (by simp only [Tryz.ntmps16, anys, List.length_cons, List.length_nil, Nat.reduceAdd, Nat.reduceSub, List.replicate_succ, List.replicate_zero, List.cons_append, List.nil_append] <;> rfl) ?_)
      repeat' first
        | refine w_seq ?_
        | refine w_block ?_
        | refine rb_n ?_
        | refine rb_ret ?_
        | refine rb_eq ?_
        | refine rb_ne (by rfl) ?_
        | refine w_region ?_
        | refine l_nil ?_
        | refine rt_n ?_
        | refine w_ret ?_
        | refine rt_ret ?_
        | refine w_skip ?_
        | refine w_cond_t rfl ?_
        | refine w_cond_f rfl ?_
        | refine w_cnd rfl (fun hc => ?_) (fun hc => ?_)
        | refine w_cd rfl (fun hc => ?_) (fun hc => ?_)
        | refine w_cn rfl (fun hc => ?_) (fun hc => ?_)
        | refine w_cond rfl (fun hc => ?_) (fun hc => ?_)
        | (refine l_o ?_; first | refine l_eqnil rfl (by kernel_rfl) (by intro b; simp only [nz]; rfl) (fun b hb => ?_) | refine l_op rfl (by first | (apply k_buildSlice; first | exact ops_buildSlice_fz (d := some 12) (k := 2) rfl rfl rfl (by decide) (by decide) (by kernel_rfl) (by decide +kernel) rfl | exact ops_buildSlice_fz (d := some 33) (k := 1) rfl rfl rfl (by decide) (by decide) (by kernel_rfl) (by decide +kernel) rfl | fail) | (apply k_indexAddr; first | exact ops_idx_map (l := knB) (f := fun x => RBx x.1 x.2) rfl rfl (by omega) (by kernel_rfl) (by kernel_rfl) | fail) | (apply k_callf; first | exact ops_callP (d := 17) 1000000000000 [RCur c1] (hfc := p1) | exact ops_callP (d := 21) 1000000000000 [RCur c2] (hfc := p2) | exact ops_callP (d := 23) 1000000000000 [RCur c3] (hfc := p3) | exact ops_callP (d := 34) 1000000000000 [RCur c4] (hfc := p7) | fail) | fail) (hk := ?_) | refine l_op (hk := ?_))
      refine en_ex (((knB[n]).1, r), c4) (by dsimp only; omega) ?_
      refine en_endm ([(4, 2, [.agg [RVi (knB[n]).1, RVi r]]), (2, 2, [.agg [RVi (knB[n]).1, RVi r]])]) (hf := Tryz.results16) (hO := ?_) (hr := ?_)
      · rfl
      · rfl
    · refine (fc_in Tryz.func16 rfl (by simp only [Tryz.ntmps16, anys, List.length_cons, List.length_nil, Nat.reduceAdd, Nat.reduceSub, List.replicate_succ, List.replicate_zero, List.cons_append, List.nil_append] <;> rfl) ?_)
      repeat' first
        | refine w_seq ?_
        | refine w_block ?_
        | refine rb_n ?_
        | refine rb_ret ?_
        | refine rb_eq ?_
        | refine rb_ne (by rfl) ?_
        | refine w_region ?_
        | refine l_nil ?_
        | refine rt_n ?_
        | refine w_ret ?_
        | refine rt_ret ?_
        | refine w_skip ?_
        | refine w_cond_t rfl ?_
        | refine w_cond_f rfl ?_
        | refine w_cnd rfl (fun hc => ?_) (fun hc => ?_)
        | refine w_cd rfl (fun hc => ?_) (fun hc => ?_)
        | refine w_cn rfl (fun hc => ?_) (fun hc => ?_)
        | refine w_cond rfl (fun hc => ?_) (fun hc => ?_)
        | (refine l_o ?_; first | refine l_eqnil rfl (by kernel_rfl) (by intro b; simp only [nz]; rfl) (fun b hb => ?_) | refine l_op rfl (by first | (apply k_buildSlice; first | exact ops_buildSlice_fz (d := some 12) (k := 2) rfl rfl rfl (by decide) (by decide) (by kernel_rfl) (by decide +kernel) rfl | fail) | (apply k_indexAddr; first | exact ops_idx_map (l := knB) (f := fun x => RBx x.1 x.2) rfl rfl (by omega) (by kernel_rfl) (by kernel_rfl) | fail) | (apply k_callf; first | exact ops_callP (d := 17) 1000000000000 [RCur c1] (hfc := p1) | exact ops_callP (d := 21) 1000000000000 [RCur c2] (hfc := p2) | exact ops_callP (d := 23) 1000000000000 [RCur c3] (hfc := p3) | fail) | fail) (hk := ?_) | refine l_op (hk := ?_))
      refine en_ex ((4, 2), c3) (by dsimp only; omega) ?_
      refine en_endm ([(4, 2, [.agg [RVi 4, RVi 2]]), (2, 2, [.agg [RVi 4, RVi 2]])]) (hf := Tryz.results16) (hO := ?_) (hr := ?_)
      · rfl
      · rfl
  · rw [decide_eq_false h12] at p2
    refine (fc_in Tryz.func16 rfl (by simp only [Tryz.ntmps16, anys, List.length_cons, List.length_nil, Nat.reduceAdd, Nat.reduceSub, List.replicate_succ, List.replicate_zero, List.cons_append, List.nil_append] <;> rfl) ?_)
    repeat' first
      | refine w_seq ?_
      | refine w_block ?_
      | refine rb_n ?_
      | refine rb_ret ?_
      | refine rb_eq ?_
      | refine rb_ne (by rfl) ?_
      | refine w_region ?_
      | refine l_nil ?_
      | refine rt_n ?_
      | refine w_ret ?_
      | refine rt_ret ?_
      | refine w_skip ?_
      | refine w_cond_t rfl ?_
      | refine w_cond_f rfl ?_
      | refine w_cnd rfl (fun hc => ?_) (fun hc => ?_)
      | refine w_cd rfl (fun hc => ?_) (fun hc => ?_)
      | refine w_cn rfl (fun hc => ?_) (fun hc => ?_)
      | refine w_cond rfl (fun hc => ?_) (fun hc => ?_)
      | (refine l_o ?_; first | refine l_eqnil rfl (by kernel_rfl) (by intro b; simp only [nz]; rfl) (fun b hb => ?_) | refine l_op rfl (by first | (apply k_buildSlice; first | exact ops_buildSlice_fz (d := some 12) (k := 2) rfl rfl rfl (by decide) (by decide) (by kernel_rfl) (by decide +kernel) rfl | fail) | (apply k_indexAddr; first | exact ops_idx_map (l := knB) (f := fun x => RBx x.1 x.2) rfl rfl (by omega) (by kernel_rfl) (by kernel_rfl) | fail) | (apply k_callf; first | exact ops_callP (d := 17) 1000000000000 [RCur c1] (hfc := p1) | exact ops_callP (d := 21) 1000000000000 [RCur c2] (hfc := p2) | fail) | fail) (hk := ?_) | refine l_op (hk := ?_))
    refine en_ex (knB[n], c2) (by dsimp only; omega) ?_
    refine en_endm ([(4, 2, [.agg [RVi (knB[n]).1, RVi (knB[n]).2]]), (2, 2, [.agg [RVi (knB[n]).1, RVi (knB[n]).2]])]) (hf := Tryz.results16) (hO := ?_) (hr := ?_)
    · rfl
    · rfl
theorem drawAH_ok (code : List UInt8) : FC Tryz.prog 6 [RYs code] [] (fun rv O => ∃ x : (List Int × (Int × Int)) × (List Int × List Int), (x.1.1.length ≤ 60 ∧ x.2.1.length ≤ 60 ∧ x.2.2.length ≤ 60) ∧ rv = .tup [OIs x.1.1, RBx x.1.2.1 x.1.2.2, RIs x.2.1, RIs x.2.2] ∧ O = []) := by
  have q1 := drawCodeD_ok ⟨code, 0, 0⟩ (by show (0 : Nat) ≤ _; omega)
  refine (fc_in Tryz.func6 rfl (by simp only [Tryz.ntmps6, anys, List.length_cons, List.length_nil, Nat.reduceAdd, Nat.reduceSub, List.replicate_succ, List.replicate_zero, List.cons_append, List.nil_append] <;> rfl) ?_)
  repeat' first
    | refine w_seq ?_
    | refine w_region ?_
    | refine l_nil ?_
    | refine rt_n ?_
    | refine w_ret ?_
    | refine rt_ret ?_
    | refine w_skip ?_
    | refine w_cond_t rfl ?_
    | refine w_cond_f rfl ?_
    | refine w_cnd rfl (fun hc => ?_) (fun hc => ?_)
    | refine w_cd rfl (fun hc => ?_) (fun hc => ?_)
    | refine w_cn rfl (fun hc => ?_) (fun hc => ?_)
    | refine w_cond rfl (fun hc => ?_) (fun hc => ?_)
    | (refine l_o ?_; first | refine l_op (hk := ?_))
    | refine d_nil ?_
    | (refine d_o ?_; first | refine d_fl (hk := ?_) | refine d_ef (hk := ?_))
    | (refine w_o ?_; first | refine w_draw (id := 8) (fun _ => true) (fun k => [5].contains k) [[]] 64 (by kernel_rfl) rfl (by kernel_rfl) (by simp [nm, nset, -List.map_take, -List.map_drop]) ?_)
  refine l_callPx (ME 0) (fun x => OIs x.1) 13 (fun x => [RCur x.2]) q1 (hk := fun x hx => ?_)
  obtain ⟨d, c1⟩ := x
  obtain ⟨d1, d2⟩ := hx
  dsimp only at d1 d2 ⊢
  repeat' first
    | refine w_seq ?_
    | refine w_region ?_
    | refine l_nil ?_
    | refine rt_n ?_
    | refine w_ret ?_
    | refine rt_ret ?_
    | refine w_skip ?_
    | refine w_cond_t rfl ?_
    | refine w_cond_f rfl ?_
    | refine w_cnd rfl (fun hc => ?_) (fun hc => ?_)
    | refine w_cd rfl (fun hc => ?_) (fun hc => ?_)
    | refine w_cn rfl (fun hc => ?_) (fun hc => ?_)
    | refine w_cond rfl (fun hc => ?_) (fun hc => ?_)
    | (refine l_o ?_; first | refine l_op (hk := ?_))
    | refine d_nil ?_
    | (refine d_o ?_; first | refine d_fl (hk := ?_) | refine d_ef (hk := ?_))
    | (refine w_o ?_; first | refine w_draw (id := 8) (fun _ => true) (fun k => [5].contains k) [[]] 64 (by kernel_rfl) rfl (by kernel_rfl) (by simp [nm, nset, -List.map_take, -List.map_drop]) ?_)
  have q2 := drawBox_ok c1 (by omega)
  refine l_callPx (fun x : (Int × Int) × Cur => x.2.at_ ≤ c1.at_ + 2000) (fun x => RBx x.1.1 x.1.2) 13 (fun x => [RCur x.2]) q2 (hk := fun x hx => ?_)
  obtain ⟨⟨s, m⟩, c2⟩ := x
  dsimp only at hx ⊢
  repeat' first
    | refine w_seq ?_
    | refine w_region ?_
    | refine l_nil ?_
    | refine rt_n ?_
    | refine w_ret ?_
    | refine rt_ret ?_
    | refine w_skip ?_
    | refine w_cond_t rfl ?_
    | refine w_cond_f rfl ?_
    | refine w_cnd rfl (fun hc => ?_) (fun hc => ?_)
    | refine w_cd rfl (fun hc => ?_) (fun hc => ?_)
    | refine w_cn rfl (fun hc => ?_) (fun hc => ?_)
    | refine w_cond rfl (fun hc => ?_) (fun hc => ?_)
    | (refine l_o ?_; first | refine l_op (hk := ?_))
    | refine d_nil ?_
    | (refine d_o ?_; first | refine d_fl (hk := ?_) | refine d_ef (hk := ?_))
    | (refine w_o ?_; first | refine w_draw (id := 8) (fun _ => true) (fun k => [5].contains k) [[]] 64 (by kernel_rfl) rfl (by kernel_rfl) (by simp [nm, nset, -List.map_take, -List.map_drop]) ?_)
  have q3 := drawHeaps_ok c2 8 (by omega) (by omega)
  refine l_callPx (MD c2.at_) (fun x => OIs x.1) 13 (fun x => [RCur x.2]) q3 (hk := fun x hx => ?_)
  obtain ⟨u, c3⟩ := x
  obtain ⟨u1, u2⟩ := hx
  dsimp only at u1 u2 ⊢
  repeat' first
    | refine w_seq ?_
    | refine w_region ?_
    | refine l_nil ?_
    | refine rt_n ?_
    | refine w_ret ?_
    | refine rt_ret ?_
    | refine w_skip ?_
    | refine w_cond_t rfl ?_
    | refine w_cond_f rfl ?_
    | refine w_cnd rfl (fun hc => ?_) (fun hc => ?_)
    | refine w_cd rfl (fun hc => ?_) (fun hc => ?_)
    | refine w_cn rfl (fun hc => ?_) (fun hc => ?_)
    | refine w_cond rfl (fun hc => ?_) (fun hc => ?_)
    | (refine l_o ?_; first | refine l_op (hk := ?_))
    | refine d_nil ?_
    | (refine d_o ?_; first | refine d_fl (hk := ?_) | refine d_ef (hk := ?_))
    | (refine w_o ?_; first | refine w_draw (id := 8) (fun _ => true) (fun k => [5].contains k) [[]] 64 (by kernel_rfl) rfl (by kernel_rfl) (by simp [nm, nset, -List.map_take, -List.map_drop]) ?_)
  have q4 := drawHeaps_ok c3 8 (by omega) (by omega)
  refine l_callPx (MD c3.at_) (fun x => OIs x.1) 13 (fun x => [RCur x.2]) q4 (hk := fun x hx => ?_)
  obtain ⟨v, c4⟩ := x
  obtain ⟨v1, v2⟩ := hx
  dsimp only at v1 v2 ⊢
  have p5 := one_ok c4 4 (by omega) (by omega)
  generalize pickV c4 4 = o at *
  generalize pickC c4 4 = c5 at *
  refine l_le _ (le_trans (le_freeze 19 rfl (by simp only [nz, nf, nl, nb, nr, ng, nq, nu, reduceIte, Nat.reduceEqDiff, Nat.reduceAdd]; rfl) (by simp only [nz, nf, nl, nb, nr, ng, nq, nu, reduceIte, Nat.reduceEqDiff, Nat.reduceAdd]; rfl)) (le_freeze 21 rfl (by simp only [nz, nf, nl, nb, nr, ng, nq, nu, reduceIte, Nat.reduceEqDiff, Nat.reduceAdd]; rfl) (by simp only [nz, nf, nl, nb, nr, ng, nq, nu, reduceIte, Nat.reduceEqDiff, Nat.reduceAdd]; rfl))) ?_
  by_cases ho : ((o : Nat) : Int) = 0
  · rw [decide_eq_true ho] at p5
    repeat' first
      | refine w_seq ?_
      | refine w_region ?_
      | refine l_nil ?_
      | refine rt_n ?_
      | refine w_ret ?_
      | refine rt_ret ?_
      | refine w_skip ?_
      | refine w_cond_t rfl ?_
      | refine w_cond_f rfl ?_
      | refine w_cnd rfl (fun hc => ?_) (fun hc => ?_)
      | refine w_cd rfl (fun hc => ?_) (fun hc => ?_)
      | refine w_cn rfl (fun hc => ?_) (fun hc => ?_)
      | refine w_cond rfl (fun hc => ?_) (fun hc => ?_)
      | (refine l_o ?_; first | refine l_op rfl (by first | (apply k_callf; first | exact ops_callP (d := 23) 13 [RCur c5] (hfc := p5) | fail) | fail) (hk := ?_) | refine l_op (hk := ?_))
      | refine e_nil ?_
      | (refine e_o ?_; first | refine e_fl (hk := ?_) | refine e_ef rfl (by first | exact .callP (d := 23) 13 [RCur c5] (hfc := p5) | fail) (hk := ?_) | refine e_ef (hk := ?_))
      | (refine w_o ?_; first | refine w_drawS (id := 8) (rdP [(1,8)]) (fun k => [5].contains k) [[]] (by kernel_rfl) rfl (by kernel_rfl) (by simp [nm, nset, -List.map_take, -List.map_drop]) ?_)
    refine en_ex ((d, (s, m)), (u, u)) ⟨d1, u1, u1⟩ ?_
    refine en_le _ (le_freeze 24 rfl (by simp only [nz, nf, nl, nb, nr, ng, nq, nu, reduceIte, Nat.reduceEqDiff, Nat.reduceAdd]; rfl) (by simp only [nz, nf, nl, nb, nr, ng, nq, nu, reduceIte, Nat.reduceEqDiff, Nat.reduceAdd]; rfl)) ?_
    refine en_endm ([(8, 2, [.agg [RVi s, RVi m]]), (13, 3, [RCur c5]), (3, 2, [.agg [RVi s, RVi m]])]) (hf := Tryz.results6) (hO := ?_) (hr := ?_)
    · rfl
    · rfl
  · rw [decide_eq_false ho] at p5
    repeat' first
      | refine w_seq ?_
      | refine w_region ?_
      | refine l_nil ?_
      | refine rt_n ?_
      | refine w_ret ?_
      | refine rt_ret ?_
      | refine w_skip ?_
      | refine w_cond_t rfl ?_
      | refine w_cond_f rfl ?_
      | refine w_cnd rfl (fun hc => ?_) (fun hc => ?_)
      | refine w_cd rfl (fun hc => ?_) (fun hc => ?_)
      | refine w_cn rfl (fun hc => ?_) (fun hc => ?_)
      | refine w_cond rfl (fun hc => ?_) (fun hc => ?_)
      | (refine l_o ?_; first | refine l_op rfl (by first | (apply k_callf; first | exact ops_callP (d := 23) 13 [RCur c5] (hfc := p5) | fail) | fail) (hk := ?_) | refine l_op (hk := ?_))
      | refine e_nil ?_
      | (refine e_o ?_; first | refine e_fl (hk := ?_) | refine e_ef rfl (by first | exact .callP (d := 23) 13 [RCur c5] (hfc := p5) | fail) (hk := ?_) | refine e_ef (hk := ?_))
      | (refine w_o ?_; first | refine w_drawS (id := 8) (rdP [(1,8)]) (fun k => [5].contains k) [[]] (by kernel_rfl) rfl (by kernel_rfl) (by simp [nm, nset, -List.map_take, -List.map_drop]) ?_)
    refine en_ex ((d, (s, m)), (u, v)) ⟨d1, u1, v1⟩ ?_
    refine en_endm ([(8, 2, [.agg [RVi s, RVi m]]), (13, 3, [RCur c5]), (3, 2, [.agg [RVi s, RVi m]])]) (hf := Tryz.results6) (hO := ?_) (hr := ?_)
    · rfl
    · rfl
end Go.Proofs.YtmfbcipjknjicaaGreat
