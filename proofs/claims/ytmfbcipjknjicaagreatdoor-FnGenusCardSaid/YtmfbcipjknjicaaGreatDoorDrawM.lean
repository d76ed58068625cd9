/- Codes and heaps drawn: what is drawn is bounded. For all readers within the bounds that the theorems name. -/
import Derived.Test.YtmfbcipjknjicaaGreatDoorCur
import Derived.Test.YtmfbcipjknjicaaGreatDoorJ29
import Derived.Test.YtmfbcipjknjicaaGreatDoorSpS
namespace Go.Proofs.YtmfbcipjknjicaaGreatDoor
set_option linter.unusedSectionVars false
variable [One Bool]
open Eng
attribute [local irreducible] OpS OpG FC FCr Rel Fl Ef DR Fs
attribute [local simp] RV.fzR_names
set_option linter.unusedSimpArgs false
set_option linter.unusedVariables false
set_option maxHeartbeats 0
set_option maxRecDepth 100000

def MD (at0 : Nat) (x : List Int × Cur) : Prop := x.1.length ≤ 60 ∧ x.2.at_ ≤ at0 + 1000
def knC : List (List Int) := [[7, 7], [3, 3, 3], [0, 7], [1, 3, 7], [1, 5, 6], [3, 3], [0, 1, 3, 7], [7], [1, 6], [4, 4, 4], [3], [0, 0, 0, 7], [3, 5, 6], [6], [1, 2, 5, 4]]
theorem knC_len : ∀ x ∈ knC, x.length ≤ 4 := by decide
theorem drawCode_ok (c : Cur) (h : c.at_ ≤ 1099511620000) : FC Tryz.prog 47 [.ptr 1000000000000 0 0] [(1000000000000, 3, [RCur c])]
    (fun rv O => ∃ x : List Int × Cur, MD c.at_ x ∧ rv = OIs x.1 ∧ O = [(1000000000000, 3, [RCur x.2])]) := by
  have p1 := pick_ok c 15 (by omega) (by omega)
  have v1 := pickV_lt c 15 (by omega)
  have a1 := pickC_at c 15
  generalize pickV c 15 = n at *
  generalize pickC c 15 = c1 at *
  have p2 := one_ok c1 4 (by omega) (by omega)
  have a2 := pickC_at c1 4
  generalize pickV c1 4 = o4 at *
  generalize pickC c1 4 = c2 at *
  have hkl : knC.length = 15 := rfl
  have hk := knC_len _ (List.getElem_mem (show n < knC.length by omega))
  refine (fc_in Tryz.func47 rfl (by simp only [Tryz.ntmps47, anys, List.length_cons, List.length_nil, Nat.reduceAdd, Nat.reduceSub, List.replicate_succ, List.replicate_zero, List.cons_append, List.nil_append] <;> rfl) ?_)
  repeat' first | apply w_seq | apply w_block | apply rb_n | apply rb_ret | apply rb_eq | refine rb_ne (by rfl) ?_ | apply w_exit | apply rt_exit | apply w_region | apply l_nil | apply rt_n | apply w_ret | apply rt_ret | apply w_skip | refine w_cond_t rfl ?_ | refine w_cond_f rfl ?_ | ((first | refine w_cnd rfl ?_ ?_ | refine w_cd rfl ?_ ?_ | refine w_cn rfl ?_ ?_ | refine w_cond rfl ?_ ?_) <;> intro hc) | (refine l_o ?_; first | refine l_eqnil rfl (by kernel_rfl) (by intro b; simp only [nz]; rfl) (fun b hb => ?_) | refine l_op rfl (by first | (apply k_buildSlice; first | exact ops_buildSlice_fz (d := some 6) (k := 1) rfl rfl rfl (by decide) (by decide) (by kernel_rfl) (by decide +kernel) rfl | exact ops_buildSlice_fz (d := some 7) (k := 1) rfl rfl rfl (by decide) (by decide) (by kernel_rfl) (by decide +kernel) rfl | exact ops_buildSlice_fz (d := some 8) (k := 1) rfl rfl rfl (by decide) (by decide) (by kernel_rfl) (by decide +kernel) rfl | exact ops_buildSlice_fz (d := some 9) (k := 1) rfl rfl rfl (by decide) (by decide) (by kernel_rfl) (by decide +kernel) rfl | exact ops_buildSlice_fz (d := some 10) (k := 1) rfl rfl rfl (by decide) (by decide) (by kernel_rfl) (by decide +kernel) rfl | exact ops_buildSlice_fz (d := some 11) (k := 1) rfl rfl rfl (by decide) (by decide) (by kernel_rfl) (by decide +kernel) rfl | exact ops_buildSlice_fz (d := some 12) (k := 1) rfl rfl rfl (by decide) (by decide) (by kernel_rfl) (by decide +kernel) rfl | exact ops_buildSlice_fz (d := some 13) (k := 1) rfl rfl rfl (by decide) (by decide) (by kernel_rfl) (by decide +kernel) rfl | exact ops_buildSlice_fz (d := some 14) (k := 1) rfl rfl rfl (by decide) (by decide) (by kernel_rfl) (by decide +kernel) rfl | exact ops_buildSlice_fz (d := some 15) (k := 1) rfl rfl rfl (by decide) (by decide) (by kernel_rfl) (by decide +kernel) rfl | exact ops_buildSlice_fz (d := some 16) (k := 1) rfl rfl rfl (by decide) (by decide) (by kernel_rfl) (by decide +kernel) rfl | exact ops_buildSlice_fz (d := some 17) (k := 1) rfl rfl rfl (by decide) (by decide) (by kernel_rfl) (by decide +kernel) rfl | exact ops_buildSlice_fz (d := some 18) (k := 1) rfl rfl rfl (by decide) (by decide) (by kernel_rfl) (by decide +kernel) rfl | exact ops_buildSlice_fz (d := some 19) (k := 1) rfl rfl rfl (by decide) (by decide) (by kernel_rfl) (by decide +kernel) rfl | exact ops_buildSlice_fz (d := some 20) (k := 1) rfl rfl rfl (by decide) (by decide) (by kernel_rfl) (by decide +kernel) rfl | exact ops_buildSlice_fz (d := some 21) (k := 1) rfl rfl rfl (by decide) (by decide) (by kernel_rfl) (by decide +kernel) rfl | fail) | (apply k_indexAddr; first | exact ops_idx_map (l := knC) (f := RIs) rfl rfl (by omega) (by kernel_rfl) (by kernel_rfl) | fail) | (apply k_callf; first | exact ops_callP (d := 27) 1000000000000 [RCur c1] (hfc := p1) | exact ops_callP (d := 32) 1000000000000 [RCur c2] (hfc := p2) | fail) | fail) (hk := ?_) | refine l_op (hk := ?_))
  · have p3 := pick_ok c2 4 (by omega) (by omega)
    have v3 := pickV_lt c2 4 (by omega)
    have a3 := pickC_at c2 4
    generalize pickV c2 4 = k0 at *
    generalize pickC c2 4 = cb at *
    repeat' first | apply w_seq | apply w_block | apply rb_n | apply rb_ret | apply rb_eq | refine rb_ne (by rfl) ?_ | apply w_exit | apply rt_exit | apply w_region | apply l_nil | apply rt_n | apply w_ret | apply rt_ret | apply w_skip | refine w_cond_t rfl ?_ | refine w_cond_f rfl ?_ | ((first | refine w_cnd rfl ?_ ?_ | refine w_cd rfl ?_ ?_ | refine w_cn rfl ?_ ?_ | refine w_cond rfl ?_ ?_) <;> intro hc) | (exfalso; omega) | (refine l_o ?_; first | refine l_eqnil rfl (by kernel_rfl) (by intro b; simp only [nz]; rfl) (fun b hb => ?_) | refine l_op rfl (by first | (apply k_add; first | exact ops_addn (a := 1) (b := k0) rfl rfl (by omega) | fail) | (apply k_callf; first | exact ops_callP (d := 35) 1000000000000 [RCur cb] (hfc := p3) | fail) | fail) (hk := ?_) | refine l_op (hk := ?_))
    refine w_le _ (le_drop 22 (by simp only [nz, nf, nl, nb, nr, ng, nq, nu, reduceIte, Nat.reduceEqDiff, Nat.reduceAdd]; rfl) (by simp only [nz, nf, nl, nb, nr, ng, nq, nu, reduceIte, Nat.reduceEqDiff, Nat.reduceAdd]; rfl)) ?_
    refine w_loopm (ι := Nat × Cur × List Int) (fun q => [(5, RVn q.1), (4, .ref 33 0 q.2.2.length), (33, .any)]) (fun q => [(33, 1, q.2.2.map RVi), (1000000000000, 3, [RCur q.2.1])]) (fun q => q.2.2.length + q.1 ≤ 4 ∧ q.2.1.at_ + 2 * q.1 ≤ c.at_ + 40) (fun q => q.1) (1 + k0, cb, []) (h0 := ?_) (hs := ?_) (round := ?_)
    · exact ⟨by dsimp only [List.length_nil]; omega, by dsimp only; omega⟩
    · refine le_eq (by (repeat' first | exact .nil | refine .keep ?_ | refine .any ?_); first | done | fail) rfl rfl
    · intro ⟨k, c3, L⟩ ⟨g1, g2⟩
      dsimp only at g1 g2 ⊢
      by_cases hk0 : 0 < k
      · have p4 := pick_ok c3 8 (by omega) (by omega)
        have v4 := pickV_lt c3 8 (by omega)
        have a4 := pickC_at c3 8
        generalize pickV c3 8 = u at *
        generalize pickC c3 8 = cc at *
        repeat' first | apply w_seq | apply w_block | apply rb_n | apply rb_ret | apply rb_eq | refine rb_ne (by rfl) ?_ | apply w_exit | apply rt_exit | apply w_region | apply l_nil | apply rt_n | apply w_ret | apply rt_ret | apply w_skip | refine w_cond_t rfl ?_ | refine w_cond_f rfl ?_ | ((first | refine w_cnd rfl ?_ ?_ | refine w_cd rfl ?_ ?_ | refine w_cn rfl ?_ ?_ | refine w_cond rfl ?_ ?_) <;> intro hc) | (exfalso; omega) | (refine l_o ?_; first | refine l_eqnil rfl (by kernel_rfl) (by intro b; simp only [nz]; rfl) (fun b hb => ?_) | refine l_op rfl (by first | (apply k_sub; first | exact ops_subn (a := k) (b := 1) rfl rfl (by omega) (by omega) | fail) | (apply k_callf; first | exact ops_callP (d := 43) 1000000000000 [RCur cc] (hfc := p4) | fail) | fail) (hk := ?_) | refine l_op (hk := ?_))
        exact rn_mk (k - 1, cc, L ++ [((u : Nat) : Int)]) ⟨by simp; omega, by dsimp only; omega⟩ (by dsimp only; omega) (le_eq (by (repeat' first | exact .nil | refine .keep ?_ | refine .any ?_); first | done | fail) rfl rfl)
      · obtain rfl : k = 0 := by omega
        have hLl : L.length ≤ 4 := by omega
        clear p2 a2 hk
        have p5 := one_ok c3 12 (by omega) (by omega)
        have a5 := pickC_at c3 12
        generalize pickV c3 12 = o12 at *
        generalize pickC c3 12 = c4 at *
        by_cases h12 : ((o12 : Nat) : Int) = 0
        · rw [decide_eq_true h12] at p5
          have p6 := pick_ok c4 3 (by omega) (by omega)
          have v6 := pickV_lt c4 3 (by omega)
          have a6 := pickC_at c4 3
          generalize pickV c4 3 = m at *
          generalize pickC c4 3 = c5 at *
          obtain rfl | rfl | rfl : m = 0 ∨ m = 1 ∨ m = 2 := by omega
          · have p7 := among_ok c5 [0, 8, -1] (by omega) (by decide) (by decide)
            have a7 := pickC_at c5 ([0, 8, -1] : List Int).length
            generalize ([0, 8, -1] : List Int).getD (pickV c5 ([0, 8, -1] : List Int).length) 0 = r at *
            generalize pickC c5 ([0, 8, -1] : List Int).length = c6 at *
            repeat' first | apply w_seq | apply w_block | apply rb_n | apply rb_ret | apply rb_eq | refine rb_ne (by rfl) ?_ | apply w_exit | apply rt_exit | apply w_region | apply l_nil | apply rt_n | apply w_ret | apply rt_ret | apply w_skip | refine w_cond_t rfl ?_ | refine w_cond_f rfl ?_ | ((first | refine w_cnd rfl ?_ ?_ | refine w_cd rfl ?_ ?_ | refine w_cn rfl ?_ ?_ | refine w_cond rfl ?_ ?_) <;> intro hc) | (exfalso; omega) | (refine l_o ?_; first | refine l_eqnil rfl (by kernel_rfl) (by intro b; simp only [nz]; rfl) (fun b hb => ?_) | refine l_op rfl (by first | (apply k_buildSlice; first | exact ops_buildSlice_fz (d := some 54) (k := 1) rfl rfl rfl (by decide) (by decide) (by kernel_rfl) (by decide +kernel) rfl | fail) | (apply k_callf; first | exact ops_callP (d := 47) 1000000000000 [RCur c4] (hfc := p5) | exact ops_callP (d := 49) 1000000000000 [RCur c5] (hfc := p6) | exact ops_callP (d := 55) 1000000000000 [RCur c6] (hfc := p7) | fail) | fail) (hk := ?_) | refine l_op (hk := ?_))
            refine en_ex (L ++ [r], c6) ⟨by simp; omega, by dsimp only; omega⟩ ?_
            refine en_endm [] (hf := Tryz.results47) (hO := ?_) (hr := ?_)
            · rfl
            · rfl
          · repeat' first | apply w_seq | apply w_block | apply rb_n | apply rb_ret | apply rb_eq | refine rb_ne (by rfl) ?_ | apply w_exit | apply rt_exit | apply w_region | apply l_nil | apply rt_n | apply w_ret | apply rt_ret | apply w_skip | refine w_cond_t rfl ?_ | refine w_cond_f rfl ?_ | ((first | refine w_cnd rfl ?_ ?_ | refine w_cd rfl ?_ ?_ | refine w_cn rfl ?_ ?_ | refine w_cond rfl ?_ ?_) <;> intro hc) | (exfalso; omega) | (refine l_o ?_; first | refine l_eqnil rfl (by kernel_rfl) (by intro b; simp only [nz]; rfl) (fun b hb => ?_) | refine l_op rfl (by first | (apply k_callf; first | exact ops_callP (d := 47) 1000000000000 [RCur c4] (hfc := p5) | exact ops_callP (d := 49) 1000000000000 [RCur c5] (hfc := p6) | fail) | fail) (hk := ?_) | refine l_op (hk := ?_))
            refine en_ex ([], c5) ⟨by simp, by dsimp only; omega⟩ ?_
            refine en_le _ (le_nil 2 100 1 (by omega) rfl (by simp [nm]) (by simp [nm]) (by simp only [nz]; rfl)) ?_
            refine en_endm ([(33, 1, L.map RVi)]) (hf := Tryz.results47) (hO := ?_) (hr := ?_)
            · rfl
            · rfl
          · repeat' first | apply w_seq | apply w_block | apply rb_n | apply rb_ret | apply rb_eq | refine rb_ne (by rfl) ?_ | apply w_exit | apply rt_exit | apply w_region | apply l_nil | apply rt_n | apply w_ret | apply rt_ret | apply w_skip | refine w_cond_t rfl ?_ | refine w_cond_f rfl ?_ | ((first | refine w_cnd rfl ?_ ?_ | refine w_cd rfl ?_ ?_ | refine w_cn rfl ?_ ?_ | refine w_cond rfl ?_ ?_) <;> intro hc) | (exfalso; omega) | (refine l_o ?_; first | refine l_eqnil rfl (by kernel_rfl) (by intro b; simp only [nz]; rfl) (fun b hb => ?_) | refine l_op rfl (by first | (apply k_callf; first | exact ops_callP (d := 47) 1000000000000 [RCur c4] (hfc := p5) | exact ops_callP (d := 49) 1000000000000 [RCur c5] (hfc := p6) | fail) | fail) (hk := ?_) | refine l_op (hk := ?_))
            refine w_loopm (ι := Cur × List Int) (fun q => [(4, .ref 33 0 q.2.length), (33, .any)]) (fun q => [(33, 1, q.2.map RVi), (1000000000000, 3, [RCur q.1])]) (fun q => q.2.length ≤ 20 ∧ q.1.at_ + 4 * (20 - q.2.length) ≤ c.at_ + 400) (fun q => 20 - q.2.length) (c5, L) (h0 := ?_) (hs := ?_) (round := ?_)
            · exact ⟨by dsimp only; omega, by dsimp only; omega⟩
            · refine le_eq (by (repeat' first | exact .nil | refine .keep ?_ | refine .any ?_); first | done | fail) rfl rfl
            · intro ⟨d, L2⟩ ⟨g1, g2⟩
              dsimp only at g1 g2 ⊢
              have p8 := pick_ok d 2 (by omega) (by omega)
              have v8 := pickV_lt d 2 (by omega)
              have a8 := pickC_at d 2
              generalize pickV d 2 = v at *
              generalize pickC d 2 = d2 at *
              by_cases hj : L2.length < 6 + v
              · have p9 := pick_ok d2 7 (by omega) (by omega)
                have v9 := pickV_lt d2 7 (by omega)
                have a9 := pickC_at d2 7
                generalize pickV d2 7 = u at *
                generalize pickC d2 7 = d3 at *
                repeat' first | apply w_seq | apply w_block | apply rb_n | apply rb_ret | apply rb_eq | refine rb_ne (by rfl) ?_ | apply w_exit | apply rt_exit | apply w_region | apply l_nil | apply rt_n | apply w_ret | apply rt_ret | apply w_skip | refine w_cond_t rfl ?_ | refine w_cond_f rfl ?_ | ((first | refine w_cnd rfl ?_ ?_ | refine w_cd rfl ?_ ?_ | refine w_cn rfl ?_ ?_ | refine w_cond rfl ?_ ?_) <;> intro hc) | (exfalso; omega) | (refine l_o ?_; first | refine l_eqnil rfl (by kernel_rfl) (by intro b; simp only [nz]; rfl) (fun b hb => ?_) | refine l_op rfl (by first | (apply k_add; first | exact ops_addn (a := 6) (b := v) rfl rfl (by omega) | exact ops_addn (a := 1) (b := u) rfl rfl (by omega) | fail) | (apply k_callf; first | exact ops_callP (d := 65) 1000000000000 [RCur d2] (hfc := p8) | exact ops_callP (d := 70) 1000000000000 [RCur d3] (hfc := p9) | fail) | fail) (hk := ?_) | refine l_op (hk := ?_))
                exact rn_mk (d3, L2 ++ [((1 + u : Nat) : Int)]) ⟨by simp; omega, by simp; omega⟩ (by simp; omega) (le_eq (by (repeat' first | exact .nil | refine .keep ?_ | refine .any ?_); first | done | fail) rfl (by simp))
              · repeat' first | apply w_seq | apply w_block | apply rb_n | apply rb_ret | apply rb_eq | refine rb_ne (by rfl) ?_ | apply w_exit | apply rt_exit | apply w_region | apply l_nil | apply rt_n | apply w_ret | apply rt_ret | apply w_skip | refine w_cond_t rfl ?_ | refine w_cond_f rfl ?_ | ((first | refine w_cnd rfl ?_ ?_ | refine w_cd rfl ?_ ?_ | refine w_cn rfl ?_ ?_ | refine w_cond rfl ?_ ?_) <;> intro hc) | (exfalso; omega) | (refine l_o ?_; first | refine l_eqnil rfl (by kernel_rfl) (by intro b; simp only [nz]; rfl) (fun b hb => ?_) | refine l_op rfl (by first | (apply k_add; first | exact ops_addn (a := 6) (b := v) rfl rfl (by omega) | fail) | (apply k_callf; first | exact ops_callP (d := 65) 1000000000000 [RCur d2] (hfc := p8) | fail) | fail) (hk := ?_) | refine l_op (hk := ?_))
                refine en_ex (L2, d2) ⟨by dsimp only; omega, by dsimp only; omega⟩ ?_
                refine en_endm [] (hf := Tryz.results47) (hO := ?_) (hr := ?_)
                · rfl
                · rfl
        · rw [decide_eq_false h12] at p5
          repeat' first | apply w_seq | apply w_block | apply rb_n | apply rb_ret | apply rb_eq | refine rb_ne (by rfl) ?_ | apply w_exit | apply rt_exit | apply w_region | apply l_nil | apply rt_n | apply w_ret | apply rt_ret | apply w_skip | refine w_cond_t rfl ?_ | refine w_cond_f rfl ?_ | ((first | refine w_cnd rfl ?_ ?_ | refine w_cd rfl ?_ ?_ | refine w_cn rfl ?_ ?_ | refine w_cond rfl ?_ ?_) <;> intro hc) | (exfalso; omega) | (refine l_o ?_; first | refine l_eqnil rfl (by kernel_rfl) (by intro b; simp only [nz]; rfl) (fun b hb => ?_) | refine l_op rfl (by first | (apply k_callf; first | exact ops_callP (d := 47) 1000000000000 [RCur c4] (hfc := p5) | fail) | fail) (hk := ?_) | refine l_op (hk := ?_))
          refine en_ex (L, c4) ⟨by dsimp only; omega, by dsimp only; omega⟩ ?_
          refine en_endm [] (hf := Tryz.results47) (hO := ?_) (hr := ?_)
          · rfl
          · rfl
  · have hLl := hk
    generalize knC[n] = L at *
    obtain ⟨c3, hc3⟩ : ∃ c3, c3 = c2 := ⟨_, rfl⟩
    rw [← hc3]
    rw [← hc3] at a2
    have p5 := one_ok c3 12 (by omega) (by omega)
    have a5 := pickC_at c3 12
    generalize pickV c3 12 = o12 at *
    generalize pickC c3 12 = c4 at *
    by_cases h12 : ((o12 : Nat) : Int) = 0
    · rw [decide_eq_true h12] at p5
      have p6 := pick_ok c4 3 (by omega) (by omega)
      have v6 := pickV_lt c4 3 (by omega)
      have a6 := pickC_at c4 3
      generalize pickV c4 3 = m at *
      generalize pickC c4 3 = c5 at *
      obtain rfl | rfl | rfl : m = 0 ∨ m = 1 ∨ m = 2 := by omega
      · have p7 := among_ok c5 [0, 8, -1] (by omega) (by decide) (by decide)
        have a7 := pickC_at c5 ([0, 8, -1] : List Int).length
        generalize ([0, 8, -1] : List Int).getD (pickV c5 ([0, 8, -1] : List Int).length) 0 = r at *
        generalize pickC c5 ([0, 8, -1] : List Int).length = c6 at *
        repeat' first | apply w_seq | apply w_block | apply rb_n | apply rb_ret | apply rb_eq | refine rb_ne (by rfl) ?_ | apply w_exit | apply rt_exit | apply w_region | apply l_nil | apply rt_n | apply w_ret | apply rt_ret | apply w_skip | refine w_cond_t rfl ?_ | refine w_cond_f rfl ?_ | ((first | refine w_cnd rfl ?_ ?_ | refine w_cd rfl ?_ ?_ | refine w_cn rfl ?_ ?_ | refine w_cond rfl ?_ ?_) <;> intro hc) | (exfalso; omega) | (refine l_o ?_; first | refine l_eqnil rfl (by kernel_rfl) (by intro b; simp only [nz]; rfl) (fun b hb => ?_) | refine l_op rfl (by first | (apply k_buildSlice; first | exact ops_buildSlice_fz (d := some 54) (k := 1) rfl rfl rfl (by decide) (by decide) (by kernel_rfl) (by decide +kernel) rfl | fail) | (apply k_callf; first | exact ops_callP (d := 47) 1000000000000 [RCur c4] (hfc := p5) | exact ops_callP (d := 49) 1000000000000 [RCur c5] (hfc := p6) | exact ops_callP (d := 55) 1000000000000 [RCur c6] (hfc := p7) | fail) | fail) (hk := ?_) | refine l_op (hk := ?_))
        refine en_ex (L ++ [r], c6) ⟨by simp; omega, by dsimp only; omega⟩ ?_
        refine en_endm [] (hf := Tryz.results47) (hO := ?_) (hr := ?_)
        · rfl
        · rfl
      · repeat' first | apply w_seq | apply w_block | apply rb_n | apply rb_ret | apply rb_eq | refine rb_ne (by rfl) ?_ | apply w_exit | apply rt_exit | apply w_region | apply l_nil | apply rt_n | apply w_ret | apply rt_ret | apply w_skip | refine w_cond_t rfl ?_ | refine w_cond_f rfl ?_ | ((first | refine w_cnd rfl ?_ ?_ | refine w_cd rfl ?_ ?_ | refine w_cn rfl ?_ ?_ | refine w_cond rfl ?_ ?_) <;> intro hc) | (exfalso; omega) | (refine l_o ?_; first | refine l_eqnil rfl (by kernel_rfl) (by intro b; simp only [nz]; rfl) (fun b hb => ?_) | refine l_op rfl (by first | (apply k_callf; first | exact ops_callP (d := 47) 1000000000000 [RCur c4] (hfc := p5) | exact ops_callP (d := 49) 1000000000000 [RCur c5] (hfc := p6) | fail) | fail) (hk := ?_) | refine l_op (hk := ?_))
        refine en_ex ([], c5) ⟨by simp, by dsimp only; omega⟩ ?_
        refine en_le _ (le_nil 2 100 1 (by omega) rfl (by simp [nm]) (by simp [nm]) (by simp only [nz]; rfl)) ?_
        refine en_endm ([(22, 1, L.map RVi)]) (hf := Tryz.results47) (hO := ?_) (hr := ?_)
        · rfl
        · rfl
      · repeat' first | apply w_seq | apply w_block | apply rb_n | apply rb_ret | apply rb_eq | refine rb_ne (by rfl) ?_ | apply w_exit | apply rt_exit | apply w_region | apply l_nil | apply rt_n | apply w_ret | apply rt_ret | apply w_skip | refine w_cond_t rfl ?_ | refine w_cond_f rfl ?_ | ((first | refine w_cnd rfl ?_ ?_ | refine w_cd rfl ?_ ?_ | refine w_cn rfl ?_ ?_ | refine w_cond rfl ?_ ?_) <;> intro hc) | (exfalso; omega) | (refine l_o ?_; first | refine l_eqnil rfl (by kernel_rfl) (by intro b; simp only [nz]; rfl) (fun b hb => ?_) | refine l_op rfl (by first | (apply k_callf; first | exact ops_callP (d := 47) 1000000000000 [RCur c4] (hfc := p5) | exact ops_callP (d := 49) 1000000000000 [RCur c5] (hfc := p6) | fail) | fail) (hk := ?_) | refine l_op (hk := ?_))
        refine w_loopm (ι := Cur × List Int) (fun q => [(4, .ref 22 0 q.2.length), (22, .any), (30, .any)]) (fun q => [(22, 1, q.2.map RVi), (1000000000000, 3, [RCur q.1])]) (fun q => q.2.length ≤ 20 ∧ q.1.at_ + 4 * (20 - q.2.length) ≤ c.at_ + 400) (fun q => 20 - q.2.length) (c5, L) (h0 := ?_) (hs := ?_) (round := ?_)
        · exact ⟨by dsimp only; omega, by dsimp only; omega⟩
        · refine le_eq (by (repeat' first | exact .nil | refine .keep ?_ | refine .any ?_); first | done | fail) rfl rfl
        · intro ⟨d, L2⟩ ⟨g1, g2⟩
          dsimp only at g1 g2 ⊢
          have p8 := pick_ok d 2 (by omega) (by omega)
          have v8 := pickV_lt d 2 (by omega)
          have a8 := pickC_at d 2
          generalize pickV d 2 = v at *
          generalize pickC d 2 = d2 at *
          by_cases hj : L2.length < 6 + v
          · have p9 := pick_ok d2 7 (by omega) (by omega)
            have v9 := pickV_lt d2 7 (by omega)
            have a9 := pickC_at d2 7
            generalize pickV d2 7 = u at *
            generalize pickC d2 7 = d3 at *
            repeat' first | apply w_seq | apply w_block | apply rb_n | apply rb_ret | apply rb_eq | refine rb_ne (by rfl) ?_ | apply w_exit | apply rt_exit | apply w_region | apply l_nil | apply rt_n | apply w_ret | apply rt_ret | apply w_skip | refine w_cond_t rfl ?_ | refine w_cond_f rfl ?_ | ((first | refine w_cnd rfl ?_ ?_ | refine w_cd rfl ?_ ?_ | refine w_cn rfl ?_ ?_ | refine w_cond rfl ?_ ?_) <;> intro hc) | (exfalso; omega) | (refine l_o ?_; first | refine l_eqnil rfl (by kernel_rfl) (by intro b; simp only [nz]; rfl) (fun b hb => ?_) | refine l_op rfl (by first | (apply k_add; first | exact ops_addn (a := 6) (b := v) rfl rfl (by omega) | exact ops_addn (a := 1) (b := u) rfl rfl (by omega) | fail) | (apply k_callf; first | exact ops_callP (d := 65) 1000000000000 [RCur d2] (hfc := p8) | exact ops_callP (d := 70) 1000000000000 [RCur d3] (hfc := p9) | fail) | fail) (hk := ?_) | refine l_op (hk := ?_))
            exact rn_mk (d3, L2 ++ [((1 + u : Nat) : Int)]) ⟨by simp; omega, by simp; omega⟩ (by simp; omega) (le_eq (by (repeat' first | exact .nil | refine .keep ?_ | refine .any ?_); first | done | fail) rfl (by simp))
          · repeat' first | apply w_seq | apply w_block | apply rb_n | apply rb_ret | apply rb_eq | refine rb_ne (by rfl) ?_ | apply w_exit | apply rt_exit | apply w_region | apply l_nil | apply rt_n | apply w_ret | apply rt_ret | apply w_skip | refine w_cond_t rfl ?_ | refine w_cond_f rfl ?_ | ((first | refine w_cnd rfl ?_ ?_ | refine w_cd rfl ?_ ?_ | refine w_cn rfl ?_ ?_ | refine w_cond rfl ?_ ?_) <;> intro hc) | (exfalso; omega) | (refine l_o ?_; first | refine l_eqnil rfl (by kernel_rfl) (by intro b; simp only [nz]; rfl) (fun b hb => ?_) | refine l_op rfl (by first | (apply k_add; first | exact ops_addn (a := 6) (b := v) rfl rfl (by omega) | fail) | (apply k_callf; first | exact ops_callP (d := 65) 1000000000000 [RCur d2] (hfc := p8) | fail) | fail) (hk := ?_) | refine l_op (hk := ?_))
            refine en_ex (L2, d2) ⟨by dsimp only; omega, by dsimp only; omega⟩ ?_
            refine en_endm [] (hf := Tryz.results47) (hO := ?_) (hr := ?_)
            · rfl
            · rfl
    · rw [decide_eq_false h12] at p5
      repeat' first | apply w_seq | apply w_block | apply rb_n | apply rb_ret | apply rb_eq | refine rb_ne (by rfl) ?_ | apply w_exit | apply rt_exit | apply w_region | apply l_nil | apply rt_n | apply w_ret | apply rt_ret | apply w_skip | refine w_cond_t rfl ?_ | refine w_cond_f rfl ?_ | ((first | refine w_cnd rfl ?_ ?_ | refine w_cd rfl ?_ ?_ | refine w_cn rfl ?_ ?_ | refine w_cond rfl ?_ ?_) <;> intro hc) | (exfalso; omega) | (refine l_o ?_; first | refine l_eqnil rfl (by kernel_rfl) (by intro b; simp only [nz]; rfl) (fun b hb => ?_) | refine l_op rfl (by first | (apply k_callf; first | exact ops_callP (d := 47) 1000000000000 [RCur c4] (hfc := p5) | fail) | fail) (hk := ?_) | refine l_op (hk := ?_))
      refine en_ex (L, c4) ⟨by dsimp only; omega, by dsimp only; omega⟩ ?_
      refine en_endm [] (hf := Tryz.results47) (hO := ?_) (hr := ?_)
      · rfl
      · rfl
theorem l1LeastM_ok (x y : Nat) : FCr Tryz.prog 78 [RVn x, RVn y] (RVn (min x y)) := by
  refine (fcr_in Tryz.func78 rfl (by simp only [Tryz.ntmps78, anys, List.length_cons, List.length_nil, Nat.reduceAdd, Nat.reduceSub, List.replicate_succ, List.replicate_zero, List.cons_append, List.nil_append] <;> rfl) ?_)
  repeat' first | apply w_seq | apply w_region | apply l_nil | apply rt_n | apply w_ret | apply rt_ret | apply w_skip | refine w_cond_t rfl ?_ | refine w_cond_f rfl ?_ | ((first | refine w_cnd rfl ?_ ?_ | refine w_cd rfl ?_ ?_ | refine w_cn rfl ?_ ?_ | refine w_cond rfl ?_ ?_) <;> intro hc) | (refine l_o ?_; first | refine l_op (hk := ?_))
  · refine en_one (hf := Tryz.results78) (h := ?_); simp only [lget]; first | refine congrArg RVb ?_ | refine congrArg RVi ?_ | skip
    omega
  · refine en_one (hf := Tryz.results78) (h := ?_); simp only [lget]; first | refine congrArg RVb ?_ | refine congrArg RVi ?_ | skip
    omega
theorem drawHeaps_ok (c : Cur) (most : Nat) (hm : 1 ≤ most ∧ most ≤ 100) (h : c.at_ ≤ 1099511620000) : FC Tryz.prog 48 [.ptr 1000000000000 0 0, RVn most] [(1000000000000, 3, [RCur c])]
    (fun rv O => ∃ x : List Int × Cur, MD c.at_ x ∧ rv = OIs x.1 ∧ O = [(1000000000000, 3, [RCur x.2])]) := by
  have p1 := pick_ok c most (by omega) (by omega)
  have v1 := pickV_lt c most (by omega)
  have a1 := pickC_at c most
  generalize pickV c most = n at *
  generalize pickC c most = c1 at *
  refine (fc_in Tryz.func48 rfl (by simp only [Tryz.ntmps48, anys, List.length_cons, List.length_nil, Nat.reduceAdd, Nat.reduceSub, List.replicate_succ, List.replicate_zero, List.cons_append, List.nil_append] <;> rfl) ?_)
  repeat' first | apply w_seq | apply w_block | apply rb_n | apply rb_ret | apply rb_eq | refine rb_ne (by rfl) ?_ | apply w_exit | apply rt_exit | apply w_region | apply l_nil | apply rt_n | apply w_ret | apply rt_ret | apply w_skip | refine w_cond_t rfl ?_ | refine w_cond_f rfl ?_ | ((first | refine w_cnd rfl ?_ ?_ | refine w_cd rfl ?_ ?_ | refine w_cn rfl ?_ ?_ | refine w_cond rfl ?_ ?_) <;> intro hc) | (refine l_o ?_; first | refine l_eqnil rfl (by kernel_rfl) (by intro b; simp only [nz]; rfl) (fun b hb => ?_) | refine l_op rfl (by first | (apply k_add; first | exact ops_addn (a := 1) (b := n) rfl rfl (by omega) | fail) | (apply k_callf; first | exact ops_callP (d := 11) 1000000000000 [RCur c1] (hfc := p1) | fail) | fail) (hk := ?_) | refine l_op (hk := ?_) | (refine l_g ?_; first | refine l_y rfl rfl rfl ?_ | refine l_n rfl rfl rfl rfl (hk := ?_) | refine l_n' rfl rfl rfl (hk := ?_) | refine l_spnd rfl rfl rfl (h1 := fun hc => ?_) (h2 := fun hc => ?_) | refine l_spd rfl rfl rfl (h1 := fun hc => ?_) (h2 := fun hc => ?_) | refine l_spn rfl rfl rfl (h1 := fun hc => ?_) (h2 := fun hc => ?_) | refine l_sp rfl rfl rfl (h1 := fun hc => ?_) (h2 := fun hc => ?_)))
  refine w_loopm (ι := Nat × Cur × List Int) (fun q => [(6, RVn q.1), (5, .ref 8 0 q.2.2.length), (8, .any), (7, .any)]) (fun q => [(8, 1, q.2.2.map RVi), (1000000000000, 3, [RCur q.2.1])]) (fun q => q.1 ≤ 100 ∧ q.2.2.length ≤ 6 ∧ q.2.1.at_ ≤ c.at_ + 2 + 2 * q.2.2.length) (fun q => 6 - q.2.2.length) (1 + n, c1, []) (h0 := ?_) (hs := ?_) (round := ?_)
  · exact ⟨by dsimp only; omega, by simp, by dsimp only; omega⟩
  · refine le_eq (by (repeat' first | exact .nil | refine .keep ?_ | refine .any ?_); first | done | fail) rfl rfl
  · intro ⟨left, c3, L⟩ ⟨g0, g1, g2⟩
    dsimp only at g0 g1 g2 ⊢
    by_cases hk : 0 < left ∧ L.length < 6
    · have hLe := l1LeastM_ok left 8
      have p4 := pick_ok c3 (min left 8) (by omega) (by omega)
      have v4 := pickV_lt c3 (min left 8) (by omega)
      have a4 := pickC_at c3 (min left 8)
      generalize pickV c3 (min left 8) = u at *
      generalize pickC c3 (min left 8) = cc at *
      generalize hz : min left 8 = z at *
      repeat' first | apply w_seq | apply w_block | apply rb_n | apply rb_ret | apply rb_eq | refine rb_ne (by rfl) ?_ | apply w_exit | apply rt_exit | apply w_region | apply l_nil | apply rt_n | apply w_ret | apply rt_ret | apply w_skip | refine w_cond_t rfl ?_ | refine w_cond_f rfl ?_ | ((first | refine w_cnd rfl ?_ ?_ | refine w_cd rfl ?_ ?_ | refine w_cn rfl ?_ ?_ | refine w_cond rfl ?_ ?_) <;> intro hc) | (exfalso; omega) | (refine l_o ?_; first | refine l_eqnil rfl (by kernel_rfl) (by intro b; simp only [nz]; rfl) (fun b hb => ?_) | refine l_op rfl (by first | (apply k_add; first | exact ops_addn (a := 1) (b := u) rfl rfl (by omega) | fail) | (apply k_sub; first | exact ops_subn (a := left) (b := 1 + u) rfl rfl (by omega) (by omega) | fail) | (apply k_callf; first | exact ops_callP (d := 23) 1000000000000 [RCur cc] (hfc := p4) | exact ops_callf (d := 22) (hfc := hLe) | fail) | fail) (hk := ?_) | refine l_op (hk := ?_) | (refine l_g ?_; first | refine l_y rfl rfl rfl ?_ | refine l_n rfl rfl rfl rfl (hk := ?_) | refine l_n' rfl rfl rfl (hk := ?_) | refine l_spnd rfl rfl rfl (h1 := fun hc => ?_) (h2 := fun hc => ?_) | refine l_spd rfl rfl rfl (h1 := fun hc => ?_) (h2 := fun hc => ?_) | refine l_spn rfl rfl rfl (h1 := fun hc => ?_) (h2 := fun hc => ?_) | refine l_sp rfl rfl rfl (h1 := fun hc => ?_) (h2 := fun hc => ?_)))
      exact rn_mk (left - (1 + u), cc, L ++ [((1 + u : Nat) : Int)]) ⟨by dsimp only; omega, by simp; omega, by simp; omega⟩ (by simp; omega) (le_eq (by (repeat' first | exact .nil | refine .keep ?_ | refine .any ?_); first | done | fail) rfl rfl)
    · have hS := l17Sorted_ok L (by omega)
      have hsl := srt0_len L
      generalize srt0 L = Y at *
      have p5 := one_ok c3 15 (by omega) (by omega)
      have a5 := pickC_at c3 15
      generalize pickV c3 15 = o12 at *
      generalize pickC c3 15 = c4 at *
      by_cases h12 : ((o12 : Nat) : Int) = 0
      · rw [decide_eq_true h12] at p5
        have p6 := pick_ok c4 3 (by omega) (by omega)
        have v6 := pickV_lt c4 3 (by omega)
        have a6 := pickC_at c4 3
        generalize pickV c4 3 = m at *
        generalize pickC c4 3 = c5 at *
        obtain rfl | rfl | rfl : m = 0 ∨ m = 1 ∨ m = 2 := by omega
        · have p7 := among_ok c5 [0, 20, -1] (by omega) (by decide) (by decide)
          have a7 := pickC_at c5 ([0, 20, -1] : List Int).length
          generalize ([0, 20, -1] : List Int).getD (pickV c5 ([0, 20, -1] : List Int).length) 0 = r at *
          generalize pickC c5 ([0, 20, -1] : List Int).length = c6 at *
          repeat' first | apply w_seq | apply w_block | apply rb_n | apply rb_ret | apply rb_eq | refine rb_ne (by rfl) ?_ | apply w_exit | apply rt_exit | apply w_region | apply l_nil | apply rt_n | apply w_ret | apply rt_ret | apply w_skip | refine w_cond_t rfl ?_ | refine w_cond_f rfl ?_ | ((first | refine w_cnd rfl ?_ ?_ | refine w_cd rfl ?_ ?_ | refine w_cn rfl ?_ ?_ | refine w_cond rfl ?_ ?_) <;> intro hc) | (exfalso; omega) | (refine l_o ?_; first | refine l_eqnil rfl (by kernel_rfl) (by intro b; simp only [nz]; rfl) (fun b hb => ?_) | refine l_op rfl (by first | (apply k_buildSlice; first | exact ops_buildSlice_fz (d := some 42) (k := 1) rfl rfl rfl (by decide) (by decide) (by kernel_rfl) (by decide +kernel) rfl | fail) | (apply k_callf; first | exact ops_callP (d := 35) 1000000000000 [RCur c4] (hfc := p5) | exact ops_callP (d := 37) 1000000000000 [RCur c5] (hfc := p6) | exact ops_callP (d := 43) 1000000000000 [RCur c6] (hfc := p7) | exact ops_callv (d := 33) (hfc := hS) | fail) | fail) (hk := ?_) | refine l_op (hk := ?_) | (refine l_g ?_; first | refine l_y rfl rfl rfl ?_ | refine l_n rfl rfl rfl rfl (hk := ?_) | refine l_n' rfl rfl rfl (hk := ?_) | refine l_spnd rfl rfl rfl (h1 := fun hc => ?_) (h2 := fun hc => ?_) | refine l_spd rfl rfl rfl (h1 := fun hc => ?_) (h2 := fun hc => ?_) | refine l_spn rfl rfl rfl (h1 := fun hc => ?_) (h2 := fun hc => ?_) | refine l_sp rfl rfl rfl (h1 := fun hc => ?_) (h2 := fun hc => ?_)))
          all_goals
            refine en_le _ (le_drop 8 (by simp only [nz, nf, nl, nb, nr, ng, nq, nu, reduceIte, Nat.reduceEqDiff, Nat.reduceAdd]; rfl) (by simp only [nz, nf, nl, nb, nr, ng, nq, nu, reduceIte, Nat.reduceEqDiff, Nat.reduceAdd]; rfl)) ?_
            refine en_ex (Y ++ [r], c6) ⟨by simp; omega, by dsimp only; omega⟩ ?_
            refine en_endm [] (hf := Tryz.results48) (hO := ?_) (hr := ?_)
            · rfl
            · rfl
        · repeat' first | apply w_seq | apply w_block | apply rb_n | apply rb_ret | apply rb_eq | refine rb_ne (by rfl) ?_ | apply w_exit | apply rt_exit | apply w_region | apply l_nil | apply rt_n | apply w_ret | apply rt_ret | apply w_skip | refine w_cond_t rfl ?_ | refine w_cond_f rfl ?_ | ((first | refine w_cnd rfl ?_ ?_ | refine w_cd rfl ?_ ?_ | refine w_cn rfl ?_ ?_ | refine w_cond rfl ?_ ?_) <;> intro hc) | (exfalso; omega) | (refine l_o ?_; first | refine l_eqnil rfl (by kernel_rfl) (by intro b; simp only [nz]; rfl) (fun b hb => ?_) | refine l_op rfl (by first | (apply k_callf; first | exact ops_callP (d := 35) 1000000000000 [RCur c4] (hfc := p5) | exact ops_callP (d := 37) 1000000000000 [RCur c5] (hfc := p6) | exact ops_callz (d := 33) (hfc := hS) | fail) | fail) (hk := ?_) | refine l_op (hk := ?_) | (refine l_g ?_; first | refine l_y rfl rfl rfl ?_ | refine l_n rfl rfl rfl rfl (hk := ?_) | refine l_n' rfl rfl rfl (hk := ?_) | refine l_spnd rfl rfl rfl (h1 := fun hc => ?_) (h2 := fun hc => ?_) | refine l_spd rfl rfl rfl (h1 := fun hc => ?_) (h2 := fun hc => ?_) | refine l_spn rfl rfl rfl (h1 := fun hc => ?_) (h2 := fun hc => ?_) | refine l_sp rfl rfl rfl (h1 := fun hc => ?_) (h2 := fun hc => ?_)))
          all_goals
            refine en_le _ (le_drop 8 (by simp only [nz, nf, nl, nb, nr, ng, nq, nu, reduceIte, Nat.reduceEqDiff, Nat.reduceAdd]; rfl) (by simp only [nz, nf, nl, nb, nr, ng, nq, nu, reduceIte, Nat.reduceEqDiff, Nat.reduceAdd]; rfl)) ?_
            refine en_ex (0 :: Y, c5) ⟨by simp; omega, by dsimp only; omega⟩ ?_
            refine en_endm [] (hf := Tryz.results48) (hO := ?_) (hr := ?_)
            · rfl
            · rfl
        · repeat' first | apply w_seq | apply w_block | apply rb_n | apply rb_ret | apply rb_eq | refine rb_ne (by rfl) ?_ | apply w_exit | apply rt_exit | apply w_region | apply l_nil | apply rt_n | apply w_ret | apply rt_ret | apply w_skip | refine w_cond_t rfl ?_ | refine w_cond_f rfl ?_ | ((first | refine w_cnd rfl ?_ ?_ | refine w_cd rfl ?_ ?_ | refine w_cn rfl ?_ ?_ | refine w_cond rfl ?_ ?_) <;> intro hc) | (exfalso; omega) | (refine l_o ?_; first | refine l_eqnil rfl (by kernel_rfl) (by intro b; simp only [nz]; rfl) (fun b hb => ?_) | refine l_op rfl (by first | (apply k_callf; first | exact ops_callP (d := 35) 1000000000000 [RCur c4] (hfc := p5) | exact ops_callP (d := 37) 1000000000000 [RCur c5] (hfc := p6) | exact ops_callv (d := 33) (hfc := hS) | fail) | fail) (hk := ?_) | refine l_op (hk := ?_) | (refine l_g ?_; first | refine l_y rfl rfl rfl ?_ | refine l_n rfl rfl rfl rfl (hk := ?_) | refine l_n' rfl rfl rfl (hk := ?_) | refine l_spnd rfl rfl rfl (h1 := fun hc => ?_) (h2 := fun hc => ?_) | refine l_spd rfl rfl rfl (h1 := fun hc => ?_) (h2 := fun hc => ?_) | refine l_spn rfl rfl rfl (h1 := fun hc => ?_) (h2 := fun hc => ?_) | refine l_sp rfl rfl rfl (h1 := fun hc => ?_) (h2 := fun hc => ?_)))
          all_goals
            refine en_le _ (le_drop 8 (by simp only [nz, nf, nl, nb, nr, ng, nq, nu, reduceIte, Nat.reduceEqDiff, Nat.reduceAdd]; rfl) (by simp only [nz, nf, nl, nb, nr, ng, nq, nu, reduceIte, Nat.reduceEqDiff, Nat.reduceAdd]; rfl)) ?_
            refine en_ex (Y ++ [21], c5) ⟨by simp; omega, by dsimp only; omega⟩ ?_
            refine en_endm [] (hf := Tryz.results48) (hO := ?_) (hr := ?_)
            · rfl
            · rfl
      · rw [decide_eq_false h12] at p5
        repeat' first | apply w_seq | apply w_block | apply rb_n | apply rb_ret | apply rb_eq | refine rb_ne (by rfl) ?_ | apply w_exit | apply rt_exit | apply w_region | apply l_nil | apply rt_n | apply w_ret | apply rt_ret | apply w_skip | refine w_cond_t rfl ?_ | refine w_cond_f rfl ?_ | ((first | refine w_cnd rfl ?_ ?_ | refine w_cd rfl ?_ ?_ | refine w_cn rfl ?_ ?_ | refine w_cond rfl ?_ ?_) <;> intro hc) | (exfalso; omega) | (refine l_o ?_; first | refine l_eqnil rfl (by kernel_rfl) (by intro b; simp only [nz]; rfl) (fun b hb => ?_) | refine l_op rfl (by first | (apply k_callf; first | exact ops_callP (d := 35) 1000000000000 [RCur c4] (hfc := p5) | exact ops_callv (d := 33) (hfc := hS) | fail) | fail) (hk := ?_) | refine l_op (hk := ?_) | (refine l_g ?_; first | refine l_y rfl rfl rfl ?_ | refine l_n rfl rfl rfl rfl (hk := ?_) | refine l_n' rfl rfl rfl (hk := ?_) | refine l_spnd rfl rfl rfl (h1 := fun hc => ?_) (h2 := fun hc => ?_) | refine l_spd rfl rfl rfl (h1 := fun hc => ?_) (h2 := fun hc => ?_) | refine l_spn rfl rfl rfl (h1 := fun hc => ?_) (h2 := fun hc => ?_) | refine l_sp rfl rfl rfl (h1 := fun hc => ?_) (h2 := fun hc => ?_)))
        all_goals
          refine en_le _ (le_drop 8 (by simp only [nz, nf, nl, nb, nr, ng, nq, nu, reduceIte, Nat.reduceEqDiff, Nat.reduceAdd]; rfl) (by simp only [nz, nf, nl, nb, nr, ng, nq, nu, reduceIte, Nat.reduceEqDiff, Nat.reduceAdd]; rfl)) ?_
          refine en_ex (Y, c4) ⟨by dsimp only; omega, by dsimp only; omega⟩ ?_
          refine en_endm [] (hf := Tryz.results48) (hO := ?_) (hr := ?_)
          · rfl
          · rfl
end Go.Proofs.YtmfbcipjknjicaaGreatDoor
