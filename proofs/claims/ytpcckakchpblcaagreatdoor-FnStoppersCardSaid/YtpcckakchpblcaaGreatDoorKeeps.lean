/- l26Keeps of the reference: whether a place of two loops is kept by what is held of the next ones. For all loops that lead inside. -/
import Derived.Test.YtpcckakchpblcaaGreatDoorJ25
namespace Go.Proofs.YtpcckakchpblcaaGreatDoor
open Eng
attribute [local irreducible] OpS OpG FC FCr Rel Fl Ef DR Fs
set_option linter.unusedSimpArgs false
set_option maxHeartbeats 0
set_option maxRecDepth 100000

section
variable (GL GR HL HR : List (List Nat))
def kkN (i : Nat) : List Nat :=
  if i % 2 = 0 then (GL.getD (i / 2 / HL.length) []).map (fun x => 2 * (x * HL.length + i / 2 % HL.length) + 1) ++ (HR.getD (i / 2 % HL.length) []).map (fun y => 2 * (i / 2 / HL.length * HL.length + y) + 1)
  else (GR.getD (i / 2 / HL.length) []).map (fun x => 2 * (x * HL.length + i / 2 % HL.length)) ++ (HL.getD (i / 2 % HL.length) []).map (fun y => 2 * (i / 2 / HL.length * HL.length + y))
end
theorem kkN_eq {gL gR hL hR : List (List Int)} (i : Nat) : kkN (toN gL) (toN gR) (toN hL) (toN hR) i = kkJ gL gR hL hR i := by
  unfold kkN kkJ
  simp only [toN_gd, toN_len, List.map_map]
  rfl
theorem any_succ {f : Nat → Bool} {A : List Nat} {k : Nat} (h : k < A.length) : (A.take (k + 1)).any f = ((A.take k).any f || f A[k]) := by
  rw [List.take_succ_eq_append_getElem h, List.any_append]; simp
theorem all_succ {f : Nat → Bool} {A : List Nat} {k : Nat} (h : k < A.length) : (A.take (k + 1)).all f = ((A.take k).all f && f A[k]) := by
  rw [List.take_succ_eq_append_getElem h, List.all_append]; simp
theorem gdB {H : List Bool} {i : Nat} (h : i < H.length) : H.getD i false = H[i] := by simp [List.getD_eq_getElem?_getD, h]
theorem l26Keeps_ok (GL GR HL HR : List (List Nat)) (H : List Bool) (i : Nat) (g : Inside GL GR) (h : Inside HL HR) (lg : GL.length ≤ 36) (lh : HL.length ≤ 36) (rG : ∀ l ∈ GL, l.length ≤ 24) (rG2 : ∀ l ∈ GR, l.length ≤ 24) (rH : ∀ l ∈ HL, l.length ≤ 24) (rH2 : ∀ l ∈ HR, l.length ≤ 24) (hH : H.length = 2 * (GL.length * HL.length)) (hi : i < 2 * (GL.length * HL.length)) :
    FCr Tryz.prog 67 [.agg [RNss GL, RNss GR], .agg [RNss HL, RNss HR], RBs H, RVn i] (RVb (if i % 2 = 0 then (kkN GL GR HL HR i).any (fun k => H.getD k false) else (kkN GL GR HL HR i).all (fun k => H.getD k false))) := by
  have hm : 0 < HL.length := by
    rcases Nat.eq_zero_or_pos HL.length with e | e
    · rw [e] at hi; omega
    · exact e
  have hv : i / 2 % HL.length < HL.length := Nat.mod_lt _ hm
  have hu : i / 2 / HL.length < GL.length := by
    rw [Nat.div_lt_iff_lt_mul hm]; omega
  have hb : GL.length * HL.length ≤ 1296 := Nat.le_trans (Nat.mul_le_mul lg lh) (Nat.le_refl _)
  obtain ⟨g0, g1, g2⟩ := g
  obtain ⟨k0, k1, k2⟩ := h
  by_cases he : i % 2 = 0
  · have hb0 : decide (((i % 2 : Nat) : Int) = 0) = true := by rw [decide_eq_true_eq]; omega
    have hW1 : FCr Tryz.prog 62 [.agg [RNss GL, RNss GR], RVn (i / 2 / HL.length), RVb (decide (((i % 2 : Nat) : Int) = 0))] (RNs (GL[i / 2 / HL.length]'(by omega))) := by
      rw [hb0]; exact l25Who_ok GL GR _ true hu (by omega)
    have hW2 : FCr Tryz.prog 62 [.agg [RNss HL, RNss HR], RVn (i / 2 % HL.length), RVb (!decide (((i % 2 : Nat) : Int) = 0))] (RNs (HR[i / 2 % HL.length]'(by omega))) := by
      rw [hb0]; exact l25Who_ok HL HR _ false hv (by omega)
    have hA : ∀ x ∈ GL[i / 2 / HL.length]'(by omega), x < GL.length := g1 _ (List.getElem_mem _)
    have hB : ∀ y ∈ HR[i / 2 % HL.length]'(by omega), y < HL.length := k2 _ (List.getElem_mem _)
    have hAl : (GL[i / 2 / HL.length]'(by omega)).length ≤ 24 := rG _ (List.getElem_mem _)
    have hBl : (HR[i / 2 % HL.length]'(by omega)).length ≤ 24 := rH2 _ (List.getElem_mem _)
    rw [if_pos he, kkN, if_pos he, gd (l := GL) (by omega), gd (l := HR) (by omega), List.any_append, List.any_map, List.any_map]
    generalize GL[i / 2 / HL.length]'_ = A at *
    generalize HR[i / 2 % HL.length]'_ = B at *
    refine (fcr_in Tryz.func67 rfl (by simp only [Tryz.ntmps67, anys, List.length_cons, List.length_nil, Nat.reduceAdd, Nat.reduceSub, List.replicate_succ, List.replicate_zero, List.cons_append, List.nil_append] <;> rfl) ?_)
    repeat' first
      | refine w_seq ?_
      | refine w_block ?_
      | refine rb_n ?_
      | refine rb_ret ?_
      | refine rb_eq ?_
      | refine rb_ne (by rfl) ?_
      | refine w_exit ?_
      | refine rt_exit ?_
      | refine w_region ?_
      | refine l_nil ?_
      | refine rt_n ?_
      | refine w_ret ?_
      | refine rt_ret ?_
      | refine w_skip ?_
      | refine w_cond_t rfl ?_
      | refine w_cond_f rfl ?_
      | refine w_cnd rfl (fun hc => ?_) (fun hc => ?_)
      | refine w_cd rfl (fun hc => ?_) (fun hc => ?_)
      | refine w_cn rfl (fun hc => ?_) (fun hc => ?_)
      | refine w_cond rfl (fun hc => ?_) (fun hc => ?_)
      | (exfalso; omega)
      | (refine l_o ?_; first | refine l_eqnil rfl (by kernel_rfl) (by intro b; simp only [nz]; rfl) (fun b hb => ?_) | refine l_op rfl (by first | (apply k_quo; first | exact ops_quon (m := i) (n := 2) rfl rfl (by omega) (by omega) | exact ops_quon (m := i / 2) (n := HL.length) rfl rfl (by omega) (by omega) | fail) | (apply k_rem; first | exact ops_remn (m := i) (n := 2) rfl rfl (by omega) | exact ops_remn (m := i / 2) (n := HL.length) rfl rfl (by omega) | fail) | (apply k_callf; first | exact ops_callf (hfc := hW1) | exact ops_callf (hfc := hW2) | fail) | fail) (hk := ?_) | refine l_op (hk := ?_) | (refine l_g ?_; first | refine l_y rfl rfl rfl ?_ | refine l_n rfl rfl rfl rfl (hk := ?_) | refine l_n' rfl rfl rfl (hk := ?_) | refine l_spnd rfl rfl rfl (h1 := fun hc => ?_) (h2 := fun hc => ?_) | refine l_spd rfl rfl rfl (h1 := fun hc => ?_) (h2 := fun hc => ?_) | refine l_spn rfl rfl rfl (h1 := fun hc => ?_) (h2 := fun hc => ?_) | refine l_sp rfl rfl rfl (h1 := fun hc => ?_) (h2 := fun hc => ?_)))
    refine w_loopm (ι := Nat) (fun q => [(18, RVn q), (16, RVb ((A.take q).any (fun x => H.getD (2 * (x * HL.length + i / 2 % HL.length) + 1) false))), (17, RVb ((A.take q).all (fun x => H.getD (2 * (x * HL.length + i / 2 % HL.length) + 1) false))), (19, .any)]) (fun _ => [(5, 2, [.agg [RNss HL, RNss HR]]), (4, 2, [.agg [RNss GL, RNss GR]])]) (fun q => q ≤ A.length) (fun q => A.length - q) 0 (h0 := ?_) (hs := ?_) (round := ?_)
    · omega
    · refine le_eq (by (repeat' first | exact .nil | refine .keep ?_ | refine .any ?_); first | done | fail) rfl rfl
    · intro q hq
      by_cases hql : q < A.length
      · have hx := hA _ (List.getElem_mem hql)
        have hlt := mul_lt hx hv
        have hxm : A[q] * HL.length ≤ GL.length * HL.length := Nat.mul_le_mul_right _ (by omega)
        have hin : 2 * (A[q] * HL.length + i / 2 % HL.length) + 1 < H.length := by omega
        have e1 := any_succ (f := (fun x => H.getD (2 * (x * HL.length + i / 2 % HL.length) + 1) false)) hql
        have e2 := all_succ (f := (fun x => H.getD (2 * (x * HL.length + i / 2 % HL.length) + 1) false)) hql
        rw [gdB hin] at e1 e2
        cases c1 : (A.take q).any (fun x => H.getD (2 * (x * HL.length + i / 2 % HL.length) + 1) false) <;> cases c2 : (A.take q).all (fun x => H.getD (2 * (x * HL.length + i / 2 % HL.length) + 1) false)
        all_goals
          rw [c1] at e1
          rw [c2] at e2
          repeat' first
            | refine w_seq ?_
            | refine w_block ?_
            | refine rb_n ?_
            | refine rb_ret ?_
            | refine rb_eq ?_
            | refine rb_ne (by rfl) ?_
            | refine w_exit ?_
            | refine rt_exit ?_
            | refine w_region ?_
            | refine l_nil ?_
            | refine rt_n ?_
            | refine w_ret ?_
            | refine rt_ret ?_
            | refine w_skip ?_
            | refine w_cond_t rfl ?_
            | refine w_cond_f rfl ?_
            | refine w_cnd rfl (fun hc => ?_) (fun hc => ?_)
            | refine w_cd rfl (fun hc => ?_) (fun hc => ?_)
            | refine w_cn rfl (fun hc => ?_) (fun hc => ?_)
            | refine w_cond rfl (fun hc => ?_) (fun hc => ?_)
            | (exfalso; omega)
            | (refine l_o ?_; first | refine l_eqnil rfl (by kernel_rfl) (by intro b; simp only [nz]; rfl) (fun b hb => ?_) | refine l_op rfl (by first | (apply k_mul; first | exact ops_muln (m := A[q]) (n := HL.length) rfl rfl (by omega) | exact ops_muln (m := 2) (n := A[q] * HL.length + i / 2 % HL.length) rfl rfl (by omega) | fail) | (apply k_add; first | exact ops_addn (a := A[q] * HL.length) (b := i / 2 % HL.length) rfl rfl (by omega) | exact ops_addn (a := 2 * (A[q] * HL.length + i / 2 % HL.length)) (b := 1) rfl rfl (by omega) | fail) | fail) (hk := ?_) | refine l_op (hk := ?_) | (refine l_g ?_; first | refine l_y rfl rfl rfl ?_ | refine l_n rfl rfl rfl rfl (hk := ?_) | refine l_n' rfl rfl rfl (hk := ?_) | refine l_spnd rfl rfl rfl (h1 := fun hc => ?_) (h2 := fun hc => ?_) | refine l_spd rfl rfl rfl (h1 := fun hc => ?_) (h2 := fun hc => ?_) | refine l_spn rfl rfl rfl (h1 := fun hc => ?_) (h2 := fun hc => ?_) | refine l_sp rfl rfl rfl (h1 := fun hc => ?_) (h2 := fun hc => ?_)))
          refine rn_mk (q + 1) ?_ (by omega) ?_
          · omega
          · rw [e1, e2]
            refine le_eq (by (repeat' first | exact .nil | refine .keep ?_ | refine .any ?_); first | done | fail) rfl rfl
      · obtain rfl : q = A.length := by omega
        rw [List.take_length]
        repeat' first
          | refine w_seq ?_
          | refine w_block ?_
          | refine rb_n ?_
          | refine rb_ret ?_
          | refine rb_eq ?_
          | refine rb_ne (by rfl) ?_
          | refine w_exit ?_
          | refine rt_exit ?_
          | refine w_region ?_
          | refine l_nil ?_
          | refine rt_n ?_
          | refine w_ret ?_
          | refine rt_ret ?_
          | refine w_skip ?_
          | refine w_cond_t rfl ?_
          | refine w_cond_f rfl ?_
          | refine w_cnd rfl (fun hc => ?_) (fun hc => ?_)
          | refine w_cd rfl (fun hc => ?_) (fun hc => ?_)
          | refine w_cn rfl (fun hc => ?_) (fun hc => ?_)
          | refine w_cond rfl (fun hc => ?_) (fun hc => ?_)
          | (exfalso; omega)
          | (refine l_o ?_; first | refine l_eqnil rfl (by kernel_rfl) (by intro b; simp only [nz]; rfl) (fun b hb => ?_) | refine l_op (hk := ?_) | (refine l_g ?_; first | refine l_y rfl rfl rfl ?_ | refine l_n rfl rfl rfl rfl (hk := ?_) | refine l_n' rfl rfl rfl (hk := ?_) | refine l_spnd rfl rfl rfl (h1 := fun hc => ?_) (h2 := fun hc => ?_) | refine l_spd rfl rfl rfl (h1 := fun hc => ?_) (h2 := fun hc => ?_) | refine l_spn rfl rfl rfl (h1 := fun hc => ?_) (h2 := fun hc => ?_) | refine l_sp rfl rfl rfl (h1 := fun hc => ?_) (h2 := fun hc => ?_)))
        generalize hb1 : A.any (fun x => H.getD (2 * (x * HL.length + i / 2 % HL.length) + 1) false) = b1
        generalize hb2 : A.all (fun x => H.getD (2 * (x * HL.length + i / 2 % HL.length) + 1) false) = b2
        have hum : i / 2 / HL.length * HL.length ≤ GL.length * HL.length := Nat.mul_le_mul_right _ (by omega)
        refine w_loopm (ι := Nat) (fun q => [(20, RVn q), (16, RVb (b1 || (B.take q).any (fun y => H.getD (2 * (i / 2 / HL.length * HL.length + y) + 1) false))), (17, RVb (b2 && (B.take q).all (fun y => H.getD (2 * (i / 2 / HL.length * HL.length + y) + 1) false))), (21, .any)]) (fun _ => [(5, 2, [.agg [RNss HL, RNss HR]]), (4, 2, [.agg [RNss GL, RNss GR]])]) (fun q => q ≤ B.length) (fun q => B.length - q) 0 (h0 := ?_) (hs := ?_) (round := ?_)
        · omega
        · rw [List.take_zero, List.any_nil, List.all_nil, Bool.or_false, Bool.and_true]
          refine le_eq (by (repeat' first | exact .nil | refine .keep ?_ | refine .any ?_); first | done | fail) rfl rfl
        · intro q hq
          by_cases hql : q < B.length
          · have hx := hB _ (List.getElem_mem hql)
            have hlt := mul_lt hu hx
            have hin : 2 * (i / 2 / HL.length * HL.length + B[q]) + 1 < H.length := by omega
            have e1 := any_succ (f := (fun y => H.getD (2 * (i / 2 / HL.length * HL.length + y) + 1) false)) hql
            have e2 := all_succ (f := (fun y => H.getD (2 * (i / 2 / HL.length * HL.length + y) + 1) false)) hql
            rw [gdB hin] at e1 e2
            have e1' : (b1 || (B.take (q + 1)).any (fun y => H.getD (2 * (i / 2 / HL.length * HL.length + y) + 1) false)) = ((b1 || (B.take q).any (fun y => H.getD (2 * (i / 2 / HL.length * HL.length + y) + 1) false)) || H[2 * (i / 2 / HL.length * HL.length + B[q]) + 1]) := by rw [e1, Bool.or_assoc]
            have e2' : (b2 && (B.take (q + 1)).all (fun y => H.getD (2 * (i / 2 / HL.length * HL.length + y) + 1) false)) = ((b2 && (B.take q).all (fun y => H.getD (2 * (i / 2 / HL.length * HL.length + y) + 1) false)) && H[2 * (i / 2 / HL.length * HL.length + B[q]) + 1]) := by rw [e2, Bool.and_assoc]
            cases c1 : (b1 || (B.take q).any (fun y => H.getD (2 * (i / 2 / HL.length * HL.length + y) + 1) false)) <;> cases c2 : (b2 && (B.take q).all (fun y => H.getD (2 * (i / 2 / HL.length * HL.length + y) + 1) false))
            all_goals
              rw [c1] at e1'
              rw [c2] at e2'
              repeat' first
                | refine w_seq ?_
                | refine w_block ?_
                | refine rb_n ?_
                | refine rb_ret ?_
                | refine rb_eq ?_
                | refine rb_ne (by rfl) ?_
                | refine w_exit ?_
                | refine rt_exit ?_
                | refine w_region ?_
                | refine l_nil ?_
                | refine rt_n ?_
                | refine w_ret ?_
                | refine rt_ret ?_
                | refine w_skip ?_
                | refine w_cond_t rfl ?_
                | refine w_cond_f rfl ?_
                | refine w_cnd rfl (fun hc => ?_) (fun hc => ?_)
                | refine w_cd rfl (fun hc => ?_) (fun hc => ?_)
                | refine w_cn rfl (fun hc => ?_) (fun hc => ?_)
                | refine w_cond rfl (fun hc => ?_) (fun hc => ?_)
                | (exfalso; omega)
                | (refine l_o ?_; first | refine l_eqnil rfl (by kernel_rfl) (by intro b; simp only [nz]; rfl) (fun b hb => ?_) | refine l_op rfl (by first | (apply k_mul; first | exact ops_muln (m := i / 2 / HL.length) (n := HL.length) rfl rfl (by omega) | exact ops_muln (m := 2) (n := i / 2 / HL.length * HL.length + B[q]) rfl rfl (by omega) | fail) | (apply k_add; first | exact ops_addn (a := i / 2 / HL.length * HL.length) (b := B[q]) rfl rfl (by omega) | exact ops_addn (a := 2 * (i / 2 / HL.length * HL.length + B[q])) (b := 1) rfl rfl (by omega) | fail) | fail) (hk := ?_) | refine l_op (hk := ?_) | (refine l_g ?_; first | refine l_y rfl rfl rfl ?_ | refine l_n rfl rfl rfl rfl (hk := ?_) | refine l_n' rfl rfl rfl (hk := ?_) | refine l_spnd rfl rfl rfl (h1 := fun hc => ?_) (h2 := fun hc => ?_) | refine l_spd rfl rfl rfl (h1 := fun hc => ?_) (h2 := fun hc => ?_) | refine l_spn rfl rfl rfl (h1 := fun hc => ?_) (h2 := fun hc => ?_) | refine l_sp rfl rfl rfl (h1 := fun hc => ?_) (h2 := fun hc => ?_)))
              refine rn_mk (q + 1) ?_ (by omega) ?_
              · omega
              · rw [e1', e2']
                refine le_eq (by (repeat' first | exact .nil | refine .keep ?_ | refine .any ?_); first | done | fail) rfl rfl
          · obtain rfl : q = B.length := by omega
            rw [List.take_length]
            repeat' first
              | refine w_seq ?_
              | refine w_block ?_
              | refine rb_n ?_
              | refine rb_ret ?_
              | refine rb_eq ?_
              | refine rb_ne (by rfl) ?_
              | refine w_exit ?_
              | refine rt_exit ?_
              | refine w_region ?_
              | refine l_nil ?_
              | refine rt_n ?_
              | refine w_ret ?_
              | refine rt_ret ?_
              | refine w_skip ?_
              | refine w_cond_t rfl ?_
              | refine w_cond_f rfl ?_
              | refine w_cnd rfl (fun hc => ?_) (fun hc => ?_)
              | refine w_cd rfl (fun hc => ?_) (fun hc => ?_)
              | refine w_cn rfl (fun hc => ?_) (fun hc => ?_)
              | refine w_cond rfl (fun hc => ?_) (fun hc => ?_)
              | (exfalso; omega)
              | (exfalso; rw [hb0] at hc; cases hc)
              | (refine l_o ?_; first | refine l_eqnil rfl (by kernel_rfl) (by intro b; simp only [nz]; rfl) (fun b hb => ?_) | refine l_op (hk := ?_) | (refine l_g ?_; first | refine l_y rfl rfl rfl ?_ | refine l_n rfl rfl rfl rfl (hk := ?_) | refine l_n' rfl rfl rfl (hk := ?_) | refine l_spnd rfl rfl rfl (h1 := fun hc => ?_) (h2 := fun hc => ?_) | refine l_spd rfl rfl rfl (h1 := fun hc => ?_) (h2 := fun hc => ?_) | refine l_spn rfl rfl rfl (h1 := fun hc => ?_) (h2 := fun hc => ?_) | refine l_sp rfl rfl rfl (h1 := fun hc => ?_) (h2 := fun hc => ?_)))
            refine en_one (hf := Tryz.results67) (h := ?_); simp only [lget]; first | refine congrArg RVb ?_ | refine congrArg RVi ?_ | skip
            subst hb1 hb2
            rfl
  · have hb0 : decide (((i % 2 : Nat) : Int) = 0) = false := by rw [decide_eq_false_iff_not]; omega
    have hW1 : FCr Tryz.prog 62 [.agg [RNss GL, RNss GR], RVn (i / 2 / HL.length), RVb (decide (((i % 2 : Nat) : Int) = 0))] (RNs (GR[i / 2 / HL.length]'(by omega))) := by
      rw [hb0]; exact l25Who_ok GL GR _ false hu (by omega)
    have hW2 : FCr Tryz.prog 62 [.agg [RNss HL, RNss HR], RVn (i / 2 % HL.length), RVb (!decide (((i % 2 : Nat) : Int) = 0))] (RNs (HL[i / 2 % HL.length]'(by omega))) := by
      rw [hb0]; exact l25Who_ok HL HR _ true hv (by omega)
    have hA : ∀ x ∈ GR[i / 2 / HL.length]'(by omega), x < GL.length := g2 _ (List.getElem_mem _)
    have hB : ∀ y ∈ HL[i / 2 % HL.length]'(by omega), y < HL.length := k1 _ (List.getElem_mem _)
    have hAl : (GR[i / 2 / HL.length]'(by omega)).length ≤ 24 := rG2 _ (List.getElem_mem _)
    have hBl : (HL[i / 2 % HL.length]'(by omega)).length ≤ 24 := rH _ (List.getElem_mem _)
    rw [if_neg he, kkN, if_neg he, gd (l := GR) (by omega), gd (l := HL) (by omega), List.all_append, List.all_map, List.all_map]
    generalize GR[i / 2 / HL.length]'_ = A at *
    generalize HL[i / 2 % HL.length]'_ = B at *
    refine (fcr_in Tryz.func67 rfl (by simp only [Tryz.ntmps67, anys, List.length_cons, List.length_nil, Nat.reduceAdd, Nat.reduceSub, List.replicate_succ, List.replicate_zero, List.cons_append, List.nil_append] <;> rfl) ?_)
    repeat' first
      | refine w_seq ?_
      | refine w_block ?_
      | refine rb_n ?_
      | refine rb_ret ?_
      | refine rb_eq ?_
      | refine rb_ne (by rfl) ?_
      | refine w_exit ?_
      | refine rt_exit ?_
      | refine w_region ?_
      | refine l_nil ?_
      | refine rt_n ?_
      | refine w_ret ?_
      | refine rt_ret ?_
      | refine w_skip ?_
      | refine w_cond_t rfl ?_
      | refine w_cond_f rfl ?_
      | refine w_cnd rfl (fun hc => ?_) (fun hc => ?_)
      | refine w_cd rfl (fun hc => ?_) (fun hc => ?_)
      | refine w_cn rfl (fun hc => ?_) (fun hc => ?_)
      | refine w_cond rfl (fun hc => ?_) (fun hc => ?_)
      | (exfalso; omega)
      | (refine l_o ?_; first | refine l_eqnil rfl (by kernel_rfl) (by intro b; simp only [nz]; rfl) (fun b hb => ?_) | refine l_op rfl (by first | (apply k_quo; first | exact ops_quon (m := i) (n := 2) rfl rfl (by omega) (by omega) | exact ops_quon (m := i / 2) (n := HL.length) rfl rfl (by omega) (by omega) | fail) | (apply k_rem; first | exact ops_remn (m := i) (n := 2) rfl rfl (by omega) | exact ops_remn (m := i / 2) (n := HL.length) rfl rfl (by omega) | fail) | (apply k_callf; first | exact ops_callf (hfc := hW1) | exact ops_callf (hfc := hW2) | fail) | fail) (hk := ?_) | refine l_op (hk := ?_) | (refine l_g ?_; first | refine l_y rfl rfl rfl ?_ | refine l_n rfl rfl rfl rfl (hk := ?_) | refine l_n' rfl rfl rfl (hk := ?_) | refine l_spnd rfl rfl rfl (h1 := fun hc => ?_) (h2 := fun hc => ?_) | refine l_spd rfl rfl rfl (h1 := fun hc => ?_) (h2 := fun hc => ?_) | refine l_spn rfl rfl rfl (h1 := fun hc => ?_) (h2 := fun hc => ?_) | refine l_sp rfl rfl rfl (h1 := fun hc => ?_) (h2 := fun hc => ?_)))
    refine w_loopm (ι := Nat) (fun q => [(18, RVn q), (16, RVb ((A.take q).any (fun x => H.getD (2 * (x * HL.length + i / 2 % HL.length)) false))), (17, RVb ((A.take q).all (fun x => H.getD (2 * (x * HL.length + i / 2 % HL.length)) false))), (19, .any)]) (fun _ => [(5, 2, [.agg [RNss HL, RNss HR]]), (4, 2, [.agg [RNss GL, RNss GR]])]) (fun q => q ≤ A.length) (fun q => A.length - q) 0 (h0 := ?_) (hs := ?_) (round := ?_)
    · omega
    · refine le_eq (by (repeat' first | exact .nil | refine .keep ?_ | refine .any ?_); first | done | fail) rfl rfl
    · intro q hq
      by_cases hql : q < A.length
      · have hx := hA _ (List.getElem_mem hql)
        have hlt := mul_lt hx hv
        have hxm : A[q] * HL.length ≤ GL.length * HL.length := Nat.mul_le_mul_right _ (by omega)
        have hin : 2 * (A[q] * HL.length + i / 2 % HL.length) < H.length := by omega
        have e1 := any_succ (f := (fun x => H.getD (2 * (x * HL.length + i / 2 % HL.length)) false)) hql
        have e2 := all_succ (f := (fun x => H.getD (2 * (x * HL.length + i / 2 % HL.length)) false)) hql
        rw [gdB hin] at e1 e2
        cases c1 : (A.take q).any (fun x => H.getD (2 * (x * HL.length + i / 2 % HL.length)) false) <;> cases c2 : (A.take q).all (fun x => H.getD (2 * (x * HL.length + i / 2 % HL.length)) false)
        all_goals
          rw [c1] at e1
          rw [c2] at e2
          repeat' first
            | refine w_seq ?_
            | refine w_block ?_
            | refine rb_n ?_
            | refine rb_ret ?_
            | refine rb_eq ?_
            | refine rb_ne (by rfl) ?_
            | refine w_exit ?_
            | refine rt_exit ?_
            | refine w_region ?_
            | refine l_nil ?_
            | refine rt_n ?_
            | refine w_ret ?_
            | refine rt_ret ?_
            | refine w_skip ?_
            | refine w_cond_t rfl ?_
            | refine w_cond_f rfl ?_
            | refine w_cnd rfl (fun hc => ?_) (fun hc => ?_)
            | refine w_cd rfl (fun hc => ?_) (fun hc => ?_)
            | refine w_cn rfl (fun hc => ?_) (fun hc => ?_)
            | refine w_cond rfl (fun hc => ?_) (fun hc => ?_)
            | (exfalso; omega)
            | (refine l_o ?_; first | refine l_eqnil rfl (by kernel_rfl) (by intro b; simp only [nz]; rfl) (fun b hb => ?_) | refine l_op rfl (by first | (apply k_mul; first | exact ops_muln (m := A[q]) (n := HL.length) rfl rfl (by omega) | exact ops_muln (m := 2) (n := A[q] * HL.length + i / 2 % HL.length) rfl rfl (by omega) | fail) | (apply k_add; first | exact ops_addn (a := A[q] * HL.length) (b := i / 2 % HL.length) rfl rfl (by omega) | exact ops_addn (a := 2 * (A[q] * HL.length + i / 2 % HL.length)) (b := 0) rfl rfl (by omega) | fail) | fail) (hk := ?_) | refine l_op (hk := ?_) | (refine l_g ?_; first | refine l_y rfl rfl rfl ?_ | refine l_n rfl rfl rfl rfl (hk := ?_) | refine l_n' rfl rfl rfl (hk := ?_) | refine l_spnd rfl rfl rfl (h1 := fun hc => ?_) (h2 := fun hc => ?_) | refine l_spd rfl rfl rfl (h1 := fun hc => ?_) (h2 := fun hc => ?_) | refine l_spn rfl rfl rfl (h1 := fun hc => ?_) (h2 := fun hc => ?_) | refine l_sp rfl rfl rfl (h1 := fun hc => ?_) (h2 := fun hc => ?_)))
          refine rn_mk (q + 1) ?_ (by omega) ?_
          · omega
          · rw [e1, e2]
            refine le_eq (by (repeat' first | exact .nil | refine .keep ?_ | refine .any ?_); first | done | fail) rfl rfl
      · obtain rfl : q = A.length := by omega
        rw [List.take_length]
        repeat' first
          | refine w_seq ?_
          | refine w_block ?_
          | refine rb_n ?_
          | refine rb_ret ?_
          | refine rb_eq ?_
          | refine rb_ne (by rfl) ?_
          | refine w_exit ?_
          | refine rt_exit ?_
          | refine w_region ?_
          | refine l_nil ?_
          | refine rt_n ?_
          | refine w_ret ?_
          | refine rt_ret ?_
          | refine w_skip ?_
          | refine w_cond_t rfl ?_
          | refine w_cond_f rfl ?_
          | refine w_cnd rfl (fun hc => ?_) (fun hc => ?_)
          | refine w_cd rfl (fun hc => ?_) (fun hc => ?_)
          | refine w_cn rfl (fun hc => ?_) (fun hc => ?_)
          | refine w_cond rfl (fun hc => ?_) (fun hc => ?_)
          | (exfalso; omega)
          | (refine l_o ?_; first | refine l_eqnil rfl (by kernel_rfl) (by intro b; simp only [nz]; rfl) (fun b hb => ?_) | refine l_op (hk := ?_) | (refine l_g ?_; first | refine l_y rfl rfl rfl ?_ | refine l_n rfl rfl rfl rfl (hk := ?_) | refine l_n' rfl rfl rfl (hk := ?_) | refine l_spnd rfl rfl rfl (h1 := fun hc => ?_) (h2 := fun hc => ?_) | refine l_spd rfl rfl rfl (h1 := fun hc => ?_) (h2 := fun hc => ?_) | refine l_spn rfl rfl rfl (h1 := fun hc => ?_) (h2 := fun hc => ?_) | refine l_sp rfl rfl rfl (h1 := fun hc => ?_) (h2 := fun hc => ?_)))
        generalize hb1 : A.any (fun x => H.getD (2 * (x * HL.length + i / 2 % HL.length)) false) = b1
        generalize hb2 : A.all (fun x => H.getD (2 * (x * HL.length + i / 2 % HL.length)) false) = b2
        have hum : i / 2 / HL.length * HL.length ≤ GL.length * HL.length := Nat.mul_le_mul_right _ (by omega)
        refine w_loopm (ι := Nat) (fun q => [(20, RVn q), (16, RVb (b1 || (B.take q).any (fun y => H.getD (2 * (i / 2 / HL.length * HL.length + y)) false))), (17, RVb (b2 && (B.take q).all (fun y => H.getD (2 * (i / 2 / HL.length * HL.length + y)) false))), (21, .any)]) (fun _ => [(5, 2, [.agg [RNss HL, RNss HR]]), (4, 2, [.agg [RNss GL, RNss GR]])]) (fun q => q ≤ B.length) (fun q => B.length - q) 0 (h0 := ?_) (hs := ?_) (round := ?_)
        · omega
        · rw [List.take_zero, List.any_nil, List.all_nil, Bool.or_false, Bool.and_true]
          refine le_eq (by (repeat' first | exact .nil | refine .keep ?_ | refine .any ?_); first | done | fail) rfl rfl
        · intro q hq
          by_cases hql : q < B.length
          · have hx := hB _ (List.getElem_mem hql)
            have hlt := mul_lt hu hx
            have hin : 2 * (i / 2 / HL.length * HL.length + B[q]) < H.length := by omega
            have e1 := any_succ (f := (fun y => H.getD (2 * (i / 2 / HL.length * HL.length + y)) false)) hql
            have e2 := all_succ (f := (fun y => H.getD (2 * (i / 2 / HL.length * HL.length + y)) false)) hql
            rw [gdB hin] at e1 e2
            have e1' : (b1 || (B.take (q + 1)).any (fun y => H.getD (2 * (i / 2 / HL.length * HL.length + y)) false)) = ((b1 || (B.take q).any (fun y => H.getD (2 * (i / 2 / HL.length * HL.length + y)) false)) || H[2 * (i / 2 / HL.length * HL.length + B[q])]) := by rw [e1, Bool.or_assoc]
            have e2' : (b2 && (B.take (q + 1)).all (fun y => H.getD (2 * (i / 2 / HL.length * HL.length + y)) false)) = ((b2 && (B.take q).all (fun y => H.getD (2 * (i / 2 / HL.length * HL.length + y)) false)) && H[2 * (i / 2 / HL.length * HL.length + B[q])]) := by rw [e2, Bool.and_assoc]
            cases c1 : (b1 || (B.take q).any (fun y => H.getD (2 * (i / 2 / HL.length * HL.length + y)) false)) <;> cases c2 : (b2 && (B.take q).all (fun y => H.getD (2 * (i / 2 / HL.length * HL.length + y)) false))
            all_goals
              rw [c1] at e1'
              rw [c2] at e2'
              repeat' first
                | refine w_seq ?_
                | refine w_block ?_
                | refine rb_n ?_
                | refine rb_ret ?_
                | refine rb_eq ?_
                | refine rb_ne (by rfl) ?_
                | refine w_exit ?_
                | refine rt_exit ?_
                | refine w_region ?_
                | refine l_nil ?_
                | refine rt_n ?_
                | refine w_ret ?_
                | refine rt_ret ?_
                | refine w_skip ?_
                | refine w_cond_t rfl ?_
                | refine w_cond_f rfl ?_
                | refine w_cnd rfl (fun hc => ?_) (fun hc => ?_)
                | refine w_cd rfl (fun hc => ?_) (fun hc => ?_)
                | refine w_cn rfl (fun hc => ?_) (fun hc => ?_)
                | refine w_cond rfl (fun hc => ?_) (fun hc => ?_)
                | (exfalso; omega)
                | (refine l_o ?_; first | refine l_eqnil rfl (by kernel_rfl) (by intro b; simp only [nz]; rfl) (fun b hb => ?_) | refine l_op rfl (by first | (apply k_mul; first | exact ops_muln (m := i / 2 / HL.length) (n := HL.length) rfl rfl (by omega) | exact ops_muln (m := 2) (n := i / 2 / HL.length * HL.length + B[q]) rfl rfl (by omega) | fail) | (apply k_add; first | exact ops_addn (a := i / 2 / HL.length * HL.length) (b := B[q]) rfl rfl (by omega) | exact ops_addn (a := 2 * (i / 2 / HL.length * HL.length + B[q])) (b := 0) rfl rfl (by omega) | fail) | fail) (hk := ?_) | refine l_op (hk := ?_) | (refine l_g ?_; first | refine l_y rfl rfl rfl ?_ | refine l_n rfl rfl rfl rfl (hk := ?_) | refine l_n' rfl rfl rfl (hk := ?_) | refine l_spnd rfl rfl rfl (h1 := fun hc => ?_) (h2 := fun hc => ?_) | refine l_spd rfl rfl rfl (h1 := fun hc => ?_) (h2 := fun hc => ?_) | refine l_spn rfl rfl rfl (h1 := fun hc => ?_) (h2 := fun hc => ?_) | refine l_sp rfl rfl rfl (h1 := fun hc => ?_) (h2 := fun hc => ?_)))
              refine rn_mk (q + 1) ?_ (by omega) ?_
              · omega
              · rw [e1', e2']
                refine le_eq (by (repeat' first | exact .nil | refine .keep ?_ | refine .any ?_); first | done | fail) rfl rfl
          · obtain rfl : q = B.length := by omega
            rw [List.take_length]
            repeat' first
              | refine w_seq ?_
              | refine w_block ?_
              | refine rb_n ?_
              | refine rb_ret ?_
              | refine rb_eq ?_
              | refine rb_ne (by rfl) ?_
              | refine w_exit ?_
              | refine rt_exit ?_
              | refine w_region ?_
              | refine l_nil ?_
              | refine rt_n ?_
              | refine w_ret ?_
              | refine rt_ret ?_
              | refine w_skip ?_
              | refine w_cond_t rfl ?_
              | refine w_cond_f rfl ?_
              | refine w_cnd rfl (fun hc => ?_) (fun hc => ?_)
              | refine w_cd rfl (fun hc => ?_) (fun hc => ?_)
              | refine w_cn rfl (fun hc => ?_) (fun hc => ?_)
              | refine w_cond rfl (fun hc => ?_) (fun hc => ?_)
              | (exfalso; omega)
              | (exfalso; rw [hb0] at hc; cases hc)
              | (refine l_o ?_; first | refine l_eqnil rfl (by kernel_rfl) (by intro b; simp only [nz]; rfl) (fun b hb => ?_) | refine l_op (hk := ?_) | (refine l_g ?_; first | refine l_y rfl rfl rfl ?_ | refine l_n rfl rfl rfl rfl (hk := ?_) | refine l_n' rfl rfl rfl (hk := ?_) | refine l_spnd rfl rfl rfl (h1 := fun hc => ?_) (h2 := fun hc => ?_) | refine l_spd rfl rfl rfl (h1 := fun hc => ?_) (h2 := fun hc => ?_) | refine l_spn rfl rfl rfl (h1 := fun hc => ?_) (h2 := fun hc => ?_) | refine l_sp rfl rfl rfl (h1 := fun hc => ?_) (h2 := fun hc => ?_)))
            refine en_one (hf := Tryz.results67) (h := ?_); simp only [lget]; first | refine congrArg RVb ?_ | refine congrArg RVi ?_ | skip
            subst hb1 hb2
            rfl
end Go.Proofs.YtpcckakchpblcaaGreatDoor
