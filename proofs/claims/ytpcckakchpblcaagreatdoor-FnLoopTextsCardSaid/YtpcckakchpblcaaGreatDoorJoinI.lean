/- JoinLoops of the program. For all loops. -/
import Derived.Test.YtpcckakchpblcaaGreatDoorGood
import Derived.Test.YtpcckakchpblcaaGreatDoorJoin
import Derived.Test.YtpcckakchpblcaaGreatDoorOpsN
import Derived.Test.YtpcckakchpblcaaGreatDoorPush
namespace Go.Proofs.YtpcckakchpblcaaGreatDoor
open Eng
attribute [local irreducible] OpS OpG FC FCr Rel Fl Ef DR Fs
attribute [local simp] RV.fzR_names
set_option linter.unusedSimpArgs false
set_option maxHeartbeats 0
set_option maxRecDepth 100000

def joOk (gL gR hL hR : List (List Int)) : Bool := goodLp gL gR && goodLp hL hR && decide (gL.length * hL.length ≤ 36) && goodLp (jn gL hL) (jn gR hR)
def joA (gL gR hL hR : List (List Int)) : List (List Int) := if joOk gL gR hL hR = true then jn gL hL else []
def joB (gL gR hL hR : List (List Int)) : List (List Int) := if joOk gL gR hL hR = true then jn gR hR else []
theorem jo_no {gL gR hL hR : List (List Int)} (h : joOk gL gR hL hR = false) : joA gL gR hL hR = [] ∧ joB gL gR hL hR = [] := by simp [joA, joB, h]
theorem jo_yes {gL gR hL hR : List (List Int)} (h : joOk gL gR hL hR = true) : joA gL gR hL hR = jn gL hL ∧ joB gL gR hL hR = jn gR hR := by simp [joA, joB, h]
theorem implJoin_ok (gL gR hL hR : List (List Int)) : FCr Tryz.prog 11 [RLp gL gR, RLp hL hR] (.tup [OLp (joA gL gR hL hR) (joB gL gR hL hR), RVb (joOk gL gR hL hR)]) := by
  have h1 := implGood_ok gL gR
  have h2 := implGood_ok hL hR
  cases e1 : goodLp gL gR with
  | false =>
    have ho : joOk gL gR hL hR = false := by simp [joOk, e1]
    obtain ⟨a, b⟩ := jo_no ho
    rw [ho, a, b]
    rw [e1] at h1
    refine (fcr_in Tryz.func11 rfl (by simp only [Tryz.ntmps11, anys, List.length_cons, List.length_nil, Nat.reduceAdd, Nat.reduceSub, List.replicate_succ, List.replicate_zero, List.cons_append, List.nil_append] <;> rfl) ?_)
    repeat' first
      | refine w_seq ?_
      | refine w_region ?_
      | refine l_nil ?_
      | refine rt_n ?_
      | refine w_ret ?_
      | refine rt_ret ?_
      | refine w_skip ?_
      | refine w_cond_t rfl ?_
      | refine w_cond_f rfl ?_
      | refine w_cnd rfl (fun hc => ?_) (fun hc => ?_)
      | refine w_cd rfl (fun hc => ?_) (fun hc => ?_)
      | refine w_cn rfl (fun hc => ?_) (fun hc => ?_)
      | refine w_cond rfl (fun hc => ?_) (fun hc => ?_)
      | (exfalso; exact absurd rfl hc)
      | (refine l_o ?_; first | refine l_op rfl (by first | (apply k_callf; first | exact ops_callf (d := 8) (hfc := h1) | fail) | fail) (hk := ?_) | refine l_op (hk := ?_) | (refine l_g ?_; first | refine l_y rfl rfl rfl ?_ | refine l_n rfl rfl rfl rfl (hk := ?_) | refine l_n' rfl rfl rfl (hk := ?_) | refine l_spnd rfl rfl rfl (h1 := fun hc => ?_) (h2 := fun hc => ?_) | refine l_spd rfl rfl rfl (h1 := fun hc => ?_) (h2 := fun hc => ?_) | refine l_spn rfl rfl rfl (h1 := fun hc => ?_) (h2 := fun hc => ?_) | refine l_sp rfl rfl rfl (h1 := fun hc => ?_) (h2 := fun hc => ?_)))
      | refine d_nil ?_
      | (refine d_o ?_; first | refine d_fl (hk := ?_) | refine d_ef rfl (by first | exact .callf (d := 8) (hfc := h1) | exact .callfY (d := 8) (hfc := h1) | fail) (hk := ?_) | refine d_ef (hk := ?_) | (refine d_g ?_; first | refine d_spnd rfl rfl rfl (h1 := fun hc => ?_) (h2 := fun hc => ?_) | refine d_spd rfl rfl rfl (h1 := fun hc => ?_) (h2 := fun hc => ?_) | refine d_spn rfl rfl rfl (h1 := fun hc => ?_) (h2 := fun hc => ?_) | refine d_sp rfl rfl rfl (h1 := fun hc => ?_) (h2 := fun hc => ?_)))
      | (refine w_o ?_; first | refine w_draw (id := 3) (fun _ => true) (fun k => [4, 9, 11, 12].contains k) [[], [], [], []] 64 (by kernel_rfl) rfl (by kernel_rfl) (by simp [nm, nset, -List.map_take, -List.map_drop]) ?_)
    refine en_endn ([OLp [] [], RVb false]) (hf := Tryz.results11) (hr := ?_); simp only [ne]; first | rfl | skip
  | true =>
    rw [e1] at h1
    cases e2 : goodLp hL hR with
    | false =>
      have ho : joOk gL gR hL hR = false := by simp [joOk, e2]
      obtain ⟨a, b⟩ := jo_no ho
      rw [ho, a, b]
      rw [e2] at h2
      refine (fcr_in Tryz.func11 rfl (by simp only [Tryz.ntmps11, anys, List.length_cons, List.length_nil, Nat.reduceAdd, Nat.reduceSub, List.replicate_succ, List.replicate_zero, List.cons_append, List.nil_append] <;> rfl) ?_)
      repeat' first
        | refine w_seq ?_
        | refine w_region ?_
        | refine l_nil ?_
        | refine rt_n ?_
        | refine w_ret ?_
        | refine rt_ret ?_
        | refine w_skip ?_
        | refine w_cond_t rfl ?_
        | refine w_cond_f rfl ?_
        | refine w_cnd rfl (fun hc => ?_) (fun hc => ?_)
        | refine w_cd rfl (fun hc => ?_) (fun hc => ?_)
        | refine w_cn rfl (fun hc => ?_) (fun hc => ?_)
        | refine w_cond rfl (fun hc => ?_) (fun hc => ?_)
        | (exfalso; exact absurd rfl hc)
        | (refine l_o ?_; first | refine l_op rfl (by first | (apply k_callf; first | exact ops_callf (d := 8) (hfc := h1) | exact ops_callf (d := 12) (hfc := h2) | fail) | fail) (hk := ?_) | refine l_op (hk := ?_) | (refine l_g ?_; first | refine l_y rfl rfl rfl ?_ | refine l_n rfl rfl rfl rfl (hk := ?_) | refine l_n' rfl rfl rfl (hk := ?_) | refine l_spnd rfl rfl rfl (h1 := fun hc => ?_) (h2 := fun hc => ?_) | refine l_spd rfl rfl rfl (h1 := fun hc => ?_) (h2 := fun hc => ?_) | refine l_spn rfl rfl rfl (h1 := fun hc => ?_) (h2 := fun hc => ?_) | refine l_sp rfl rfl rfl (h1 := fun hc => ?_) (h2 := fun hc => ?_)))
        | refine d_nil ?_
        | (refine d_o ?_; first | refine d_fl (hk := ?_) | refine d_ef rfl (by first | exact .callf (d := 8) (hfc := h1) | exact .callf (d := 12) (hfc := h2) | exact .callfY (d := 8) (hfc := h1) | exact .callfY (d := 12) (hfc := h2) | fail) (hk := ?_) | refine d_ef (hk := ?_) | (refine d_g ?_; first | refine d_spnd rfl rfl rfl (h1 := fun hc => ?_) (h2 := fun hc => ?_) | refine d_spd rfl rfl rfl (h1 := fun hc => ?_) (h2 := fun hc => ?_) | refine d_spn rfl rfl rfl (h1 := fun hc => ?_) (h2 := fun hc => ?_) | refine d_sp rfl rfl rfl (h1 := fun hc => ?_) (h2 := fun hc => ?_)))
        | (refine w_o ?_; first | refine w_draw (id := 3) (fun _ => true) (fun k => [4, 9, 11, 12].contains k) [[], [], [], []] 64 (by kernel_rfl) rfl (by kernel_rfl) (by simp [nm, nset, -List.map_take, -List.map_drop]) ?_)
      refine en_endn ([OLp [] [], RVb false]) (hf := Tryz.results11) (hr := ?_); simp only [ne]; first | rfl | skip
    | true =>
      rw [e2] at h2
      have g := goodI e1
      have h := goodI e2
      have gl := g.len
      have hl := h.len
      have hb : gL.length * hL.length ≤ 1296 := Nat.le_trans (Nat.mul_le_mul gl hl) (Nat.le_refl _)
      by_cases hm : gL.length * hL.length ≤ 36
      · have j1 := joinedSides_ok gL hL gL.length gl g.inL h.inL gl hl g.lL h.lL
        have j2 := joinedSides_ok gR hR gL.length gl g.inR (by rw [h.lenR]; exact h.inR) (by rw [g.lenR]; exact gl) (by rw [h.lenR]; exact hl) g.lR h.lR
        have hG := implGood_ok (jn gL hL) (jn gR hR)
        have l1 : (jn gL hL).length ≤ 36 := by rw [jn_len]; exact hm
        have l2 : (jn gR hR).length ≤ 36 := by rw [jn_len, g.lenR, h.lenR]; exact hm
        cases e3 : goodLp (jn gL hL) (jn gR hR) with
        | false =>
          have ho : joOk gL gR hL hR = false := by simp [joOk, e3]
          obtain ⟨a, b⟩ := jo_no ho
          rw [ho, a, b]
          rw [e3] at hG
          generalize jn gL hL = A at *
          generalize jn gR hR = B at *
          refine (fcr_in Tryz.func11 rfl (by simp only [Tryz.ntmps11, anys, List.length_cons, List.length_nil, Nat.reduceAdd, Nat.reduceSub, List.replicate_succ, List.replicate_zero, List.cons_append, List.nil_append] <;> rfl) ?_)
          repeat' first
            | refine w_seq ?_
            | refine w_region ?_
            | refine l_nil ?_
            | refine rt_n ?_
            | refine w_ret ?_
            | refine rt_ret ?_
            | refine w_skip ?_
            | refine w_cond_t rfl ?_
            | refine w_cond_f rfl ?_
            | refine w_cnd rfl (fun hc => ?_) (fun hc => ?_)
            | refine w_cd rfl (fun hc => ?_) (fun hc => ?_)
            | refine w_cn rfl (fun hc => ?_) (fun hc => ?_)
            | refine w_cond rfl (fun hc => ?_) (fun hc => ?_)
            | (exfalso; omega)
            | (refine w_drawP (id := 3) (roL [2, 3]) (fun k => [12].contains k) [(4, 30), (9, 35), (11, 6)] (by kernel_rfl) rfl (by kernel_rfl) rfl (by decide) (by simp [nm, onames]) ?_)
            | (refine l_o ?_; first | refine l_op rfl (by first | (apply k_mul; first | exact ops_muln (m := gL.length) (n := hL.length) rfl rfl (by omega) | fail) | (apply k_callf; first | exact ops_callf (d := 8) (hfc := h1) | exact ops_callf (d := 12) (hfc := h2) | fail) | fail) (hk := ?_) | refine l_op (hk := ?_) | (refine l_g ?_; first | refine l_y rfl rfl rfl ?_ | refine l_n rfl rfl rfl rfl (hk := ?_) | refine l_n' rfl rfl rfl (hk := ?_) | refine l_spnd rfl rfl rfl (h1 := fun hc => ?_) (h2 := fun hc => ?_) | refine l_spd rfl rfl rfl (h1 := fun hc => ?_) (h2 := fun hc => ?_) | refine l_spn rfl rfl rfl (h1 := fun hc => ?_) (h2 := fun hc => ?_) | refine l_sp rfl rfl rfl (h1 := fun hc => ?_) (h2 := fun hc => ?_)))
            | refine d_nil ?_
            | (refine d_o ?_; first | refine d_fl rfl (by first | exact .pl (by first | (apply q_mul; first | exact fs_muln (m := gL.length) (n := hL.length) rfl rfl (by omega) | fail) | fail) | exact .ye rfl rfl rfl (by first | (apply q_mul; first | exact fs_muln (m := gL.length) (n := hL.length) rfl rfl (by omega) | fail) | fail) | fail) (hk := ?_) | refine d_fl (hk := ?_) | refine d_ef rfl (by first | exact .callf (d := 8) (hfc := h1) | exact .callf (d := 12) (hfc := h2) | exact .callfY (d := 8) (hfc := h1) | exact .callfY (d := 12) (hfc := h2) | fail) (hk := ?_) | refine d_ef (hk := ?_) | (refine d_g ?_; first | refine d_spnd rfl rfl rfl (h1 := fun hc => ?_) (h2 := fun hc => ?_) | refine d_spd rfl rfl rfl (h1 := fun hc => ?_) (h2 := fun hc => ?_) | refine d_spn rfl rfl rfl (h1 := fun hc => ?_) (h2 := fun hc => ?_) | refine d_sp rfl rfl rfl (h1 := fun hc => ?_) (h2 := fun hc => ?_)))
            | (refine w_o ?_; first | refine w_draw (id := 3) (fun _ => true) (fun k => [4, 9, 11, 12].contains k) [[], [], [], []] 64 (by kernel_rfl) rfl (by kernel_rfl) (by simp [nm, nset, -List.map_take, -List.map_drop]) ?_)
          repeat' first
            | refine p_nil ?_
            | refine p_pu (.call rfl rfl (by kernel_rfl) j1 (by simp [RV.resOkT, RV.resOk, RV.isAgg, nm]) (by simp [nz, nm]) (by rfl) (by decide)) (hk := ?_)
            | refine p_pu (.call rfl rfl (by kernel_rfl) j2 (by simp [RV.resOkT, RV.resOk, RV.isAgg, nm]) (by simp [nz, nm]) (by rfl) (by decide)) (hk := ?_)
            | refine p_pu (.alloca (zs := _) rfl (by decide) rfl (by decide)) (hk := ?_)
            | refine p_fl (hk := ?_)
            | refine p_ef (.storea rfl rfl rfl rfl rfl rfl (by kernel_rfl)) (hk := ?_)
          repeat' first
            | refine w_seq ?_
            | refine w_region ?_
            | refine l_nil ?_
            | refine rt_n ?_
            | refine w_ret ?_
            | refine rt_ret ?_
            | refine w_skip ?_
            | refine w_cond_t rfl ?_
            | refine w_cond_f rfl ?_
            | refine w_cnd rfl (fun hc => ?_) (fun hc => ?_)
            | refine w_cd rfl (fun hc => ?_) (fun hc => ?_)
            | refine w_cn rfl (fun hc => ?_) (fun hc => ?_)
            | refine w_cond rfl (fun hc => ?_) (fun hc => ?_)
            | (exfalso; exact absurd rfl hc)
            | (refine l_o ?_; first | refine l_op rfl (by first | (apply k_callf; first | exact ops_callz (d := 38) (hfc := hG) | fail) | fail) (hk := ?_) | refine l_op (hk := ?_) | (refine l_g ?_; first | refine l_y rfl rfl rfl ?_ | refine l_n rfl rfl rfl rfl (hk := ?_) | refine l_n' rfl rfl rfl (hk := ?_) | refine l_spnd rfl rfl rfl (h1 := fun hc => ?_) (h2 := fun hc => ?_) | refine l_spd rfl rfl rfl (h1 := fun hc => ?_) (h2 := fun hc => ?_) | refine l_spn rfl rfl rfl (h1 := fun hc => ?_) (h2 := fun hc => ?_) | refine l_sp rfl rfl rfl (h1 := fun hc => ?_) (h2 := fun hc => ?_)))
            | refine d_nil ?_
            | (refine d_o ?_; first | refine d_fl (hk := ?_) | refine d_ef rfl (by first | exact .callz (d := 38) (hfc := hG) | exact .callzY (d := 38) (hfc := hG) | fail) (hk := ?_) | refine d_ef (hk := ?_) | (refine d_g ?_; first | refine d_spnd rfl rfl rfl (h1 := fun hc => ?_) (h2 := fun hc => ?_) | refine d_spd rfl rfl rfl (h1 := fun hc => ?_) (h2 := fun hc => ?_) | refine d_spn rfl rfl rfl (h1 := fun hc => ?_) (h2 := fun hc => ?_) | refine d_sp rfl rfl rfl (h1 := fun hc => ?_) (h2 := fun hc => ?_)))
            | (refine w_o ?_; first | refine w_draw (id := 3) (fun _ => true) (fun k => [4, 9, 11, 12].contains k) [[], [], [], []] 64 (by kernel_rfl) rfl (by kernel_rfl) (by simp [nm, nset, -List.map_take, -List.map_drop]) ?_)
          refine en_endn ([OLp [] [], RVb false]) (hf := Tryz.results11) (hr := ?_); simp only [ne]; first | rfl | skip
        | true =>
          have ho : joOk gL gR hL hR = true := by simp [joOk, e1, e2, e3, hm]
          obtain ⟨a, b⟩ := jo_yes ho
          rw [ho, a, b]
          rw [e3] at hG
          generalize jn gL hL = A at *
          generalize jn gR hR = B at *
          refine (fcr_in Tryz.func11 rfl (by simp only [Tryz.ntmps11, anys, List.length_cons, List.length_nil, Nat.reduceAdd, Nat.reduceSub, List.replicate_succ, List.replicate_zero, List.cons_append, List.nil_append] <;> rfl) ?_)
          repeat' first
            | refine w_seq ?_
            | refine w_region ?_
            | refine l_nil ?_
            | refine rt_n ?_
            | refine w_ret ?_
            | refine rt_ret ?_
            | refine w_skip ?_
            | refine w_cond_t rfl ?_
            | refine w_cond_f rfl ?_
            | refine w_cnd rfl (fun hc => ?_) (fun hc => ?_)
            | refine w_cd rfl (fun hc => ?_) (fun hc => ?_)
            | refine w_cn rfl (fun hc => ?_) (fun hc => ?_)
            | refine w_cond rfl (fun hc => ?_) (fun hc => ?_)
            | (exfalso; omega)
            | (refine w_drawP (id := 3) (roL [2, 3]) (fun k => [12].contains k) [(4, 30), (9, 35), (11, 6)] (by kernel_rfl) rfl (by kernel_rfl) rfl (by decide) (by simp [nm, onames]) ?_)
            | (refine l_o ?_; first | refine l_op rfl (by first | (apply k_mul; first | exact ops_muln (m := gL.length) (n := hL.length) rfl rfl (by omega) | fail) | (apply k_callf; first | exact ops_callf (d := 8) (hfc := h1) | exact ops_callf (d := 12) (hfc := h2) | fail) | fail) (hk := ?_) | refine l_op (hk := ?_) | (refine l_g ?_; first | refine l_y rfl rfl rfl ?_ | refine l_n rfl rfl rfl rfl (hk := ?_) | refine l_n' rfl rfl rfl (hk := ?_) | refine l_spnd rfl rfl rfl (h1 := fun hc => ?_) (h2 := fun hc => ?_) | refine l_spd rfl rfl rfl (h1 := fun hc => ?_) (h2 := fun hc => ?_) | refine l_spn rfl rfl rfl (h1 := fun hc => ?_) (h2 := fun hc => ?_) | refine l_sp rfl rfl rfl (h1 := fun hc => ?_) (h2 := fun hc => ?_)))
            | refine d_nil ?_
            | (refine d_o ?_; first | refine d_fl rfl (by first | exact .pl (by first | (apply q_mul; first | exact fs_muln (m := gL.length) (n := hL.length) rfl rfl (by omega) | fail) | fail) | exact .ye rfl rfl rfl (by first | (apply q_mul; first | exact fs_muln (m := gL.length) (n := hL.length) rfl rfl (by omega) | fail) | fail) | fail) (hk := ?_) | refine d_fl (hk := ?_) | refine d_ef rfl (by first | exact .callf (d := 8) (hfc := h1) | exact .callf (d := 12) (hfc := h2) | exact .callfY (d := 8) (hfc := h1) | exact .callfY (d := 12) (hfc := h2) | fail) (hk := ?_) | refine d_ef (hk := ?_) | (refine d_g ?_; first | refine d_spnd rfl rfl rfl (h1 := fun hc => ?_) (h2 := fun hc => ?_) | refine d_spd rfl rfl rfl (h1 := fun hc => ?_) (h2 := fun hc => ?_) | refine d_spn rfl rfl rfl (h1 := fun hc => ?_) (h2 := fun hc => ?_) | refine d_sp rfl rfl rfl (h1 := fun hc => ?_) (h2 := fun hc => ?_)))
            | (refine w_o ?_; first | refine w_draw (id := 3) (fun _ => true) (fun k => [4, 9, 11, 12].contains k) [[], [], [], []] 64 (by kernel_rfl) rfl (by kernel_rfl) (by simp [nm, nset, -List.map_take, -List.map_drop]) ?_)
          repeat' first
            | refine p_nil ?_
            | refine p_pu (.call rfl rfl (by kernel_rfl) j1 (by simp [RV.resOkT, RV.resOk, RV.isAgg, nm]) (by simp [nz, nm]) (by rfl) (by decide)) (hk := ?_)
            | refine p_pu (.call rfl rfl (by kernel_rfl) j2 (by simp [RV.resOkT, RV.resOk, RV.isAgg, nm]) (by simp [nz, nm]) (by rfl) (by decide)) (hk := ?_)
            | refine p_pu (.alloca (zs := _) rfl (by decide) rfl (by decide)) (hk := ?_)
            | refine p_fl (hk := ?_)
            | refine p_ef (.storea rfl rfl rfl rfl rfl rfl (by kernel_rfl)) (hk := ?_)
          repeat' first
            | refine w_seq ?_
            | refine w_region ?_
            | refine l_nil ?_
            | refine rt_n ?_
            | refine w_ret ?_
            | refine rt_ret ?_
            | refine w_skip ?_
            | refine w_cond_t rfl ?_
            | refine w_cond_f rfl ?_
            | refine w_cnd rfl (fun hc => ?_) (fun hc => ?_)
            | refine w_cd rfl (fun hc => ?_) (fun hc => ?_)
            | refine w_cn rfl (fun hc => ?_) (fun hc => ?_)
            | refine w_cond rfl (fun hc => ?_) (fun hc => ?_)
            | (exfalso; exact absurd rfl hc)
            | (refine l_o ?_; first | refine l_op rfl (by first | (apply k_callf; first | exact ops_callz (d := 38) (hfc := hG) | fail) | fail) (hk := ?_) | refine l_op (hk := ?_) | (refine l_g ?_; first | refine l_y rfl rfl rfl ?_ | refine l_n rfl rfl rfl rfl (hk := ?_) | refine l_n' rfl rfl rfl (hk := ?_) | refine l_spnd rfl rfl rfl (h1 := fun hc => ?_) (h2 := fun hc => ?_) | refine l_spd rfl rfl rfl (h1 := fun hc => ?_) (h2 := fun hc => ?_) | refine l_spn rfl rfl rfl (h1 := fun hc => ?_) (h2 := fun hc => ?_) | refine l_sp rfl rfl rfl (h1 := fun hc => ?_) (h2 := fun hc => ?_)))
            | refine d_nil ?_
            | (refine d_o ?_; first | refine d_fl (hk := ?_) | refine d_ef rfl (by first | exact .callz (d := 38) (hfc := hG) | exact .callzY (d := 38) (hfc := hG) | fail) (hk := ?_) | refine d_ef (hk := ?_) | (refine d_g ?_; first | refine d_spnd rfl rfl rfl (h1 := fun hc => ?_) (h2 := fun hc => ?_) | refine d_spd rfl rfl rfl (h1 := fun hc => ?_) (h2 := fun hc => ?_) | refine d_spn rfl rfl rfl (h1 := fun hc => ?_) (h2 := fun hc => ?_) | refine d_sp rfl rfl rfl (h1 := fun hc => ?_) (h2 := fun hc => ?_)))
            | (refine w_o ?_; first | refine w_draw (id := 3) (fun _ => true) (fun k => [4, 9, 11, 12].contains k) [[], [], [], []] 64 (by kernel_rfl) rfl (by kernel_rfl) (by simp [nm, nset, -List.map_take, -List.map_drop]) ?_)
          -- DBG
          refine en_le _ (le_drop 6 (by simp only [nz, nf, nl, nb, nr, ng, nq, nu, reduceIte, Nat.reduceEqDiff, Nat.reduceAdd]; rfl) (by simp only [nz, nf, nl, nb, nr, ng, nq, nu, reduceIte, Nat.reduceEqDiff, Nat.reduceAdd]; rfl)) ?_
          refine en_endm ([(4, 2, [.agg [.ref 30 0 A.length, .ref 35 0 B.length]]), (3, 2, [.agg [RIss hL, RIss hR]]), (2, 2, [.agg [RIss gL, RIss gR]])]) (hf := Tryz.results11) (hO := ?_) (hr := ?_)
          · rfl
          · rfl
      · have ho : joOk gL gR hL hR = false := by simp [joOk, hm]
        obtain ⟨a, b⟩ := jo_no ho
        rw [ho, a, b]
        refine (fcr_in Tryz.func11 rfl (by simp only [Tryz.ntmps11, anys, List.length_cons, List.length_nil, Nat.reduceAdd, Nat.reduceSub, List.replicate_succ, List.replicate_zero, List.cons_append, List.nil_append] <;> rfl) ?_)
        repeat' first
          | refine w_seq ?_
          | refine w_region ?_
          | refine l_nil ?_
          | refine rt_n ?_
          | refine w_ret ?_
          | refine rt_ret ?_
          | refine w_skip ?_
          | refine w_cond_t rfl ?_
          | refine w_cond_f rfl ?_
          | refine w_cnd rfl (fun hc => ?_) (fun hc => ?_)
          | refine w_cd rfl (fun hc => ?_) (fun hc => ?_)
          | refine w_cn rfl (fun hc => ?_) (fun hc => ?_)
          | refine w_cond rfl (fun hc => ?_) (fun hc => ?_)
          | (exfalso; omega)
          | (refine l_o ?_; first | refine l_op rfl (by first | (apply k_mul; first | exact ops_muln (m := gL.length) (n := hL.length) rfl rfl (by omega) | fail) | (apply k_callf; first | exact ops_callf (d := 8) (hfc := h1) | exact ops_callf (d := 12) (hfc := h2) | fail) | fail) (hk := ?_) | refine l_op (hk := ?_) | (refine l_g ?_; first | refine l_y rfl rfl rfl ?_ | refine l_n rfl rfl rfl rfl (hk := ?_) | refine l_n' rfl rfl rfl (hk := ?_) | refine l_spnd rfl rfl rfl (h1 := fun hc => ?_) (h2 := fun hc => ?_) | refine l_spd rfl rfl rfl (h1 := fun hc => ?_) (h2 := fun hc => ?_) | refine l_spn rfl rfl rfl (h1 := fun hc => ?_) (h2 := fun hc => ?_) | refine l_sp rfl rfl rfl (h1 := fun hc => ?_) (h2 := fun hc => ?_)))
          | refine d_nil ?_
          | (refine d_o ?_; first | refine d_fl rfl (by first | exact .pl (by first | (apply q_mul; first | exact fs_muln (m := gL.length) (n := hL.length) rfl rfl (by omega) | fail) | fail) | exact .ye rfl rfl rfl (by first | (apply q_mul; first | exact fs_muln (m := gL.length) (n := hL.length) rfl rfl (by omega) | fail) | fail) | fail) (hk := ?_) | refine d_fl (hk := ?_) | refine d_ef rfl (by first | exact .callf (d := 8) (hfc := h1) | exact .callf (d := 12) (hfc := h2) | exact .callfY (d := 8) (hfc := h1) | exact .callfY (d := 12) (hfc := h2) | fail) (hk := ?_) | refine d_ef (hk := ?_) | (refine d_g ?_; first | refine d_spnd rfl rfl rfl (h1 := fun hc => ?_) (h2 := fun hc => ?_) | refine d_spd rfl rfl rfl (h1 := fun hc => ?_) (h2 := fun hc => ?_) | refine d_spn rfl rfl rfl (h1 := fun hc => ?_) (h2 := fun hc => ?_) | refine d_sp rfl rfl rfl (h1 := fun hc => ?_) (h2 := fun hc => ?_)))
          | (refine w_o ?_; first | refine w_draw (id := 3) (fun _ => true) (fun k => [4, 9, 11, 12].contains k) [[], [], [], []] 64 (by kernel_rfl) rfl (by kernel_rfl) (by simp [nm, nset, -List.map_take, -List.map_drop]) ?_)
        refine en_endn ([OLp [] [], RVb false]) (hf := Tryz.results11) (hr := ?_); simp only [ne]; first | rfl | skip
end Go.Proofs.YtpcckakchpblcaaGreatDoor
