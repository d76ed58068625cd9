/- The program's going in depth: a state's visit, which calls itself through the variable that holds it. For all graphs. -/
import Derived.Test.YtpcckakchpblcaaGreatDoorGood
import Derived.Test.YtpcckakchpblcaaGreatDoorJ27
namespace Go.Proofs.YtpcckakchpblcaaGreatDoor
open Eng
attribute [local irreducible] OpS OpG FC FCr Rel Fl Ef DR Fs
set_option linter.unusedSimpArgs false
set_option maxHeartbeats 0
set_option maxRecDepth 100000

theorem grown {l : List Nat} {s k : Nat} (hs : s < l.length) (hk : k < l.length) : (l.map RVn).set s (.v (.int .i64 (max (l[s] : Int) ((l[k] + 1 : Nat) : Int)))) = (l.set s (max (l.getD s 0) (l.getD k 0 + 1))).map RVn := by
  rw [List.map_set, gd hs, gd hk]
  have e : max (l[s] : Int) ((l[k] + 1 : Nat) : Int) = ((max l[s] (l[k] + 1) : Nat) : Int) := by omega
  rw [e]
def VB (nx : List (List Nat)) (n : Nat) (q : DS) : List Bk := [(1000000000000, 1, [.ref 1000000000004 0 n]), (1000000000001, 1, [RNss nx]), (1000000000002, 1, [.fn (.func 61) [.ptr 1000000000000 0 0, .ptr 1000000000001 0 0, .ptr 1000000000002 0 0, .ptr 1000000000003 0 0]]), (1000000000003, 1, [.ref 1000000000005 0 n]), (1000000000004, 1, q.1.map RVn), (1000000000005, 1, q.2.map RVn)]
theorem visit_ok (nx : List (List Nat)) (n : Nat) (hn : nx.length = n) (hn2 : n ≤ 1000000000000) (hin : In nx n) (hl : ∀ a, (nx.getD a []).length ≤ 1099511627776) : ∀ (f : Nat) (q : DS) (s : Nat), s < n → q.1.getD s 0 = 0 → wz q ≤ f → q.1.length = n → q.2.length = n → DBd q → (∀ k, q.1.getD k 0 ≤ 2) →
    FC Tryz.prog 61 [RVn s, .ptr 1000000000000 0 0, .ptr 1000000000001 0 0, .ptr 1000000000002 0 0, .ptr 1000000000003 0 0] (VB nx n q) (fun rv O => rv = RVb (visD nx f q s).1 ∧ O = VB nx n (visD nx f q s).2) := by
  intro f
  induction f with
  | zero =>
    intro q s hs h0 hz h1 _ _ _
    exfalso
    have : 0 < wz q := List.countP_pos_iff.2 ⟨q.1[s]'(by omega), List.getElem_mem _, by rw [← gd (d := 0), h0]; rfl⟩
    omega
  | succ f ih =>
    intro ⟨ph, tn⟩ s hs h0 hz h1 h2 h3 hle
    obtain ⟨b1, b2, b3⟩ := mark1 hs h1 h0 h3
    dsimp only at h0 h1 h2 hle b1 b2 b3
    have hsn : s < nx.length := by omega
    have hsp : s < ph.length := by omega
    simp only [VB]
    have e1 : (ph.map RVn).set s (.v (.int .i64 1)) = (ph.set s 1).map RVn := by rw [List.map_set]; rfl
    have hk1 : ∀ k ∈ nx[s], k < n := fun k hk => hin s k (by rw [gd hsn]; exact hk)
    have hl1 : nx[s].length ≤ 1099511627776 := by have := hl s; rwa [gd hsn] at this
    rw [visD, gd hsn]
    dsimp only
    generalize hq1 : ((ph.set s 1, tn) : DS) = q1 at *
    have hq11 : ph.set s 1 = q1.1 := by rw [← hq1]
    have hq12 : tn = q1.2 := by rw [← hq1]
    have g1 : q1.1.length = n := by rw [← hq11]; simpa using h1
    have g2 : q1.2.length = n := by rw [← hq12]; exact h2
    have g3 : q1.1.getD s 0 = 1 := by rw [← hq11]; exact b3
    have g4 : wz q1 ≤ f := by omega
    have g5 : ∀ x, q1.1.getD x 0 ≤ 2 := fun x => by
      rw [← hq11, gd_set]
      split
      · omega
      · exact hle x
    refine (fc_in Tryz.func61 rfl (by simp only [Tryz.ntmps61, anys, List.length_cons, List.length_nil, Nat.reduceAdd, Nat.reduceSub, List.replicate_succ, List.replicate_zero, List.cons_append, List.nil_append] <;> rfl) ?_)
    repeat' first
      | refine w_seq ?_
      | refine w_block ?_
      | refine rb_n ?_
      | refine rb_ret ?_
      | refine rb_eq ?_
      | refine rb_ne (by rfl) ?_
      | refine w_exit ?_
      | refine rt_exit ?_
      | refine w_region ?_
      | refine l_nil ?_
      | refine rt_n ?_
      | refine w_ret ?_
      | refine rt_ret ?_
      | refine w_skip ?_
      | refine w_cond_t rfl ?_
      | refine w_cond_f rfl ?_
      | refine w_cnd rfl (fun hc => ?_) (fun hc => ?_)
      | refine w_cd rfl (fun hc => ?_) (fun hc => ?_)
      | refine w_cn rfl (fun hc => ?_) (fun hc => ?_)
      | refine w_cond rfl (fun hc => ?_) (fun hc => ?_)
      | (refine l_o ?_; first | refine l_eqnil rfl (by kernel_rfl) (by intro b; simp only [nz]; rfl) (fun b hb => ?_) | refine l_op (hk := ?_) | (refine l_g ?_; first | refine l_y rfl rfl rfl ?_ | refine l_n rfl rfl rfl rfl (hk := ?_) | refine l_n' rfl rfl rfl (hk := ?_) | refine l_spnd rfl rfl rfl (h1 := fun hc => ?_) (h2 := fun hc => ?_) | refine l_spd rfl rfl rfl (h1 := fun hc => ?_) (h2 := fun hc => ?_) | refine l_spn rfl rfl rfl (h1 := fun hc => ?_) (h2 := fun hc => ?_) | refine l_sp rfl rfl rfl (h1 := fun hc => ?_) (h2 := fun hc => ?_)))
      | refine e_nil ?_
      | (refine e_o ?_; first | refine e_fl (hk := ?_) | refine e_ef (hk := ?_) | (refine e_g ?_; first | refine e_spnd rfl rfl rfl (h1 := fun hc => ?_) (h2 := fun hc => ?_) | refine e_spd rfl rfl rfl (h1 := fun hc => ?_) (h2 := fun hc => ?_) | refine e_spn rfl rfl rfl (h1 := fun hc => ?_) (h2 := fun hc => ?_) | refine e_sp rfl rfl rfl (h1 := fun hc => ?_) (h2 := fun hc => ?_)))
      | (refine w_o ?_; first | refine w_drawS (id := 7) (rdP [(0, 1000000000003), (2, 1000000000003), (4, 1000000000005), (5, 1000000000005), (6, 1000000000003), (8, 1000000000005), (9, 1000000000005), (12, 1000000000005)]) (fun k => [13].contains k) [[]] (by kernel_rfl) rfl (by kernel_rfl) (by simp [nm, nset, -List.map_take, -List.map_drop]) ?_)
    simp only [oset, reduceIte, Nat.reduceEqDiff, e1, hq11]
    refine w_loopm (ι := Nat × DS) (fun q => [(17, RVn q.1), (8, .any)]) (fun q => [(1000000000000, 1, [.ref 1000000000004 0 n]), (1000000000001, 1, [RNss nx]), (1000000000002, 1, [.fn (.func 61) [.ptr 1000000000000 0 0, .ptr 1000000000001 0 0, .ptr 1000000000002 0 0, .ptr 1000000000003 0 0]]), (1000000000003, 1, [.ref 1000000000005 0 n]), (1000000000004, 1, q.2.1.map RVn), (1000000000005, 1, q.2.2.map RVn)]) (fun q => q.1 ≤ nx[s].length ∧ goD (visD nx f) s (nx[s].drop q.1) q.2 = goD (visD nx f) s nx[s] q1 ∧ Wk n q1 q.2) (fun q => nx[s].length - q.1) (0, q1) (h0 := ?_) (hs := ?_) (round := ?_)
    · exact ⟨by simp, rfl, .refl g1 g2 b1⟩
    · rw [hq12]
      refine le_eq (by (repeat' first | exact .nil | refine .keep ?_ | refine .any ?_); first | done | fail) rfl rfl
    · intro ⟨k, ph2, tn2⟩ ⟨hk, hg, hw⟩
      dsimp only at hk hg ⊢
      have i1 : ph2.length = n := hw.l1
      have i2 : tn2.length = n := hw.l2
      by_cases hkl : k < nx[s].length
      · have hkn := hk1 _ (List.getElem_mem hkl)
        have hkp : nx[s][k] < ph2.length := by omega
        have hkt : nx[s][k] < tn2.length := by omega
        have j1 : ph2.getD s 0 = 1 := by have := hw.keep s (by omega); dsimp only at this; omega
        have j2 : wz (ph2, tn2) ≤ f := Nat.le_trans hw.less g4
        have j3 : DBd (ph2, tn2) := hw.bd
        have j4 : ∀ x, ph2.getD x 0 ≤ 2 := fun x => hw.two x (g5 x)
        have hst := stepD_wk (visD_wk hin f) hs hkn j2 i1 i2 j3 j1 j4
        rw [List.drop_eq_getElem_cons hkl, goD_cons] at hg
        have u1 : ph2.getD nx[s][k] 0 = ph2[nx[s][k]] := gd hkp
        have hsp2 : s < ph2.length := by omega
        by_cases c1 : ph2[nx[s][k]] = 1
        · have e : stepD (visD nx f) s (ph2, tn2) nx[s][k] = (false, (ph2, tn2)) := by unfold stepD; rw [u1, if_pos c1]
          rw [e] at hg
          dsimp only at hg
          rw [if_neg (by decide)] at hg
          rw [← hg]
          simp only [eq_self, Bool.false_eq_true, reduceIte]
          repeat' first
            | refine w_seq ?_
            | refine w_block ?_
            | refine rb_n ?_
            | refine rb_ret ?_
            | refine rb_eq ?_
            | refine rb_ne (by rfl) ?_
            | refine w_exit ?_
            | refine rt_exit ?_
            | refine w_region ?_
            | refine l_nil ?_
            | refine rt_n ?_
            | refine w_ret ?_
            | refine rt_ret ?_
            | refine w_skip ?_
            | refine w_cond_t rfl ?_
            | refine w_cond_f rfl ?_
            | refine w_cnd rfl (fun hc => ?_) (fun hc => ?_)
            | refine w_cd rfl (fun hc => ?_) (fun hc => ?_)
            | refine w_cn rfl (fun hc => ?_) (fun hc => ?_)
            | refine w_cond rfl (fun hc => ?_) (fun hc => ?_)
            | (exfalso; omega)
            | (refine l_o ?_; first | refine l_eqnil rfl (by kernel_rfl) (by intro b; simp only [nz]; rfl) (fun b hb => ?_) | refine l_op (hk := ?_) | (refine l_g ?_; first | refine l_y rfl rfl rfl ?_ | refine l_n rfl rfl rfl rfl (hk := ?_) | refine l_n' rfl rfl rfl (hk := ?_) | refine l_spnd rfl rfl rfl (h1 := fun hc => ?_) (h2 := fun hc => ?_) | refine l_spd rfl rfl rfl (h1 := fun hc => ?_) (h2 := fun hc => ?_) | refine l_spn rfl rfl rfl (h1 := fun hc => ?_) (h2 := fun hc => ?_) | refine l_sp rfl rfl rfl (h1 := fun hc => ?_) (h2 := fun hc => ?_)))
            | refine d_nil ?_
            | (refine d_o ?_; first | refine d_fl (hk := ?_) | refine d_ef (hk := ?_) | (refine d_g ?_; first | refine d_spnd rfl rfl rfl (h1 := fun hc => ?_) (h2 := fun hc => ?_) | refine d_spd rfl rfl rfl (h1 := fun hc => ?_) (h2 := fun hc => ?_) | refine d_spn rfl rfl rfl (h1 := fun hc => ?_) (h2 := fun hc => ?_) | refine d_sp rfl rfl rfl (h1 := fun hc => ?_) (h2 := fun hc => ?_)))
            | (refine w_o ?_; first | refine w_draw (id := 7) (fun _ => true) (fun k => [11, 13].contains k) [[], []] 64 (by kernel_rfl) rfl (by kernel_rfl) (by simp [nm, nset, -List.map_take, -List.map_drop]) ?_)
          refine en_endm [] (hf := Tryz.results61) (hO := ?_) (hr := ?_)
          · rfl
          · first | rfl | exact ⟨rfl, rfl⟩
        · by_cases c0 : ph2[nx[s][k]] = 0
          · have hv := ih (ph2, tn2) nx[s][k] hkn (u1.trans c0) j2 i1 i2 j3 j4
            have hvw := visD_wk hin f (ph2, tn2) nx[s][k] hkn (u1.trans c0) j2 i1 i2 j3 j4
            unfold stepD at hg hst
            rw [u1, if_neg c1, if_pos c0] at hg hst
            simp only [VB] at hv
            generalize visD nx f (ph2, tn2) nx[s][k] = r at *
            by_cases cr : r.1 = true
            · rw [if_pos cr] at hg hst
              simp only [if_true] at hg
              rw [cr] at hv
              obtain ⟨w1, w2⟩ := hvw
              have v1 : r.2.1.length = n := w1.l1
              have v2 : r.2.2.length = n := w1.l2
              have v3 : r.2.2[nx[s][k]]'(by omega) ≤ 1000000000000 := by
                have := (w1.bd nx[s][k]).1
                have h5 := cbk_le (q := r.2)
                rw [gd (by omega)] at this
                omega
              have e3 := grown (l := r.2.2) (s := s) (k := nx[s][k]) (by omega) (by omega)
              repeat' first
                | refine w_seq ?_
                | refine w_block ?_
                | refine rb_n ?_
                | refine rb_ret ?_
                | refine rb_eq ?_
                | refine rb_ne (by rfl) ?_
                | refine w_exit ?_
                | refine rt_exit ?_
                | refine w_region ?_
                | refine l_nil ?_
                | refine rt_n ?_
                | refine w_ret ?_
                | refine rt_ret ?_
                | refine w_skip ?_
                | refine w_cond_t rfl ?_
                | refine w_cond_f rfl ?_
                | refine w_cnd rfl (fun hc => ?_) (fun hc => ?_)
                | refine w_cd rfl (fun hc => ?_) (fun hc => ?_)
                | refine w_cn rfl (fun hc => ?_) (fun hc => ?_)
                | refine w_cond rfl (fun hc => ?_) (fun hc => ?_)
                | (exfalso; omega)
                | (refine l_o ?_; first | refine l_eqnil rfl (by kernel_rfl) (by intro b; simp only [nz]; rfl) (fun b hb => ?_) | refine l_op rfl (by first | (apply k_callt; first | exact ops_callF [1000000000000, 1000000000001, 1000000000002, 1000000000003, 1000000000004, 1000000000005] [] ([(1000000000000, 1, [.ref 1000000000004 0 n]), (1000000000001, 1, [RNss nx]), (1000000000002, 1, [.fn (.func 61) [.ptr 1000000000000 0 0, .ptr 1000000000001 0 0, .ptr 1000000000002 0 0, .ptr 1000000000003 0 0]]), (1000000000003, 1, [.ref 1000000000005 0 n]), (1000000000004, 1, r.2.1.map RVn), (1000000000005, 1, r.2.2.map RVn)]) (hfc := hv) | fail) | (apply k_add; first | exact ops_addn (b := 1) rfl rfl (by omega) | fail) | fail) (hk := ?_) | refine l_op (hk := ?_) | (refine l_g ?_; first | refine l_y rfl rfl rfl ?_ | refine l_n rfl rfl rfl rfl (hk := ?_) | refine l_n' rfl rfl rfl (hk := ?_) | refine l_spnd rfl rfl rfl (h1 := fun hc => ?_) (h2 := fun hc => ?_) | refine l_spd rfl rfl rfl (h1 := fun hc => ?_) (h2 := fun hc => ?_) | refine l_spn rfl rfl rfl (h1 := fun hc => ?_) (h2 := fun hc => ?_) | refine l_sp rfl rfl rfl (h1 := fun hc => ?_) (h2 := fun hc => ?_)))
                | refine e_nil ?_
                | (refine e_o ?_; first | refine e_fl rfl (by first | exact .pl (by first | (apply q_add; first | exact fs_addn (b := 1) rfl rfl (by omega) | fail) | fail) | exact .ye rfl rfl rfl (by first | (apply q_add; first | exact fs_addn (b := 1) rfl rfl (by omega) | fail) | fail) | fail) (hk := ?_) | refine e_fl (hk := ?_) | refine e_ef (hk := ?_) | (refine e_g ?_; first | refine e_spnd rfl rfl rfl (h1 := fun hc => ?_) (h2 := fun hc => ?_) | refine e_spd rfl rfl rfl (h1 := fun hc => ?_) (h2 := fun hc => ?_) | refine e_spn rfl rfl rfl (h1 := fun hc => ?_) (h2 := fun hc => ?_) | refine e_sp rfl rfl rfl (h1 := fun hc => ?_) (h2 := fun hc => ?_)))
                | (refine w_o ?_; first | refine w_drawS (id := 7) (rdP [(0, 1000000000003), (2, 1000000000003), (4, 1000000000005), (5, 1000000000005), (6, 1000000000003), (8, 1000000000005), (9, 1000000000005), (12, 1000000000005)]) (fun k => [13].contains k) [[]] (by kernel_rfl) rfl (by kernel_rfl) (by simp [nm, nset, -List.map_take, -List.map_drop]) ?_)
              simp only [e3]
              refine rn_mk (k + 1, (r.2.1, r.2.2.set s (max (r.2.2.getD s 0) (r.2.2.getD nx[s][k] 0 + 1)))) ?_ (by first | omega | (dsimp only; omega)) (le_eq (by (repeat' first | exact .nil | refine .keep ?_ | refine .any ?_); first | done | fail) rfl rfl)
              exact ⟨by dsimp only; omega, hg, hw.trans hst⟩
            · rw [if_neg cr] at hg
              dsimp only at hg
              rw [if_neg (by decide)] at hg
              have cr2 : r.1 = false := by simpa using cr
              rw [cr2] at hv
              rw [← hg]
              simp only [eq_self, Bool.false_eq_true, reduceIte]
              repeat' first
                | refine w_seq ?_
                | refine w_block ?_
                | refine rb_n ?_
                | refine rb_ret ?_
                | refine rb_eq ?_
                | refine rb_ne (by rfl) ?_
                | refine w_exit ?_
                | refine rt_exit ?_
                | refine w_region ?_
                | refine l_nil ?_
                | refine rt_n ?_
                | refine w_ret ?_
                | refine rt_ret ?_
                | refine w_skip ?_
                | refine w_cond_t rfl ?_
                | refine w_cond_f rfl ?_
                | refine w_cnd rfl (fun hc => ?_) (fun hc => ?_)
                | refine w_cd rfl (fun hc => ?_) (fun hc => ?_)
                | refine w_cn rfl (fun hc => ?_) (fun hc => ?_)
                | refine w_cond rfl (fun hc => ?_) (fun hc => ?_)
                | (exfalso; omega)
                | (refine l_o ?_; first | refine l_eqnil rfl (by kernel_rfl) (by intro b; simp only [nz]; rfl) (fun b hb => ?_) | refine l_op rfl (by first | (apply k_callt; first | exact ops_callF [1000000000000, 1000000000001, 1000000000002, 1000000000003, 1000000000004, 1000000000005] [] ([(1000000000000, 1, [.ref 1000000000004 0 n]), (1000000000001, 1, [RNss nx]), (1000000000002, 1, [.fn (.func 61) [.ptr 1000000000000 0 0, .ptr 1000000000001 0 0, .ptr 1000000000002 0 0, .ptr 1000000000003 0 0]]), (1000000000003, 1, [.ref 1000000000005 0 n]), (1000000000004, 1, r.2.1.map RVn), (1000000000005, 1, r.2.2.map RVn)]) (hfc := hv) | fail) | fail) (hk := ?_) | refine l_op (hk := ?_) | (refine l_g ?_; first | refine l_y rfl rfl rfl ?_ | refine l_n rfl rfl rfl rfl (hk := ?_) | refine l_n' rfl rfl rfl (hk := ?_) | refine l_spnd rfl rfl rfl (h1 := fun hc => ?_) (h2 := fun hc => ?_) | refine l_spd rfl rfl rfl (h1 := fun hc => ?_) (h2 := fun hc => ?_) | refine l_spn rfl rfl rfl (h1 := fun hc => ?_) (h2 := fun hc => ?_) | refine l_sp rfl rfl rfl (h1 := fun hc => ?_) (h2 := fun hc => ?_)))
                | refine d_nil ?_
                | (refine d_o ?_; first | refine d_fl (hk := ?_) | refine d_ef (hk := ?_) | (refine d_g ?_; first | refine d_spnd rfl rfl rfl (h1 := fun hc => ?_) (h2 := fun hc => ?_) | refine d_spd rfl rfl rfl (h1 := fun hc => ?_) (h2 := fun hc => ?_) | refine d_spn rfl rfl rfl (h1 := fun hc => ?_) (h2 := fun hc => ?_) | refine d_sp rfl rfl rfl (h1 := fun hc => ?_) (h2 := fun hc => ?_)))
                | (refine w_o ?_; first | refine w_draw (id := 7) (fun _ => true) (fun k => [11, 13].contains k) [[], []] 64 (by kernel_rfl) rfl (by kernel_rfl) (by simp [nm, nset, -List.map_take, -List.map_drop]) ?_)
              refine en_endm [] (hf := Tryz.results61) (hO := ?_) (hr := ?_)
              · rfl
              · first | rfl | exact ⟨rfl, rfl⟩
          · have e : stepD (visD nx f) s (ph2, tn2) nx[s][k] = (true, (ph2, tn2.set s (max (tn2.getD s 0) (tn2.getD nx[s][k] 0 + 1)))) := by unfold stepD; rw [u1, if_neg c1, if_neg c0]
            rw [e] at hg hst
            dsimp only at hg hst
            rw [if_pos rfl] at hg
            have v3 : tn2[nx[s][k]] ≤ 1000000000000 := by
              have := (j3 nx[s][k]).1
              have h5 := cbk_le (q := (ph2, tn2))
              dsimp only at this h5
              rw [gd (by omega)] at this
              omega
            have e3 := grown (l := tn2) (s := s) (k := nx[s][k]) (by omega) (by omega)
            repeat' first
              | refine w_seq ?_
              | refine w_block ?_
              | refine rb_n ?_
              | refine rb_ret ?_
              | refine rb_eq ?_
              | refine rb_ne (by rfl) ?_
              | refine w_exit ?_
              | refine rt_exit ?_
              | refine w_region ?_
              | refine l_nil ?_
              | refine rt_n ?_
              | refine w_ret ?_
              | refine rt_ret ?_
              | refine w_skip ?_
              | refine w_cond_t rfl ?_
              | refine w_cond_f rfl ?_
              | refine w_cnd rfl (fun hc => ?_) (fun hc => ?_)
              | refine w_cd rfl (fun hc => ?_) (fun hc => ?_)
              | refine w_cn rfl (fun hc => ?_) (fun hc => ?_)
              | refine w_cond rfl (fun hc => ?_) (fun hc => ?_)
              | (exfalso; omega)
              | (refine l_o ?_; first | refine l_eqnil rfl (by kernel_rfl) (by intro b; simp only [nz]; rfl) (fun b hb => ?_) | refine l_op rfl (by first | (apply k_add; first | exact ops_addn (b := 1) rfl rfl (by omega) | fail) | fail) (hk := ?_) | refine l_op (hk := ?_) | (refine l_g ?_; first | refine l_y rfl rfl rfl ?_ | refine l_n rfl rfl rfl rfl (hk := ?_) | refine l_n' rfl rfl rfl (hk := ?_) | refine l_spnd rfl rfl rfl (h1 := fun hc => ?_) (h2 := fun hc => ?_) | refine l_spd rfl rfl rfl (h1 := fun hc => ?_) (h2 := fun hc => ?_) | refine l_spn rfl rfl rfl (h1 := fun hc => ?_) (h2 := fun hc => ?_) | refine l_sp rfl rfl rfl (h1 := fun hc => ?_) (h2 := fun hc => ?_)))
              | refine e_nil ?_
              | (refine e_o ?_; first | refine e_fl rfl (by first | exact .pl (by first | (apply q_add; first | exact fs_addn (b := 1) rfl rfl (by omega) | fail) | fail) | exact .ye rfl rfl rfl (by first | (apply q_add; first | exact fs_addn (b := 1) rfl rfl (by omega) | fail) | fail) | fail) (hk := ?_) | refine e_fl (hk := ?_) | refine e_ef (hk := ?_) | (refine e_g ?_; first | refine e_spnd rfl rfl rfl (h1 := fun hc => ?_) (h2 := fun hc => ?_) | refine e_spd rfl rfl rfl (h1 := fun hc => ?_) (h2 := fun hc => ?_) | refine e_spn rfl rfl rfl (h1 := fun hc => ?_) (h2 := fun hc => ?_) | refine e_sp rfl rfl rfl (h1 := fun hc => ?_) (h2 := fun hc => ?_)))
              | (refine w_o ?_; first | refine w_drawS (id := 7) (rdP [(0, 1000000000003), (2, 1000000000003), (4, 1000000000005), (5, 1000000000005), (6, 1000000000003), (8, 1000000000005), (9, 1000000000005), (12, 1000000000005)]) (fun k => [13].contains k) [[]] (by kernel_rfl) rfl (by kernel_rfl) (by simp [nm, nset, -List.map_take, -List.map_drop]) ?_)
            simp only [e3]
            refine rn_mk (k + 1, (ph2, tn2.set s (max (tn2.getD s 0) (tn2.getD nx[s][k] 0 + 1)))) ?_ (by first | omega | (dsimp only; omega)) (le_eq (by (repeat' first | exact .nil | refine .keep ?_ | refine .any ?_); first | done | fail) rfl rfl)
            exact ⟨by dsimp only; omega, hg, hw.trans hst⟩
      · have hd : nx[s].drop k = [] := List.drop_eq_nil_of_le (by omega)
        rw [hd, goD] at hg
        rw [← hg]
        simp only [eq_self, Bool.false_eq_true, reduceIte]
        repeat' first
          | refine w_seq ?_
          | refine w_block ?_
          | refine rb_n ?_
          | refine rb_ret ?_
          | refine rb_eq ?_
          | refine rb_ne (by rfl) ?_
          | refine w_exit ?_
          | refine rt_exit ?_
          | refine w_region ?_
          | refine l_nil ?_
          | refine rt_n ?_
          | refine w_ret ?_
          | refine rt_ret ?_
          | refine w_skip ?_
          | refine w_cond_t rfl ?_
          | refine w_cond_f rfl ?_
          | refine w_cnd rfl (fun hc => ?_) (fun hc => ?_)
          | refine w_cd rfl (fun hc => ?_) (fun hc => ?_)
          | refine w_cn rfl (fun hc => ?_) (fun hc => ?_)
          | refine w_cond rfl (fun hc => ?_) (fun hc => ?_)
          | (exfalso; omega)
          | (refine l_o ?_; first | refine l_eqnil rfl (by kernel_rfl) (by intro b; simp only [nz]; rfl) (fun b hb => ?_) | refine l_op (hk := ?_) | (refine l_g ?_; first | refine l_y rfl rfl rfl ?_ | refine l_n rfl rfl rfl rfl (hk := ?_) | refine l_n' rfl rfl rfl (hk := ?_) | refine l_spnd rfl rfl rfl (h1 := fun hc => ?_) (h2 := fun hc => ?_) | refine l_spd rfl rfl rfl (h1 := fun hc => ?_) (h2 := fun hc => ?_) | refine l_spn rfl rfl rfl (h1 := fun hc => ?_) (h2 := fun hc => ?_) | refine l_sp rfl rfl rfl (h1 := fun hc => ?_) (h2 := fun hc => ?_)))
          | refine d_nil ?_
          | (refine d_o ?_; first | refine d_fl (hk := ?_) | refine d_ef (hk := ?_) | (refine d_g ?_; first | refine d_spnd rfl rfl rfl (h1 := fun hc => ?_) (h2 := fun hc => ?_) | refine d_spd rfl rfl rfl (h1 := fun hc => ?_) (h2 := fun hc => ?_) | refine d_spn rfl rfl rfl (h1 := fun hc => ?_) (h2 := fun hc => ?_) | refine d_sp rfl rfl rfl (h1 := fun hc => ?_) (h2 := fun hc => ?_)))
          | (refine w_o ?_; first | refine w_draw (id := 7) (fun _ => true) (fun k => [11, 13].contains k) [[], []] 64 (by kernel_rfl) rfl (by kernel_rfl) (by simp [nm, nset, -List.map_take, -List.map_drop]) ?_)
        refine en_endm [] (hf := Tryz.results61) (hO := ?_) (hr := ?_)
        · rw [List.map_set]; rfl
        · rfl
end Go.Proofs.YtpcckakchpblcaaGreatDoor
