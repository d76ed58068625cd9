/- ReachedFrom of the program. For all loops and places. -/
import Derived.Test.YtmplelnodamedaaJ19
import Derived.Test.YtmplelnodamedaaJ20
import Derived.Test.YtmplelnodamedaaJ26
import Derived.Test.YtmplelnodamedaaJ30
namespace Go.Proofs.Ytmplelnodamedaa
open Eng
attribute [local irreducible] OpS OpG FC FCr Rel Fl Ef DR Fs
attribute [local simp] RV.fzR_names
set_option linter.unusedSimpArgs false
set_option maxHeartbeats 0
set_option maxRecDepth 100000

noncomputable def rch (L R : List (List Int)) (a : Int) : List Int := if okAt L R a then rchL L R a else []
theorem implReached_ok (L R : List (List Int)) (a : Int) : FCr Try.prog 10 [RLp L R, RVi a] (.tup [OIs (rch L R a), RVb (okAt L R a)]) := by
  have hP := isPlace_ok L R a
  unfold rch
  cases hg : goodLp L R with
  | false =>
    have ho : okAt L R a = false := by simp [okAt, hg]
    rw [ho]
    refine (fcr_in Try.func10 rfl (by simp only [Try.ntmps10, anys, List.length_cons, List.length_nil, Nat.reduceAdd, Nat.reduceSub, List.replicate_succ, List.replicate_zero, List.cons_append, List.nil_append] <;> rfl) ?_)
    repeat' first
      | refine w_seq ?_
      | refine w_block ?_
      | refine rb_n ?_
      | refine rb_ret ?_
      | refine rb_eq ?_
      | refine rb_ne (by rfl) ?_
      | refine w_exit ?_
      | refine rt_exit ?_
      | refine w_region ?_
      | refine l_nil ?_
      | refine rt_n ?_
      | refine w_ret ?_
      | refine rt_ret ?_
      | refine w_skip ?_
      | refine w_cond_t rfl ?_
      | refine w_cond_f rfl ?_
      | refine w_cnd rfl (fun hc => ?_) (fun hc => ?_)
      | refine w_cd rfl (fun hc => ?_) (fun hc => ?_)
      | refine w_cn rfl (fun hc => ?_) (fun hc => ?_)
      | refine w_cond rfl (fun hc => ?_) (fun hc => ?_)
      | (refine l_o ?_; first | refine l_op rfl (by first | (apply k_callf; first | exact ops_callf (hfc := hg ▸ implGood_ok L R) | fail) | fail) (hk := ?_) | refine l_op (hk := ?_) | (refine l_g ?_; first | refine l_y rfl rfl rfl ?_ | refine l_n rfl rfl rfl rfl (hk := ?_) | refine l_n' rfl rfl rfl (hk := ?_) | refine l_spnd rfl rfl rfl (h1 := fun hc => ?_) (h2 := fun hc => ?_) | refine l_spd rfl rfl rfl (h1 := fun hc => ?_) (h2 := fun hc => ?_) | refine l_spn rfl rfl rfl (h1 := fun hc => ?_) (h2 := fun hc => ?_) | refine l_sp rfl rfl rfl (h1 := fun hc => ?_) (h2 := fun hc => ?_)))
      | refine d_nil ?_
      | (refine d_o ?_; first | refine d_fl (hk := ?_) | refine d_ef rfl (by first | exact .callf (hfc := hg ▸ implGood_ok L R) | exact .callfY (hfc := hg ▸ implGood_ok L R) | fail) (hk := ?_) | refine d_ef (hk := ?_) | (refine d_g ?_; first | refine d_spnd rfl rfl rfl (h1 := fun hc => ?_) (h2 := fun hc => ?_) | refine d_spd rfl rfl rfl (h1 := fun hc => ?_) (h2 := fun hc => ?_) | refine d_spn rfl rfl rfl (h1 := fun hc => ?_) (h2 := fun hc => ?_) | refine d_sp rfl rfl rfl (h1 := fun hc => ?_) (h2 := fun hc => ?_)))
      | (refine w_o ?_; first | refine w_draw (id := 7) (fun _ => true) (fun k => [16, 17].contains k) [[], []] 64 (by kernel_rfl) rfl (by kernel_rfl) (by simp [nm, nset, -List.map_take, -List.map_drop]) ?_)
    refine en_endn ([.ow 1 [], RVb false]) (hf := Try.results10) (hr := ?_); simp only [ne]; first | rfl | skip
  | true =>
    have hok : okAt L R a = (decide (0 ≤ a) && decide (a < L.length)) := by simp [okAt, hg]
    rw [← hok] at hP
    cases ho : okAt L R a with
    | false =>
      rw [ho] at hP
      refine (fcr_in Try.func10 rfl (by simp only [Try.ntmps10, anys, List.length_cons, List.length_nil, Nat.reduceAdd, Nat.reduceSub, List.replicate_succ, List.replicate_zero, List.cons_append, List.nil_append] <;> rfl) ?_)
      repeat' first
        | refine w_seq ?_
        | refine w_block ?_
        | refine rb_n ?_
        | refine rb_ret ?_
        | refine rb_eq ?_
        | refine rb_ne (by rfl) ?_
        | refine w_exit ?_
        | refine rt_exit ?_
        | refine w_region ?_
        | refine l_nil ?_
        | refine rt_n ?_
        | refine w_ret ?_
        | refine rt_ret ?_
        | refine w_skip ?_
        | refine w_cond_t rfl ?_
        | refine w_cond_f rfl ?_
        | refine w_cnd rfl (fun hc => ?_) (fun hc => ?_)
        | refine w_cd rfl (fun hc => ?_) (fun hc => ?_)
        | refine w_cn rfl (fun hc => ?_) (fun hc => ?_)
        | refine w_cond rfl (fun hc => ?_) (fun hc => ?_)
        | (refine l_o ?_; first | refine l_op rfl (by first | (apply k_callf; first | exact ops_callf (hfc := hg ▸ implGood_ok L R) | exact ops_callf (hfc := hP) | fail) | fail) (hk := ?_) | refine l_op (hk := ?_) | (refine l_g ?_; first | refine l_y rfl rfl rfl ?_ | refine l_n rfl rfl rfl rfl (hk := ?_) | refine l_n' rfl rfl rfl (hk := ?_) | refine l_spnd rfl rfl rfl (h1 := fun hc => ?_) (h2 := fun hc => ?_) | refine l_spd rfl rfl rfl (h1 := fun hc => ?_) (h2 := fun hc => ?_) | refine l_spn rfl rfl rfl (h1 := fun hc => ?_) (h2 := fun hc => ?_) | refine l_sp rfl rfl rfl (h1 := fun hc => ?_) (h2 := fun hc => ?_)))
        | refine d_nil ?_
        | (refine d_o ?_; first | refine d_fl (hk := ?_) | refine d_ef rfl (by first | exact .callf (hfc := hg ▸ implGood_ok L R) | exact .callf (hfc := hP) | exact .callfY (hfc := hg ▸ implGood_ok L R) | exact .callfY (hfc := hP) | fail) (hk := ?_) | refine d_ef (hk := ?_) | (refine d_g ?_; first | refine d_spnd rfl rfl rfl (h1 := fun hc => ?_) (h2 := fun hc => ?_) | refine d_spd rfl rfl rfl (h1 := fun hc => ?_) (h2 := fun hc => ?_) | refine d_spn rfl rfl rfl (h1 := fun hc => ?_) (h2 := fun hc => ?_) | refine d_sp rfl rfl rfl (h1 := fun hc => ?_) (h2 := fun hc => ?_)))
        | (refine w_o ?_; first | refine w_draw (id := 7) (fun _ => true) (fun k => [16, 17].contains k) [[], []] 64 (by kernel_rfl) rfl (by kernel_rfl) (by simp [nm, nset, -List.map_take, -List.map_drop]) ?_)
      refine en_endn ([.ow 1 [], RVb false]) (hf := Try.results10) (hr := ?_); simp only [ne]; first | rfl | skip
    | true =>
      rw [ho] at hP
      have g := goodI hg
      have hb := okAt_good ho
      have hgl := g.len
      have hgr := g.lenR
      have har : 0 ≤ a ∧ a < L.length := ⟨hb.2.1, hb.2.2⟩
      have hr := rchL_is g har
      simp only [if_true]
      generalize rchL L R a = W at *
      refine (fcr_in Try.func10 rfl (by simp only [Try.ntmps10, anys, List.length_cons, List.length_nil, Nat.reduceAdd, Nat.reduceSub, List.replicate_succ, List.replicate_zero, List.cons_append, List.nil_append] <;> rfl) ?_)
      repeat' first
        | refine w_seq ?_
        | refine w_block ?_
        | refine rb_n ?_
        | refine rb_ret ?_
        | refine rb_eq ?_
        | refine rb_ne (by rfl) ?_
        | refine w_exit ?_
        | refine rt_exit ?_
        | refine w_region ?_
        | refine l_nil ?_
        | refine rt_n ?_
        | refine w_ret ?_
        | refine rt_ret ?_
        | refine w_skip ?_
        | refine w_cond_t rfl ?_
        | refine w_cond_f rfl ?_
        | refine w_cnd rfl (fun hc => ?_) (fun hc => ?_)
        | refine w_cd rfl (fun hc => ?_) (fun hc => ?_)
        | refine w_cn rfl (fun hc => ?_) (fun hc => ?_)
        | refine w_cond rfl (fun hc => ?_) (fun hc => ?_)
        | (refine l_o ?_; first | refine l_op rfl (by first | (apply k_callf; first | exact ops_callf (hfc := hg ▸ implGood_ok L R) | exact ops_callf (hfc := hP) | fail) | fail) (hk := ?_) | refine l_op (hk := ?_) | (refine l_g ?_; first | refine l_y rfl rfl rfl ?_ | refine l_n rfl rfl rfl rfl (hk := ?_) | refine l_n' rfl rfl rfl (hk := ?_) | refine l_spnd rfl rfl rfl (h1 := fun hc => ?_) (h2 := fun hc => ?_) | refine l_spd rfl rfl rfl (h1 := fun hc => ?_) (h2 := fun hc => ?_) | refine l_spn rfl rfl rfl (h1 := fun hc => ?_) (h2 := fun hc => ?_) | refine l_sp rfl rfl rfl (h1 := fun hc => ?_) (h2 := fun hc => ?_)))
        | refine d_nil ?_
        | (refine d_o ?_; first | refine d_fl (hk := ?_) | refine d_ef rfl (by first | exact .callf (hfc := hg ▸ implGood_ok L R) | exact .callf (hfc := hP) | exact .callfY (hfc := hg ▸ implGood_ok L R) | exact .callfY (hfc := hP) | fail) (hk := ?_) | refine d_ef (hk := ?_) | (refine d_g ?_; first | refine d_spnd rfl rfl rfl (h1 := fun hc => ?_) (h2 := fun hc => ?_) | refine d_spd rfl rfl rfl (h1 := fun hc => ?_) (h2 := fun hc => ?_) | refine d_spn rfl rfl rfl (h1 := fun hc => ?_) (h2 := fun hc => ?_) | refine d_sp rfl rfl rfl (h1 := fun hc => ?_) (h2 := fun hc => ?_)))
        | (refine w_o ?_; first | refine w_draw (id := 7) (fun _ => true) (fun k => [16, 17].contains k) [[], []] 64 (by kernel_rfl) rfl (by kernel_rfl) (by simp [nm, nset, -List.map_take, -List.map_drop]) ?_)
      refine w_loopm (ι := Nat × List Int) (fun q => [(7, RVn q.1), (6, .ref 20 0 q.2.length), (20, .any)]) (fun q => [(20, 1, q.2.map RVi), (2, 2, [.agg [RIss L, RIss R]])]) (fun q => q.1 ≤ q.2.length ∧ a ∈ q.2 ∧ q.2.Nodup ∧ (∀ x ∈ q.2, Reach L R a x) ∧ ∀ j (h : j < q.2.length), j < q.1 → ∀ y ∈ sucI L R q.2[j], y ∈ q.2) (fun q => L.length - q.1) (0, [a]) (h0 := ?_) (hs := ?_) (round := ?_)
      · exact ⟨by omega, by simp, by simp, by simpa using .base, fun j _ h => by omega⟩
      · refine le_eq (by (repeat' first | exact .nil | refine .keep ?_ | refine .any ?_); first | done | fail) rfl rfl
      · intro ⟨k, l⟩ ⟨hk, hal, hnd, hre, hcl⟩
        dsimp only at hk hal hnd hre hcl ⊢
        have hin : ∀ x ∈ l, 0 ≤ x ∧ x < L.length := fun x hx => reach_in g har (hre x hx)
        have hll := nodup_len hnd hin
        by_cases hkl : k < l.length
        · have hx := hin _ (List.getElem_mem hkl)
          have hx1 : l[k].toNat < L.length := by omega
          have hx2 : l[k].toNat < R.length := by omega
          have hsu : sucI L R l[k] = [L[l[k].toNat], R[l[k].toNat]].flatten := by unfold sucI; rw [gd hx1, gd hx2]; simp
          have hsl : (sucI L R l[k]).length ≤ 48 := by
            unfold sucI
            rw [gd hx1, gd hx2, List.length_append]
            have := g.lL _ (List.getElem_mem hx1)
            have := g.lR _ (List.getElem_mem hx2)
            omega
          have hC := concat_ok [L[l[k].toNat], R[l[k].toNat]] (by simp) (by rw [← hsu]; omega)
          rw [← hsu] at hC
          have hSR : ∀ y ∈ sucI L R l[k], Reach L R a y := fun y hy => .step (hre _ (List.getElem_mem hkl)) hy
          have hsk : ∀ y ∈ sucI L R l[k], y ∈ sucI L R l[k] := fun y h => h
          generalize hS : sucI L R l[k] = S at hC hSR hsl hsk
          clear hsu
          repeat' first
            | refine w_seq ?_
            | refine w_block ?_
            | refine rb_n ?_
            | refine rb_ret ?_
            | refine rb_eq ?_
            | refine rb_ne (by rfl) ?_
            | refine w_exit ?_
            | refine rt_exit ?_
            | refine w_region ?_
            | refine l_nil ?_
            | refine rt_n ?_
            | refine w_ret ?_
            | refine rt_ret ?_
            | refine w_skip ?_
            | refine w_cond_t rfl ?_
            | refine w_cond_f rfl ?_
            | refine w_cnd rfl (fun hc => ?_) (fun hc => ?_)
            | refine w_cd rfl (fun hc => ?_) (fun hc => ?_)
            | refine w_cn rfl (fun hc => ?_) (fun hc => ?_)
            | refine w_cond rfl (fun hc => ?_) (fun hc => ?_)
            | (exfalso; omega)
            | (refine l_o ?_; first | refine l_op rfl (by first | (apply k_callf; first | exact ops_callf (d := 44) (hfc := hC) | fail) | fail) (hk := ?_) | refine l_op (hk := ?_) | (refine l_g ?_; first | refine l_y rfl rfl rfl ?_ | refine l_n rfl rfl rfl rfl (hk := ?_) | refine l_n' rfl rfl rfl (hk := ?_) | refine l_spnd rfl rfl rfl (h1 := fun hc => ?_) (h2 := fun hc => ?_) | refine l_spd rfl rfl rfl (h1 := fun hc => ?_) (h2 := fun hc => ?_) | refine l_spn rfl rfl rfl (h1 := fun hc => ?_) (h2 := fun hc => ?_) | refine l_sp rfl rfl rfl (h1 := fun hc => ?_) (h2 := fun hc => ?_)))
            | refine e_nil ?_
            | (refine e_o ?_; first | refine e_fl rfl (by first | exact .pl (by first | (apply q_callf; first | exact fs_callf (d := 44) (hfc := hC) | fail) | fail) | exact .ye rfl rfl rfl (by first | (apply q_callf; first | exact fs_callf (d := 44) (hfc := hC) | fail) | fail) | fail) (hk := ?_) | refine e_fl (hk := ?_) | refine e_ef (hk := ?_) | (refine e_g ?_; first | refine e_spnd rfl rfl rfl (h1 := fun hc => ?_) (h2 := fun hc => ?_) | refine e_spd rfl rfl rfl (h1 := fun hc => ?_) (h2 := fun hc => ?_) | refine e_spn rfl rfl rfl (h1 := fun hc => ?_) (h2 := fun hc => ?_) | refine e_sp rfl rfl rfl (h1 := fun hc => ?_) (h2 := fun hc => ?_)))
            | (refine w_o ?_; first | refine w_drawS (id := 7) (rdP [(0,2),(1,2),(8,2),(9,2),(4,20),(5,20),(12,20),(13,20)]) (fun k => [].contains k) [] (by kernel_rfl) rfl (by kernel_rfl) (by simp [nm, nset, -List.map_take, -List.map_drop]) ?_)
          refine w_loopm (ι := Nat × List Int) (fun q => [(46, RVn q.1), (6, .ref 20 0 q.2.length), (9, .any), (20, .any), (22, .any), (29, .any), (31, .any), (37, .any), (39, .any)]) (fun q => [(20, 1, q.2.map RVi), (2, 2, [.agg [RIss L, RIss R]])]) (fun q => q.1 ≤ S.length ∧ (∃ z, q.2 = l ++ z) ∧ q.2.Nodup ∧ (∀ x ∈ q.2, Reach L R a x) ∧ ∀ j (h : j < S.length), j < q.1 → S[j] ∈ q.2) (fun q => S.length - q.1) (0, l) (h0 := ?_) (hs := ?_) (round := ?_)
          · exact ⟨by omega, ⟨[], by simp⟩, hnd, hre, fun j _ h => by omega⟩
          · refine le_eq (by (repeat' first | exact .nil | refine .keep ?_ | refine .any ?_); first | done | fail) rfl rfl
          · intro ⟨j, m⟩ ⟨hj, hz, hmd, hmr, hmc⟩
            dsimp only at hj hz hmd hmr hmc ⊢
            have hml := nodup_len hmd fun x hx => reach_in g har (hmr x hx)
            by_cases hjl : j < S.length
            · have hK := contains_ok m S[j] (by omega)
              by_cases hc2 : S[j] ∈ m
              · rw [decide_eq_true hc2] at hK
                repeat' first
                  | refine w_seq ?_
                  | refine w_block ?_
                  | refine rb_n ?_
                  | refine rb_ret ?_
                  | refine rb_eq ?_
                  | refine rb_ne (by rfl) ?_
                  | refine w_exit ?_
                  | refine rt_exit ?_
                  | refine w_region ?_
                  | refine l_nil ?_
                  | refine rt_n ?_
                  | refine w_ret ?_
                  | refine rt_ret ?_
                  | refine w_skip ?_
                  | refine w_cond_t rfl ?_
                  | refine w_cond_f rfl ?_
                  | refine w_cnd rfl (fun hc => ?_) (fun hc => ?_)
                  | refine w_cd rfl (fun hc => ?_) (fun hc => ?_)
                  | refine w_cn rfl (fun hc => ?_) (fun hc => ?_)
                  | refine w_cond rfl (fun hc => ?_) (fun hc => ?_)
                  | (exfalso; omega)
                  | (refine l_o ?_; first | refine l_op rfl (by first | (apply k_callf; first | exact ops_callz (hfc := hK) | fail) | fail) (hk := ?_) | refine l_op (hk := ?_) | (refine l_g ?_; first | refine l_y rfl rfl rfl ?_ | refine l_n rfl rfl rfl rfl (hk := ?_) | refine l_n' rfl rfl rfl (hk := ?_) | refine l_spnd rfl rfl rfl (h1 := fun hc => ?_) (h2 := fun hc => ?_) | refine l_spd rfl rfl rfl (h1 := fun hc => ?_) (h2 := fun hc => ?_) | refine l_spn rfl rfl rfl (h1 := fun hc => ?_) (h2 := fun hc => ?_) | refine l_sp rfl rfl rfl (h1 := fun hc => ?_) (h2 := fun hc => ?_)))
                  | refine d_nil ?_
                  | (refine d_o ?_; first | refine d_fl (hk := ?_) | refine d_ef rfl (by first | exact .callz (hfc := hK) | exact .callzY (hfc := hK) | fail) (hk := ?_) | refine d_ef (hk := ?_) | (refine d_g ?_; first | refine d_spnd rfl rfl rfl (h1 := fun hc => ?_) (h2 := fun hc => ?_) | refine d_spd rfl rfl rfl (h1 := fun hc => ?_) (h2 := fun hc => ?_) | refine d_spn rfl rfl rfl (h1 := fun hc => ?_) (h2 := fun hc => ?_) | refine d_sp rfl rfl rfl (h1 := fun hc => ?_) (h2 := fun hc => ?_)))
                  | (refine w_o ?_; first | refine w_draw (id := 7) (fun _ => true) (fun k => [16, 17].contains k) [[], []] 64 (by kernel_rfl) rfl (by kernel_rfl) (by simp [nm, nset, -List.map_take, -List.map_drop]) ?_)
                refine rn_mk (j + 1, m) ?_ (by first | omega | (dsimp only; omega)) (le_eq (by (repeat' first | exact .nil | refine .keep ?_ | refine .any ?_); first | done | fail) rfl rfl)
                refine ⟨by dsimp only; omega, hz, hmd, hmr, fun i hi hij => ?_⟩
                by_cases hij2 : i < j
                · exact hmc i hi hij2
                · obtain rfl : i = j := by omega
                  exact hc2
              · rw [decide_eq_false hc2] at hK
                repeat' first
                  | refine w_seq ?_
                  | refine w_block ?_
                  | refine rb_n ?_
                  | refine rb_ret ?_
                  | refine rb_eq ?_
                  | refine rb_ne (by rfl) ?_
                  | refine w_exit ?_
                  | refine rt_exit ?_
                  | refine w_region ?_
                  | refine l_nil ?_
                  | refine rt_n ?_
                  | refine w_ret ?_
                  | refine rt_ret ?_
                  | refine w_skip ?_
                  | refine w_cond_t rfl ?_
                  | refine w_cond_f rfl ?_
                  | refine w_cnd rfl (fun hc => ?_) (fun hc => ?_)
                  | refine w_cd rfl (fun hc => ?_) (fun hc => ?_)
                  | refine w_cn rfl (fun hc => ?_) (fun hc => ?_)
                  | refine w_cond rfl (fun hc => ?_) (fun hc => ?_)
                  | (exfalso; omega)
                  | (refine l_o ?_; first | refine l_op rfl (by first | (apply k_callf; first | exact ops_callz (hfc := hK) | fail) | fail) (hk := ?_) | refine l_op (hk := ?_) | (refine l_g ?_; first | refine l_y rfl rfl rfl ?_ | refine l_n rfl rfl rfl rfl (hk := ?_) | refine l_n' rfl rfl rfl (hk := ?_) | refine l_spnd rfl rfl rfl (h1 := fun hc => ?_) (h2 := fun hc => ?_) | refine l_spd rfl rfl rfl (h1 := fun hc => ?_) (h2 := fun hc => ?_) | refine l_spn rfl rfl rfl (h1 := fun hc => ?_) (h2 := fun hc => ?_) | refine l_sp rfl rfl rfl (h1 := fun hc => ?_) (h2 := fun hc => ?_)))
                  | refine d_nil ?_
                  | (refine d_o ?_; first | refine d_fl (hk := ?_) | refine d_ef rfl (by first | exact .callz (hfc := hK) | exact .callzY (hfc := hK) | fail) (hk := ?_) | refine d_ef (hk := ?_) | (refine d_g ?_; first | refine d_spnd rfl rfl rfl (h1 := fun hc => ?_) (h2 := fun hc => ?_) | refine d_spd rfl rfl rfl (h1 := fun hc => ?_) (h2 := fun hc => ?_) | refine d_spn rfl rfl rfl (h1 := fun hc => ?_) (h2 := fun hc => ?_) | refine d_sp rfl rfl rfl (h1 := fun hc => ?_) (h2 := fun hc => ?_)))
                  | (refine w_o ?_; first | refine w_draw (id := 7) (fun _ => true) (fun k => [16, 17].contains k) [[], []] 64 (by kernel_rfl) rfl (by kernel_rfl) (by simp [nm, nset, -List.map_take, -List.map_drop]) ?_)
                refine rn_mk (j + 1, m ++ [S[j]]) ?_ (by first | omega | (dsimp only; omega)) (le_eq (by (repeat' first | exact .nil | refine .keep ?_ | refine .any ?_); first | done | fail) rfl rfl)
                obtain ⟨z, hz⟩ := hz
                refine ⟨by dsimp only; omega, ⟨z ++ [S[j]], by dsimp only; rw [hz]; simp⟩, ?_, ?_, fun i hi hij => ?_⟩
                · dsimp only
                  rw [List.nodup_append]
                  refine ⟨hmd, by simp, fun x hx y hy e => ?_⟩
                  rw [List.mem_singleton] at hy
                  subst hy; subst e
                  exact hc2 hx
                · intro x hx
                  rcases List.mem_append.1 hx with hx | hx
                  · exact hmr x hx
                  · rw [List.mem_singleton] at hx
                    rw [hx]; exact hSR _ (List.getElem_mem hjl)
                · dsimp only
                  by_cases hij2 : i < j
                  · exact List.mem_append_left _ (hmc i hi hij2)
                  · obtain rfl : i = j := by omega
                    simp
            · obtain rfl : j = S.length := by omega
              obtain ⟨z, rfl⟩ := hz
              repeat' first
                | refine w_seq ?_
                | refine w_block ?_
                | refine rb_n ?_
                | refine rb_ret ?_
                | refine rb_eq ?_
                | refine rb_ne (by rfl) ?_
                | refine w_exit ?_
                | refine rt_exit ?_
                | refine w_region ?_
                | refine l_nil ?_
                | refine rt_n ?_
                | refine w_ret ?_
                | refine rt_ret ?_
                | refine w_skip ?_
                | refine w_cond_t rfl ?_
                | refine w_cond_f rfl ?_
                | refine w_cnd rfl (fun hc => ?_) (fun hc => ?_)
                | refine w_cd rfl (fun hc => ?_) (fun hc => ?_)
                | refine w_cn rfl (fun hc => ?_) (fun hc => ?_)
                | refine w_cond rfl (fun hc => ?_) (fun hc => ?_)
                | (exfalso; omega)
                | (refine l_o ?_; first | refine l_op (hk := ?_) | (refine l_g ?_; first | refine l_y rfl rfl rfl ?_ | refine l_n rfl rfl rfl rfl (hk := ?_) | refine l_n' rfl rfl rfl (hk := ?_) | refine l_spnd rfl rfl rfl (h1 := fun hc => ?_) (h2 := fun hc => ?_) | refine l_spd rfl rfl rfl (h1 := fun hc => ?_) (h2 := fun hc => ?_) | refine l_spn rfl rfl rfl (h1 := fun hc => ?_) (h2 := fun hc => ?_) | refine l_sp rfl rfl rfl (h1 := fun hc => ?_) (h2 := fun hc => ?_)))
                | refine d_nil ?_
                | (refine d_o ?_; first | refine d_fl (hk := ?_) | refine d_ef (hk := ?_) | (refine d_g ?_; first | refine d_spnd rfl rfl rfl (h1 := fun hc => ?_) (h2 := fun hc => ?_) | refine d_spd rfl rfl rfl (h1 := fun hc => ?_) (h2 := fun hc => ?_) | refine d_spn rfl rfl rfl (h1 := fun hc => ?_) (h2 := fun hc => ?_) | refine d_sp rfl rfl rfl (h1 := fun hc => ?_) (h2 := fun hc => ?_)))
                | (refine w_o ?_; first | refine w_draw (id := 7) (fun _ => true) (fun k => [16, 17].contains k) [[], []] 64 (by kernel_rfl) rfl (by kernel_rfl) (by simp [nm, nset, -List.map_take, -List.map_drop]) ?_)
              refine rn_mk (k + 1, l ++ z) ?_ (by first | omega | (dsimp only; omega)) (le_eq (by (repeat' first | exact .nil | refine .keep ?_ | refine .any ?_); first | done | fail) rfl rfl)
              refine ⟨by simp; omega, List.mem_append_left _ hal, hmd, hmr, fun i hi hik y hy => ?_⟩
              dsimp only at hi hik hy ⊢
              have hil : i < l.length := by omega
              rw [List.getElem_append_left hil] at hy
              by_cases hik2 : i < k
              · exact List.mem_append_left _ (hcl i hil hik2 y hy)
              · obtain rfl : i = k := by omega
                rw [hS] at hy
                obtain ⟨p, hp, rfl⟩ := List.getElem_of_mem hy
                exact hmc p hp hp
        · obtain rfl : k = l.length := by omega
          have hSo := sortI_ok l (by omega)
          have hsl := srtI_len l
          have hW : srtI l = W := isRch_eq ⟨nodup_si hnd, fun x => by
            rw [srtI_mem]
            refine ⟨hre x, reach_all hal (fun x hx y hy => ?_) x⟩
            obtain ⟨j, hj, rfl⟩ := List.getElem_of_mem hx
            exact hcl j hj hj y hy⟩ hr
          rw [hW] at hSo hsl
          repeat' first
            | refine w_seq ?_
            | refine w_block ?_
            | refine rb_n ?_
            | refine rb_ret ?_
            | refine rb_eq ?_
            | refine rb_ne (by rfl) ?_
            | refine w_exit ?_
            | refine rt_exit ?_
            | refine w_region ?_
            | refine l_nil ?_
            | refine rt_n ?_
            | refine w_ret ?_
            | refine rt_ret ?_
            | refine w_skip ?_
            | refine w_cond_t rfl ?_
            | refine w_cond_f rfl ?_
            | refine w_cnd rfl (fun hc => ?_) (fun hc => ?_)
            | refine w_cd rfl (fun hc => ?_) (fun hc => ?_)
            | refine w_cn rfl (fun hc => ?_) (fun hc => ?_)
            | refine w_cond rfl (fun hc => ?_) (fun hc => ?_)
            | (exfalso; omega)
            | (refine l_o ?_; first | refine l_op rfl (by first | (apply k_callf; first | exact ops_callm1 (d := 60) 20 (W.map RVi) rfl rfl rfl (by kernel_rfl) hSo (by simp [nm]) (by simp [nm]) (by simp [ns]) (by simp [RV.resOkT, RV.resOk, RV.isAgg, nm]) (by simp [ns]) (by simp [nz, nm]) (by simp [nz, nm]) | fail) | fail) (hk := ?_) | refine l_op (hk := ?_) | (refine l_g ?_; first | refine l_y rfl rfl rfl ?_ | refine l_n rfl rfl rfl rfl (hk := ?_) | refine l_n' rfl rfl rfl (hk := ?_) | refine l_spnd rfl rfl rfl (h1 := fun hc => ?_) (h2 := fun hc => ?_) | refine l_spd rfl rfl rfl (h1 := fun hc => ?_) (h2 := fun hc => ?_) | refine l_spn rfl rfl rfl (h1 := fun hc => ?_) (h2 := fun hc => ?_) | refine l_sp rfl rfl rfl (h1 := fun hc => ?_) (h2 := fun hc => ?_)))
            | refine d_nil ?_
            | (refine d_o ?_; first | refine d_fl (hk := ?_) | refine d_ef (hk := ?_) | (refine d_g ?_; first | refine d_spnd rfl rfl rfl (h1 := fun hc => ?_) (h2 := fun hc => ?_) | refine d_spd rfl rfl rfl (h1 := fun hc => ?_) (h2 := fun hc => ?_) | refine d_spn rfl rfl rfl (h1 := fun hc => ?_) (h2 := fun hc => ?_) | refine d_sp rfl rfl rfl (h1 := fun hc => ?_) (h2 := fun hc => ?_)))
            | (refine w_o ?_; first | refine w_draw (id := 7) (fun _ => true) (fun k => [16, 17].contains k) [[], []] 64 (by kernel_rfl) rfl (by kernel_rfl) (by simp [nm, nset, -List.map_take, -List.map_drop]) ?_)
          rw [← hsl]
          refine en_end (hf := Try.results10) (hr := ?_); simp only [ne, nf, nl, nr, lget, reduceIte, Nat.reduceEqDiff]; first | rfl | refine congrArg RVb ?_ | refine congrArg RVi ?_ | skip
end Go.Proofs.Ytmplelnodamedaa
