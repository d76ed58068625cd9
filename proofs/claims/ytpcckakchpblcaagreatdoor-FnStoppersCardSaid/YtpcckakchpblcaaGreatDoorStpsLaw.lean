/- The law FnStoppers answers true. For all bytes. -/
import Derived.Test.YtpcckakchpblcaaGreatDoorAlike
import Derived.Test.YtpcckakchpblcaaGreatDoorJ14
import Derived.Test.YtpcckakchpblcaaGreatDoorJ36
import Derived.Test.YtpcckakchpblcaaGreatDoorJ46
namespace Go.Proofs.YtpcckakchpblcaaGreatDoor
open Eng
attribute [local irreducible] OpS OpG FC FCr Rel Fl Ef DR Fs
attribute [local simp] RV.fzR_names
set_option linter.unusedSimpArgs false
set_option linter.unusedVariables false
set_option maxHeartbeats 0
set_option maxRecDepth 100000

theorem atl_of {gL gR hL hR : List (List Int)} {u v : Nat} (h1 : stops gL gR = true) (h2 : stops hL hR = true) (hu : u < gL.length) (hv : v < hL.length) (hn : NLo gL gR hL hR u v 1) : atl gL gR hL hR u v = true ∧ okS gL gR hL hR u v = true := by
  have ho : okS gL gR hL hR u v = true := by
    unfold okS plc
    simp only [Bool.and_eq_true, decide_eq_true_eq]
    exact ⟨⟨⟨h1, h2⟩, by omega, by omega⟩, by omega, by omega⟩
  refine ⟨?_, ho⟩
  unfold atl
  rw [ho, Bool.true_and]
  exact hld_holds _ (nlo_lt hu hv (by omega)) hn
theorem on_stops : stops [[0]] [[]] = true := by decide +kernel
theorem off_stops : stops [[]] [[0]] = true := by decide +kernel
theorem atl_refl {L R : List (List Int)} {u : Nat} (h : stops L R = true) (hu : u < L.length) : atl L R L R u u = true ∧ okS L R L R u u = true :=
  atl_of h h hu hu (nlo_refl (goodI (stops_good h)) hu)
theorem atl_on {L R : List (List Int)} {u : Nat} (h : stops L R = true) (hu : u < L.length) : atl [[0]] [[]] L R (0 : Nat) u = true ∧ okS [[0]] [[]] L R (0 : Nat) u = true :=
  atl_of on_stops h (by decide) hu (nlo_on (goodI (stops_good on_stops)) (goodI (stops_good h)) hu)
theorem atl_off {L R : List (List Int)} {u : Nat} (h : stops L R = true) (hu : u < L.length) : atl L R [[]] [[0]] u (0 : Nat) = true ∧ okS L R [[]] [[0]] u (0 : Nat) = true :=
  atl_of h off_stops hu (by decide) (nlo_off (goodI (stops_good h)) (goodI (stops_good off_stops)) hu)
theorem drawIs_ok (code : List UInt8) : ∃ (L R : List (List Int)), L.length ≤ 100 ∧ FCr Tryz.prog 14 [RYs code] (OLp L R) := by
  have h1 := drawStp_ok (cur0 code) 6 (by simp) (by omega) (by omega)
  have l1 := drawStp_len (cur0 code) 6 (by omega) (by omega)
  generalize drawStp (cur0 code) 6 = q at *
  obtain ⟨c1, L, R⟩ := q
  dsimp only at *
  refine ⟨L, R, l1, ?_⟩
  refine (fcr_in Tryz.func14 rfl (by simp only [Tryz.ntmps14, anys, List.length_cons, List.length_nil, Nat.reduceAdd, Nat.reduceSub, List.replicate_succ, List.replicate_zero, List.cons_append, List.nil_append] <;> rfl) ?_)
  repeat' first
    | refine w_seq ?_
    | refine w_region ?_
    | refine l_nil ?_
    | refine rt_n ?_
    | refine w_ret ?_
    | refine rt_ret ?_
    | refine w_skip ?_
    | (refine l_o ?_; first | refine l_op rfl (by first | (apply k_callf; first | exact ops_callP (d := 6) 5 [RCur c1] (hfc := h1) | fail) | fail) (hk := ?_) | refine l_op (hk := ?_))
  refine en_end (hf := Tryz.results14) (hr := ?_); simp only [ne, nf, nl, nr, lget, reduceIte, Nat.reduceEqDiff]; first | rfl | refine congrArg RVb ?_ | refine congrArg RVi ?_ | skip
theorem lawStoppers_ok (code : List UInt8) : FCr Tryz.prog 4 [RYs code] (RVb true) := by
  have hB := rBig_ok code
  by_cases hb : (65536 : Int) < (code.length : Nat)
  · rw [decide_eq_true hb] at hB
    refine (fcr_in Tryz.func4 rfl (by simp only [Tryz.ntmps4, anys, List.length_cons, List.length_nil, Nat.reduceAdd, Nat.reduceSub, List.replicate_succ, List.replicate_zero, List.cons_append, List.nil_append] <;> rfl) ?_)
    repeat' first
      | refine w_seq ?_
      | refine w_region ?_
      | refine l_nil ?_
      | refine rt_n ?_
      | refine w_ret ?_
      | refine rt_ret ?_
      | refine w_skip ?_
      | refine w_cond_t rfl ?_
      | refine w_cond_f rfl ?_
      | refine w_cnd rfl (fun hc => ?_) (fun hc => ?_)
      | refine w_cd rfl (fun hc => ?_) (fun hc => ?_)
      | refine w_cn rfl (fun hc => ?_) (fun hc => ?_)
      | refine w_cond rfl (fun hc => ?_) (fun hc => ?_)
      | (refine l_o ?_; first | refine l_op rfl (by first | (apply k_callf; first | exact ops_callf (hfc := hB) | fail) | fail) (hk := ?_) | refine l_op (hk := ?_) | (refine l_g ?_; first | refine l_y rfl rfl rfl ?_ | refine l_n rfl rfl rfl rfl (hk := ?_) | refine l_n' rfl rfl rfl (hk := ?_) | refine l_spnd rfl rfl rfl (h1 := fun hc => ?_) (h2 := fun hc => ?_) | refine l_spd rfl rfl rfl (h1 := fun hc => ?_) (h2 := fun hc => ?_) | refine l_spn rfl rfl rfl (h1 := fun hc => ?_) (h2 := fun hc => ?_) | refine l_sp rfl rfl rfl (h1 := fun hc => ?_) (h2 := fun hc => ?_)))
      | refine d_nil ?_
      | (refine d_o ?_; first | refine d_fl (hk := ?_) | refine d_ef rfl (by first | exact .callf (hfc := hB) | exact .callfY (hfc := hB) | fail) (hk := ?_) | refine d_ef (hk := ?_) | (refine d_g ?_; first | refine d_spnd rfl rfl rfl (h1 := fun hc => ?_) (h2 := fun hc => ?_) | refine d_spd rfl rfl rfl (h1 := fun hc => ?_) (h2 := fun hc => ?_) | refine d_spn rfl rfl rfl (h1 := fun hc => ?_) (h2 := fun hc => ?_) | refine d_sp rfl rfl rfl (h1 := fun hc => ?_) (h2 := fun hc => ?_)))
      | (refine w_o ?_; first | refine w_draw (id := 7) (fun _ => true) (fun k => [1].contains k) [[]] 64 (by kernel_rfl) rfl (by kernel_rfl) (by simp [nm, nset, -List.map_take, -List.map_drop]) ?_)
    refine en_one (hf := Tryz.results4) (h := ?_); simp only [lget]; first | refine congrArg RVb ?_ | refine congrArg RVi ?_ | skip
  · rw [decide_eq_false hb] at hB
    obtain ⟨L, R, hLl, hD⟩ := drawIs_ok code
    have hI := implStopper_ok L R
    have hS := specStopper_ok L R
    have hA := rAt_ok code 4 (by omega) (by omega)
    generalize rAtV code 4 = x at *
    have hxm : x % (L.length + 1) < L.length + 1 := Nat.mod_lt _ (by omega)
    generalize hu : x % (L.length + 1) = u at *
    have hX := implAtLeast_ok L R (u : Int) L R (u : Int)
    by_cases hok : stops L R = true ∧ u < L.length
    · obtain ⟨hs, hul⟩ := hok
      rw [hs] at hI hS
      obtain ⟨x1, x2⟩ := atl_refl hs hul
      obtain ⟨y1, y2⟩ := atl_on hs hul
      obtain ⟨z1, z2⟩ := atl_off hs hul
      have hY := implAtLeast_ok [[0]] [[]] (0 : Int) L R (u : Int)
      have hZ := implAtLeast_ok L R (u : Int) [[]] [[0]] (0 : Int)
      have hP := implPlaces_ok L R
      have hQ := specPlaces_ok L R
      rw [hs] at hP hQ
      rw [x1, x2] at hX
      rw [show ((0 : Nat) : Int) = 0 from rfl] at y1 y2 z1 z2
      rw [y1, y2] at hY
      rw [z1, z2] at hZ
      have hN := named_on
      have hF := named_off
      have hr := rInts_ok (plaJ L R) (plaJ L R)
      rw [decide_eq_true rfl] at hr
      generalize plaJ L R = W at *
      subst hu
      refine (fcr_in Tryz.func4 rfl (by simp only [Tryz.ntmps4, anys, List.length_cons, List.length_nil, Nat.reduceAdd, Nat.reduceSub, List.replicate_succ, List.replicate_zero, List.cons_append, List.nil_append] <;> rfl) ?_)
      repeat' first
        | refine w_seq ?_
        | refine w_region ?_
        | refine l_nil ?_
        | refine rt_n ?_
        | refine w_ret ?_
        | refine rt_ret ?_
        | refine w_skip ?_
        | refine w_cond_t rfl ?_
        | refine w_cond_f rfl ?_
        | refine w_cnd rfl (fun hc => ?_) (fun hc => ?_)
        | refine w_cd rfl (fun hc => ?_) (fun hc => ?_)
        | refine w_cn rfl (fun hc => ?_) (fun hc => ?_)
        | refine w_cond rfl (fun hc => ?_) (fun hc => ?_)
        | (exfalso; omega)
        | (exfalso; exact absurd rfl hc)
        | (refine l_o ?_; first | refine l_op rfl (by first | (apply k_add; first | exact ops_addn (a := L.length) (b := 1) rfl rfl (by omega) | fail) | (apply k_rem; first | exact ops_remn (m := x) (n := L.length + 1) rfl rfl (by omega) | fail) | (apply k_callf; first | exact ops_callf (d := 27) (hfc := hD) | exact ops_callf (d := 29) (hfc := hI) | exact ops_callf (d := 32) (hfc := hS) | exact ops_callf (d := 61) (hfc := hN) | exact ops_callf (d := 66) (hfc := hF) | exact ops_callf (d := 75) (hfc := hX) | exact ops_callf (d := 83) (hfc := hY) | exact ops_callf (d := 91) (hfc := hZ) | exact ops_callf (d := 96) (hfc := hP) | exact ops_callf (d := 101) (hfc := hQ) | exact ops_callf (d := 132) (hfc := hr) | exact ops_callf (d := 35) (hfc := hA) | exact ops_callf (hfc := hB) | fail) | fail) (hk := ?_) | refine l_op (hk := ?_) | (refine l_g ?_; first | refine l_y rfl rfl rfl ?_ | refine l_n rfl rfl rfl rfl (hk := ?_) | refine l_n' rfl rfl rfl (hk := ?_) | refine l_spnd rfl rfl rfl (h1 := fun hc => ?_) (h2 := fun hc => ?_) | refine l_spd rfl rfl rfl (h1 := fun hc => ?_) (h2 := fun hc => ?_) | refine l_spn rfl rfl rfl (h1 := fun hc => ?_) (h2 := fun hc => ?_) | refine l_sp rfl rfl rfl (h1 := fun hc => ?_) (h2 := fun hc => ?_)))
        | refine e_nil ?_
        | (refine e_o ?_; first | refine e_fl rfl (by first | exact .pl (by first | (apply q_add; first | exact fs_addn (a := L.length) (b := 1) rfl rfl (by omega) | fail) | (apply q_rem; first | exact fs_remn (m := x) (n := L.length + 1) rfl rfl (by omega) | fail) | (apply q_callf; first | exact fs_callf (d := 35) (hfc := hA) | fail) | fail) | exact .ye rfl rfl rfl (by first | (apply q_add; first | exact fs_addn (a := L.length) (b := 1) rfl rfl (by omega) | fail) | (apply q_rem; first | exact fs_remn (m := x) (n := L.length + 1) rfl rfl (by omega) | fail) | (apply q_callf; first | exact fs_callf (d := 35) (hfc := hA) | fail) | fail) | fail) (hk := ?_) | refine e_fl (hk := ?_) | refine e_ef rfl (by first | exact .callf (d := 27) (hfc := hD) | exact .callf (d := 29) (hfc := hI) | exact .callf (d := 32) (hfc := hS) | exact .callf (d := 61) (hfc := hN) | exact .callf (d := 66) (hfc := hF) | exact .callf (d := 75) (hfc := hX) | exact .callf (d := 83) (hfc := hY) | exact .callf (d := 91) (hfc := hZ) | exact .callf (d := 96) (hfc := hP) | exact .callf (d := 101) (hfc := hQ) | exact .callf (d := 132) (hfc := hr) | exact .callf (hfc := hB) | exact .callfY (d := 27) (hfc := hD) | exact .callfY (d := 29) (hfc := hI) | exact .callfY (d := 32) (hfc := hS) | exact .callfY (d := 61) (hfc := hN) | exact .callfY (d := 66) (hfc := hF) | exact .callfY (d := 75) (hfc := hX) | exact .callfY (d := 83) (hfc := hY) | exact .callfY (d := 91) (hfc := hZ) | exact .callfY (d := 96) (hfc := hP) | exact .callfY (d := 101) (hfc := hQ) | exact .callfY (d := 132) (hfc := hr) | exact .callfY (hfc := hB) | fail) (hk := ?_) | refine e_ef (hk := ?_) | (refine e_g ?_; first | refine e_spnd rfl rfl rfl (h1 := fun hc => ?_) (h2 := fun hc => ?_) | refine e_spd rfl rfl rfl (h1 := fun hc => ?_) (h2 := fun hc => ?_) | refine e_spn rfl rfl rfl (h1 := fun hc => ?_) (h2 := fun hc => ?_) | refine e_sp rfl rfl rfl (h1 := fun hc => ?_) (h2 := fun hc => ?_)))
        | (refine w_o ?_; first | refine w_drawS (id := 7) (rdP [(2,3),(3,3)]) (fun k => [].contains k) [] (by kernel_rfl) rfl (by kernel_rfl) (by simp [nm, nset, -List.map_take, -List.map_drop]) ?_)
      all_goals first
        | ((refine en_one (hf := Tryz.results4) (h := ?_); simp only [lget]; first | refine congrArg RVb ?_ | refine congrArg RVi ?_ | skip); done)
        | ((refine en_one (hf := Tryz.results4) (h := ?_); simp only [lget]; first | refine congrArg RVb ?_ | refine congrArg RVi ?_ | skip); simp; done)
        | ((refine en_one (hf := Tryz.results4) (h := ?_); simp only [lget]; first | refine congrArg RVb ?_ | refine congrArg RVi ?_ | skip); rfl)
        | trace_state
    · have hno : okS L R L R (u : Int) (u : Int) = false := by
        cases h : okS L R L R (u : Int) (u : Int) with
        | false => rfl
        | true =>
          exfalso
          unfold okS plc at h
          simp only [Bool.and_eq_true, decide_eq_true_eq] at h
          exact hok ⟨h.1.1.1, by omega⟩
      rw [hno] at hX
      generalize atl L R L R (u : Int) (u : Int) = z at *
      cases hs : stops L R with
      | false =>
        rw [hs] at hI hS
        subst hu
        refine (fcr_in Tryz.func4 rfl (by simp only [Tryz.ntmps4, anys, List.length_cons, List.length_nil, Nat.reduceAdd, Nat.reduceSub, List.replicate_succ, List.replicate_zero, List.cons_append, List.nil_append] <;> rfl) ?_)
        repeat' first
          | refine w_seq ?_
          | refine w_region ?_
          | refine l_nil ?_
          | refine rt_n ?_
          | refine w_ret ?_
          | refine rt_ret ?_
          | refine w_skip ?_
          | refine w_cond_t rfl ?_
          | refine w_cond_f rfl ?_
          | refine w_cnd rfl (fun hc => ?_) (fun hc => ?_)
          | refine w_cd rfl (fun hc => ?_) (fun hc => ?_)
          | refine w_cn rfl (fun hc => ?_) (fun hc => ?_)
          | refine w_cond rfl (fun hc => ?_) (fun hc => ?_)
          | (exfalso; omega)
          | (exfalso; exact absurd rfl hc)
          | (refine l_o ?_; first | refine l_op rfl (by first | (apply k_add; first | exact ops_addn (a := L.length) (b := 1) rfl rfl (by omega) | fail) | (apply k_rem; first | exact ops_remn (m := x) (n := L.length + 1) rfl rfl (by omega) | fail) | (apply k_callf; first | exact ops_callf (d := 27) (hfc := hD) | exact ops_callf (d := 29) (hfc := hI) | exact ops_callf (d := 32) (hfc := hS) | exact ops_callf (d := 55) (hfc := hX) | exact ops_callf (d := 35) (hfc := hA) | exact ops_callf (hfc := hB) | fail) | fail) (hk := ?_) | refine l_op (hk := ?_) | (refine l_g ?_; first | refine l_y rfl rfl rfl ?_ | refine l_n rfl rfl rfl rfl (hk := ?_) | refine l_n' rfl rfl rfl (hk := ?_) | refine l_spnd rfl rfl rfl (h1 := fun hc => ?_) (h2 := fun hc => ?_) | refine l_spd rfl rfl rfl (h1 := fun hc => ?_) (h2 := fun hc => ?_) | refine l_spn rfl rfl rfl (h1 := fun hc => ?_) (h2 := fun hc => ?_) | refine l_sp rfl rfl rfl (h1 := fun hc => ?_) (h2 := fun hc => ?_)))
          | refine e_nil ?_
          | (refine e_o ?_; first | refine e_fl rfl (by first | exact .pl (by first | (apply q_add; first | exact fs_addn (a := L.length) (b := 1) rfl rfl (by omega) | fail) | (apply q_rem; first | exact fs_remn (m := x) (n := L.length + 1) rfl rfl (by omega) | fail) | (apply q_callf; first | exact fs_callf (d := 35) (hfc := hA) | fail) | fail) | exact .ye rfl rfl rfl (by first | (apply q_add; first | exact fs_addn (a := L.length) (b := 1) rfl rfl (by omega) | fail) | (apply q_rem; first | exact fs_remn (m := x) (n := L.length + 1) rfl rfl (by omega) | fail) | (apply q_callf; first | exact fs_callf (d := 35) (hfc := hA) | fail) | fail) | fail) (hk := ?_) | refine e_fl (hk := ?_) | refine e_ef rfl (by first | exact .callf (d := 27) (hfc := hD) | exact .callf (d := 29) (hfc := hI) | exact .callf (d := 32) (hfc := hS) | exact .callf (d := 55) (hfc := hX) | exact .callf (hfc := hB) | exact .callfY (d := 27) (hfc := hD) | exact .callfY (d := 29) (hfc := hI) | exact .callfY (d := 32) (hfc := hS) | exact .callfY (d := 55) (hfc := hX) | exact .callfY (hfc := hB) | fail) (hk := ?_) | refine e_ef (hk := ?_) | (refine e_g ?_; first | refine e_spnd rfl rfl rfl (h1 := fun hc => ?_) (h2 := fun hc => ?_) | refine e_spd rfl rfl rfl (h1 := fun hc => ?_) (h2 := fun hc => ?_) | refine e_spn rfl rfl rfl (h1 := fun hc => ?_) (h2 := fun hc => ?_) | refine e_sp rfl rfl rfl (h1 := fun hc => ?_) (h2 := fun hc => ?_)))
          | (refine w_o ?_; first | refine w_drawS (id := 7) (rdP [(2,3),(3,3)]) (fun k => [].contains k) [] (by kernel_rfl) rfl (by kernel_rfl) (by simp [nm, nset, -List.map_take, -List.map_drop]) ?_)
        all_goals first
          | ((refine en_one (hf := Tryz.results4) (h := ?_); simp only [lget]; first | refine congrArg RVb ?_ | refine congrArg RVi ?_ | skip); done)
          | ((refine en_one (hf := Tryz.results4) (h := ?_); simp only [lget]; first | refine congrArg RVb ?_ | refine congrArg RVi ?_ | skip); simp; done)
          | ((refine en_one (hf := Tryz.results4) (h := ?_); simp only [lget]; first | refine congrArg RVb ?_ | refine congrArg RVi ?_ | skip); rfl)
          | trace_state
      | true =>
        rw [hs] at hI hS
        have hge : ¬ u < L.length := fun h => hok ⟨hs, h⟩
        subst hu
        refine (fcr_in Tryz.func4 rfl (by simp only [Tryz.ntmps4, anys, List.length_cons, List.length_nil, Nat.reduceAdd, Nat.reduceSub, List.replicate_succ, List.replicate_zero, List.cons_append, List.nil_append] <;> rfl) ?_)
        repeat' first
          | refine w_seq ?_
          | refine w_region ?_
          | refine l_nil ?_
          | refine rt_n ?_
          | refine w_ret ?_
          | refine rt_ret ?_
          | refine w_skip ?_
          | refine w_cond_t rfl ?_
          | refine w_cond_f rfl ?_
          | refine w_cnd rfl (fun hc => ?_) (fun hc => ?_)
          | refine w_cd rfl (fun hc => ?_) (fun hc => ?_)
          | refine w_cn rfl (fun hc => ?_) (fun hc => ?_)
          | refine w_cond rfl (fun hc => ?_) (fun hc => ?_)
          | (exfalso; omega)
          | (exfalso; exact absurd rfl hc)
          | (refine l_o ?_; first | refine l_op rfl (by first | (apply k_add; first | exact ops_addn (a := L.length) (b := 1) rfl rfl (by omega) | fail) | (apply k_rem; first | exact ops_remn (m := x) (n := L.length + 1) rfl rfl (by omega) | fail) | (apply k_callf; first | exact ops_callf (d := 27) (hfc := hD) | exact ops_callf (d := 29) (hfc := hI) | exact ops_callf (d := 32) (hfc := hS) | exact ops_callf (d := 55) (hfc := hX) | exact ops_callf (d := 35) (hfc := hA) | exact ops_callf (hfc := hB) | fail) | fail) (hk := ?_) | refine l_op (hk := ?_) | (refine l_g ?_; first | refine l_y rfl rfl rfl ?_ | refine l_n rfl rfl rfl rfl (hk := ?_) | refine l_n' rfl rfl rfl (hk := ?_) | refine l_spnd rfl rfl rfl (h1 := fun hc => ?_) (h2 := fun hc => ?_) | refine l_spd rfl rfl rfl (h1 := fun hc => ?_) (h2 := fun hc => ?_) | refine l_spn rfl rfl rfl (h1 := fun hc => ?_) (h2 := fun hc => ?_) | refine l_sp rfl rfl rfl (h1 := fun hc => ?_) (h2 := fun hc => ?_)))
          | refine e_nil ?_
          | (refine e_o ?_; first | refine e_fl rfl (by first | exact .pl (by first | (apply q_add; first | exact fs_addn (a := L.length) (b := 1) rfl rfl (by omega) | fail) | (apply q_rem; first | exact fs_remn (m := x) (n := L.length + 1) rfl rfl (by omega) | fail) | (apply q_callf; first | exact fs_callf (d := 35) (hfc := hA) | fail) | fail) | exact .ye rfl rfl rfl (by first | (apply q_add; first | exact fs_addn (a := L.length) (b := 1) rfl rfl (by omega) | fail) | (apply q_rem; first | exact fs_remn (m := x) (n := L.length + 1) rfl rfl (by omega) | fail) | (apply q_callf; first | exact fs_callf (d := 35) (hfc := hA) | fail) | fail) | fail) (hk := ?_) | refine e_fl (hk := ?_) | refine e_ef rfl (by first | exact .callf (d := 27) (hfc := hD) | exact .callf (d := 29) (hfc := hI) | exact .callf (d := 32) (hfc := hS) | exact .callf (d := 55) (hfc := hX) | exact .callf (hfc := hB) | exact .callfY (d := 27) (hfc := hD) | exact .callfY (d := 29) (hfc := hI) | exact .callfY (d := 32) (hfc := hS) | exact .callfY (d := 55) (hfc := hX) | exact .callfY (hfc := hB) | fail) (hk := ?_) | refine e_ef (hk := ?_) | (refine e_g ?_; first | refine e_spnd rfl rfl rfl (h1 := fun hc => ?_) (h2 := fun hc => ?_) | refine e_spd rfl rfl rfl (h1 := fun hc => ?_) (h2 := fun hc => ?_) | refine e_spn rfl rfl rfl (h1 := fun hc => ?_) (h2 := fun hc => ?_) | refine e_sp rfl rfl rfl (h1 := fun hc => ?_) (h2 := fun hc => ?_)))
          | (refine w_o ?_; first | refine w_drawS (id := 7) (rdP [(2,3),(3,3)]) (fun k => [].contains k) [] (by kernel_rfl) rfl (by kernel_rfl) (by simp [nm, nset, -List.map_take, -List.map_drop]) ?_)
        all_goals first
          | ((refine en_one (hf := Tryz.results4) (h := ?_); simp only [lget]; first | refine congrArg RVb ?_ | refine congrArg RVi ?_ | skip); done)
          | ((refine en_one (hf := Tryz.results4) (h := ?_); simp only [lget]; first | refine congrArg RVb ?_ | refine congrArg RVi ?_ | skip); simp; done)
          | ((refine en_one (hf := Tryz.results4) (h := ?_); simp only [lget]; first | refine congrArg RVb ?_ | refine congrArg RVi ?_ | skip); rfl)
          | trace_state
end Go.Proofs.YtpcckakchpblcaaGreatDoor
