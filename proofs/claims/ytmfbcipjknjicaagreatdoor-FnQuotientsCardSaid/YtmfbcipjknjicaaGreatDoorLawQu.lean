/- The law FnQuotients answers true. For all bytes. -/
import Derived.Test.YtmfbcipjknjicaaGreatDoorAlk
import Derived.Test.YtmfbcipjknjicaaGreatDoorJ46
import Derived.Test.YtmfbcipjknjicaaGreatDoorQuoU
namespace Go.Proofs.YtmfbcipjknjicaaGreatDoor
open Eng
attribute [local irreducible] OpS OpG FC FCr Rel Fl Ef DR Fs
attribute [local simp] RV.fzR_names
set_option linter.unusedSimpArgs false
set_option linter.unusedVariables false
set_option maxHeartbeats 0
set_option maxRecDepth 100000

theorem drawTwo_ok (code : List UInt8) : FC Tryz.prog 29 [RYs code] [] (fun rv O => ∃ x : List Int × (Int × Int), x.1.length ≤ 60 ∧ rv = .tup [OIs x.1, RBx x.2.1 x.2.2] ∧ O = []) := by
  have q1 := drawCodeD_ok ⟨code, 0, 0⟩ (by show (0 : Nat) ≤ _; omega)
  refine (fc_in Tryz.func29 rfl (by simp only [Tryz.ntmps29, anys, List.length_cons, List.length_nil, Nat.reduceAdd, Nat.reduceSub, List.replicate_succ, List.replicate_zero, List.cons_append, List.nil_append] <;> rfl) ?_)
  repeat' first | apply w_seq | apply w_region | apply l_nil | apply rt_n | apply w_ret | apply rt_ret | apply w_skip | (refine l_o ?_; first | refine l_op (hk := ?_))
  refine l_callPx (ME 0) (fun x => OIs x.1) 8 (fun x => [RCur x.2]) q1 (hk := fun x hx => ?_)
  obtain ⟨d, c1⟩ := x
  obtain ⟨d1, d2⟩ := hx
  dsimp only at d1 d2 ⊢
  repeat' first | apply w_seq | apply w_region | apply l_nil | apply rt_n | apply w_ret | apply rt_ret | apply w_skip | (refine l_o ?_; first | refine l_op (hk := ?_))
  have q2 := drawBox_ok c1 (by omega)
  refine l_callPx (fun x : (Int × Int) × Cur => x.2.at_ ≤ c1.at_ + 2000) (fun x => RBx x.1.1 x.1.2) 8 (fun x => [RCur x.2]) q2 (hk := fun x hx => ?_)
  obtain ⟨⟨s, m⟩, c2⟩ := x
  dsimp only at hx ⊢
  repeat' first | apply w_seq | apply w_region | apply l_nil | apply rt_n | apply w_ret | apply rt_ret | apply w_skip | (refine l_o ?_; first | refine l_op (hk := ?_))
  refine en_ex (d, (s, m)) d1 ?_
  refine en_endm ([(8, 3, [RCur c2]), (3, 2, [.agg [RVi s, RVi m]])]) (hf := Tryz.results29) (hO := ?_) (hr := ?_)
  · rfl
  · rfl
theorem drawQ_ok (code : List UInt8) : FC Tryz.prog 7 [RYs code] [] (fun rv O => ∃ x : List Int × (Int × Int), x.1.length ≤ 60 ∧ rv = .tup [OIs x.1, RBx x.2.1 x.2.2] ∧ O = []) := by
  have h1 := drawTwo_ok code
  refine (fc_in Tryz.func7 rfl (by simp only [Tryz.ntmps7, anys, List.length_cons, List.length_nil, Nat.reduceAdd, Nat.reduceSub, List.replicate_succ, List.replicate_zero, List.cons_append, List.nil_append] <;> rfl) ?_)
  repeat' first | apply w_seq | apply w_region | apply l_nil | apply rt_n | apply w_ret | apply rt_ret | apply w_skip | (refine l_o ?_; first | refine l_op (hk := ?_))
  refine l_callX _ _ h1 (hk := fun x hx => ?_)
  repeat' first | apply w_seq | apply w_region | apply l_nil | apply rt_n | apply w_ret | apply rt_ret | apply w_skip | (refine l_o ?_; first | refine l_op (hk := ?_))
  refine en_ex x hx ?_
  refine en_endm ([(3, 2, [.agg [RVi x.2.1, RVi x.2.2]])]) (hf := Tryz.results7) (hO := ?_) (hr := ?_)
  · rfl
  · rfl
theorem quo_facts {c : List Int} (hg : gcode c = true) {a b : Nat} (hgb : goodB a b = true) (h3 : a ≤ 6) (h4 : b ≤ 6) (h5 : a * b ≤ 6) {i : Nat} (hi : i < (quL (sgL c a b)).length) (hi2 : i < (posB a b).length) :
    ∃ j : Nat, ∃ h : j ≤ i, (quL (sgL c a b))[i] = (j : Int) ∧ (quL (sgL c a b))[j]'(by omega) = (j : Int) ∧ decide (((quL (sgL c a b))[i]) ∈ losV c a b) = !decide (mv c (fillH (posB a b)[i]) 0 0 ≠ 0) ∧ alkR c a b (posB a b)[i] ((posB a b)[j]'(by omega)) = .tup [RVb true, RVb true] := by
  have hL : i < (sgL c a b).length := by rw [quL_len] at hi; exact hi
  obtain ⟨j, hj, h1, h2, _⟩ := quL_at hL
  have hj2 : j < (posB a b).length := by omega
  have hjL : j < (sgL c a b).length := by omega
  have hid := quL_idem hL hjL h1
  have hs : sgnB c a b (posB a b)[j] = sgnB c a b (posB a b)[i] := by simpa [sgL] using h2
  have hadm : ∀ k, (hk : k < (posB a b).length) → admB c a b (posB a b)[k] = true := fun k hk => by
    obtain ⟨hok, hsum⟩ := posB_okS h3 h4 h5 (List.getElem_mem hk)
    unfold admB
    have e : (20 : Int) - (a : Int) * (b : Int) = 20 - ((a * b : Nat) : Int) := by rw [Int.natCast_mul]
    rw [e, hg, hgb, hok.1, decide_eq_true (by have := hok.2; omega)]; rfl
  refine ⟨j, hj, h1, hid, ?_, ?_⟩
  · rw [h1, fillH_id fun x hx => ((posB_mem (List.getElem_mem hi2)).2.1 x hx).1]
    have hl : mv c (posB a b)[j] 0 0 = 0 ↔ mv c (posB a b)[i] 0 0 = 0 := sgn_lost (List.getElem_mem hj2) (List.getElem_mem hi2) hs
    have hm : (j : Int) ∈ losV c a b ↔ mv c (posB a b)[j] 0 0 = 0 := by
      unfold losV
      rw [stI_mem]
      have hlo : lost c (posB a b) j = decide (mv c (posB a b)[j] 0 0 = 0) := by
        unfold lost; rw [List.getD_eq_getElem?_getD, List.getElem?_eq_getElem hj2]; rfl
      constructor
      · rintro ⟨k, _, hk, _, hk2⟩
        obtain rfl : j = k := by omega
        rw [hlo] at hk2
        exact of_decide_eq_true hk2
      · intro h0
        refine ⟨j, hj2, rfl, ?_, by rw [hlo]; exact decide_eq_true h0⟩
        rw [List.getD_eq_getElem?_getD, List.getElem?_eq_getElem (by rw [quL_len]; exact hjL), Option.getD_some]
        exact hid
    rw [Bool.eq_iff_iff]
    simp only [decide_eq_true_eq, Bool.not_eq_true', decide_eq_false_iff_not, ne_eq, Classical.not_not]
    rw [hm, hl]
  · unfold alkR alkB
    rw [hadm i hi2, hadm j hj2, Int.toNat_natCast, Int.toNat_natCast, hs, decide_eq_true rfl]; rfl
theorem lawQu_ok (code : List UInt8) : FCr Tryz.prog 3 [RYs code] (RVb true) := by
  have hB := rBigQ_ok code
  have hD := drawQ_ok code
  by_cases hbig : (65536 : Int) < (code.length : Nat)
  · rw [decide_eq_true hbig] at hB
    refine (fcr_in Tryz.func3 rfl (by simp only [Tryz.ntmps3, anys, List.length_cons, List.length_nil, Nat.reduceAdd, Nat.reduceSub, List.replicate_succ, List.replicate_zero, List.cons_append, List.nil_append] <;> rfl) ?_)
    repeat' first | apply w_seq | apply w_block | apply rb_n | apply rb_ret | apply rb_eq | refine rb_ne (by rfl) ?_ | apply w_exit | apply rt_exit | apply w_region | apply l_nil | apply rt_n | apply w_ret | apply rt_ret | apply w_skip | refine w_cond_t rfl ?_ | refine w_cond_f rfl ?_ | ((first | refine w_cnd rfl ?_ ?_ | refine w_cd rfl ?_ ?_ | refine w_cn rfl ?_ ?_ | refine w_cond rfl ?_ ?_) <;> intro hc) | (refine l_o ?_; first | refine l_eqnil rfl (by kernel_rfl) (by intro b; simp only [nz]; rfl) (fun b hb => ?_) | refine l_op rfl (by first | (apply k_callf; first | exact ops_callf (hfc := hB) | fail) | fail) (hk := ?_) | refine l_op (hk := ?_) | (refine l_g ?_; first | refine l_y rfl rfl rfl ?_ | refine l_n rfl rfl rfl rfl (hk := ?_) | refine l_n' rfl rfl rfl (hk := ?_) | refine l_spnd rfl rfl rfl (h1 := fun hc => ?_) (h2 := fun hc => ?_) | refine l_spd rfl rfl rfl (h1 := fun hc => ?_) (h2 := fun hc => ?_) | refine l_spn rfl rfl rfl (h1 := fun hc => ?_) (h2 := fun hc => ?_) | refine l_sp rfl rfl rfl (h1 := fun hc => ?_) (h2 := fun hc => ?_))) | refine d_nil ?_ | (refine d_o ?_; first | refine d_fl (hk := ?_) | refine d_ef rfl (by first | exact .callf (hfc := hB) | exact .callfY (hfc := hB) | fail) (hk := ?_) | refine d_ef (hk := ?_) | (refine d_g ?_; first | refine d_spnd rfl rfl rfl (h1 := fun hc => ?_) (h2 := fun hc => ?_) | refine d_spd rfl rfl rfl (h1 := fun hc => ?_) (h2 := fun hc => ?_) | refine d_spn rfl rfl rfl (h1 := fun hc => ?_) (h2 := fun hc => ?_) | refine d_sp rfl rfl rfl (h1 := fun hc => ?_) (h2 := fun hc => ?_))) | (refine w_o ?_; first | refine w_draw (id := 17) (fun _ => true) (fun k => [].contains k) [] 64 (by kernel_rfl) rfl (by kernel_rfl) (by simp [nm, nset, -List.map_take, -List.map_drop]) ?_ | refine w_draw (id := 23) (fun _ => true) (fun k => [13].contains k) [[]] 64 (by kernel_rfl) rfl (by kernel_rfl) (by simp [nm, nset, -List.map_take, -List.map_drop]) ?_)
    refine en_one (hf := Tryz.results3) (h := ?_); simp only [lget]; first | refine congrArg RVb ?_ | refine congrArg RVi ?_ | skip
  rw [decide_eq_false hbig] at hB
  have hR := rAtQ_ok code 4 (by omega) (by omega)
  have hRl := rAtV_lt code 4
  generalize rAtV code 4 = r at *
  refine (fcr_in Tryz.func3 rfl (by simp only [Tryz.ntmps3, anys, List.length_cons, List.length_nil, Nat.reduceAdd, Nat.reduceSub, List.replicate_succ, List.replicate_zero, List.cons_append, List.nil_append] <;> rfl) ?_)
  repeat' first | apply w_seq | apply w_block | apply rb_n | apply rb_ret | apply rb_eq | refine rb_ne (by rfl) ?_ | apply w_exit | apply rt_exit | apply w_region | apply l_nil | apply rt_n | apply w_ret | apply rt_ret | apply w_skip | refine w_cond_t rfl ?_ | refine w_cond_f rfl ?_ | ((first | refine w_cnd rfl ?_ ?_ | refine w_cd rfl ?_ ?_ | refine w_cn rfl ?_ ?_ | refine w_cond rfl ?_ ?_) <;> intro hc) | (refine l_o ?_; first | refine l_eqnil rfl (by kernel_rfl) (by intro b; simp only [nz]; rfl) (fun b hb => ?_) | refine l_op rfl (by first | (apply k_callf; first | exact ops_callf (hfc := hB) | fail) | fail) (hk := ?_) | refine l_op (hk := ?_) | (refine l_g ?_; first | refine l_y rfl rfl rfl ?_ | refine l_n rfl rfl rfl rfl (hk := ?_) | refine l_n' rfl rfl rfl (hk := ?_) | refine l_spnd rfl rfl rfl (h1 := fun hc => ?_) (h2 := fun hc => ?_) | refine l_spd rfl rfl rfl (h1 := fun hc => ?_) (h2 := fun hc => ?_) | refine l_spn rfl rfl rfl (h1 := fun hc => ?_) (h2 := fun hc => ?_) | refine l_sp rfl rfl rfl (h1 := fun hc => ?_) (h2 := fun hc => ?_))) | refine d_nil ?_ | (refine d_o ?_; first | refine d_fl (hk := ?_) | refine d_ef rfl (by first | exact .callf (hfc := hB) | exact .callfY (hfc := hB) | fail) (hk := ?_) | refine d_ef (hk := ?_) | (refine d_g ?_; first | refine d_spnd rfl rfl rfl (h1 := fun hc => ?_) (h2 := fun hc => ?_) | refine d_spd rfl rfl rfl (h1 := fun hc => ?_) (h2 := fun hc => ?_) | refine d_spn rfl rfl rfl (h1 := fun hc => ?_) (h2 := fun hc => ?_) | refine d_sp rfl rfl rfl (h1 := fun hc => ?_) (h2 := fun hc => ?_))) | (refine w_o ?_; first | refine w_draw (id := 17) (fun _ => true) (fun k => [].contains k) [] 64 (by kernel_rfl) rfl (by kernel_rfl) (by simp [nm, nset, -List.map_take, -List.map_drop]) ?_ | refine w_draw (id := 23) (fun _ => true) (fun k => [13].contains k) [[]] 64 (by kernel_rfl) rfl (by kernel_rfl) (by simp [nm, nset, -List.map_take, -List.map_drop]) ?_)
  refine l_callX _ _ hD (hk := fun x hx => ?_)
  obtain ⟨c, s, m⟩ := x
  dsimp only at hx ⊢
  refine l_le _ (le_freeze 1027 rfl (by simp only [nz, nf, nl, nb, nr, ng, nq, nu, reduceIte, Nat.reduceEqDiff, Nat.reduceAdd]; rfl) (by simp only [nz, nf, nl, nb, nr, ng, nq, nu, reduceIte, Nat.reduceEqDiff, Nat.reduceAdd]; rfl)) ?_
  have hI := quotientOf_ok c s m (by omega)
  have hS := sQuotientOf_ok c s m (by omega)
  have hP := boxHeaps_ok s m
  have hL := losingClasses_ok c s m (by omega)
  have hT := quotientText_ok c s m (by omega)
  have hU := sQuotientText_ok c s m (by omega)
  unfold quoR at hI hS
  unfold boxR at hP
  unfold losR at hL
  by_cases hgb : (gcode c && goodB s m) = true
  · rw [hgb] at hI hS hL
    simp only [Bool.and_eq_true] at hgb
    obtain ⟨hg, hb⟩ := hgb
    rw [hb] at hP
    have hb0 := hb
    obtain ⟨a, b, rfl, rfl, h1, h2, h3, h4, h5⟩ := goodB_nat hb
    unfold txR at hT hU
    rw [hg, hb0] at hT hU
    simp only [Int.toNat_natCast, Bool.and_self, reduceIte] at hI hS hP hL hT hU
    generalize txQ (quL (sgL c a b)) (posB a b).length a (losV c a b).length = X at *
    have hRI := rIntsM_ok (quL (sgL c a b)) (quL (sgL c a b))
    rw [decide_eq_true rfl] at hRI
    have hQl : (quL (sgL c a b)).length = (posB a b).length := by rw [quL_len, sgL_len]
    have hpl : (posB a b).length ≤ 1000000 := by have := posT_len h3 (b + 1) (by omega); unfold posB; omega
    have hp0 : 0 < (posB a b).length := by obtain ⟨r, hr⟩ := posB_zero a b; rw [hr]; simp
    have hfx : ∀ i : Nat, i < (quL (sgL c a b)).length → (hi2 : i < (posB a b).length) → ∃ j : Nat, j ≤ i ∧ (quL (sgL c a b))[i]? = some (j : Int) ∧ (quL (sgL c a b))[j]? = some (j : Int) ∧ decide ((j : Int) ∈ losV c a b) = !decide (mv c (fillH (posB a b)[i]) 0 0 ≠ 0) ∧ ∀ hj : j < (posB a b).length, alkR c a b (posB a b)[i] (posB a b)[j] = .tup [RVb true, RVb true] := fun i hi hi2 => by
      obtain ⟨j, hj, e1, e2, e3, e4⟩ := quo_facts hg hb0 h3 h4 h5 hi hi2
      rw [e1] at e3
      exact ⟨j, hj, by rw [List.getElem?_eq_getElem hi, e1], by rw [List.getElem?_eq_getElem (by omega), e2], e3, fun _ => e4⟩
    have hml : ∀ p ∈ posB a b, p.length ≤ 1048576 := fun p hp => by have := (posB_mem hp).1; omega
    have hW : ∀ i, (hi : i < (posB a b).length) → FCr Tryz.prog 13 [RIs c, RIs (posB a b)[i]] (.tup [RVb (decide (mv c (fillH (posB a b)[i]) 0 0 ≠ 0)), RVb true]) := fun i hi => by
      have h := misereWins_ok c (posB a b)[i] (by omega) (hml _ (List.getElem_mem hi))
      obtain ⟨hok, hsum⟩ := posB_okS h3 h4 h5 (List.getElem_mem hi)
      rw [hg, hok.1, decide_eq_true (show (posB a b)[i].sum ≤ 20 by omega)] at h
      exact h
    have hAk : ∀ i j, (hi : i < (posB a b).length) → (hj : j < (posB a b).length) → FCr Tryz.prog 16 [RIs c, RBx (a : Int) (b : Int), RIs (posB a b)[i], RIs (posB a b)[j]] (alkR c a b (posB a b)[i] (posB a b)[j]) := fun i j hi hj => alike_ok c a b _ _ (by omega) (hml _ (List.getElem_mem hi)) (hml _ (List.getElem_mem hj))
    generalize losV c a b = Z at *
    generalize quL (sgL c a b) = Q at *
    generalize posB a b = P at *
    repeat' first | apply w_seq | apply w_block | apply rb_n | apply rb_ret | apply rb_eq | refine rb_ne (by rfl) ?_ | apply w_exit | apply rt_exit | apply w_region | apply l_nil | apply rt_n | apply w_ret | apply rt_ret | apply w_skip | refine w_cond_t rfl ?_ | refine w_cond_f rfl ?_ | ((first | refine w_cnd rfl ?_ ?_ | refine w_cd rfl ?_ ?_ | refine w_cn rfl ?_ ?_ | refine w_cond rfl ?_ ?_) <;> intro hc) | (exfalso; exact hc rfl) | (exfalso; omega) | (refine l_o ?_; first | refine l_eqnil rfl (by kernel_rfl) (by intro b; simp only [nz]; rfl) (fun b hb => ?_) | refine l_op rfl (by first | (apply k_callf; first | exact ops_callf (d := 33) (hfc := hI) | exact ops_callf (d := 39) (hfc := hS) | exact ops_callf (d := 44) (hfc := hP) | exact ops_callf (d := 50) (hfc := hL) | exact ops_callf (d := 64) (hfc := hRI) | fail) | fail) (hk := ?_) | refine l_op (hk := ?_) | (refine l_g ?_; first | refine l_y rfl rfl rfl ?_ | refine l_n rfl rfl rfl rfl (hk := ?_) | refine l_n' rfl rfl rfl (hk := ?_) | refine l_spnd rfl rfl rfl (h1 := fun hc => ?_) (h2 := fun hc => ?_) | refine l_spd rfl rfl rfl (h1 := fun hc => ?_) (h2 := fun hc => ?_) | refine l_spn rfl rfl rfl (h1 := fun hc => ?_) (h2 := fun hc => ?_) | refine l_sp rfl rfl rfl (h1 := fun hc => ?_) (h2 := fun hc => ?_))) | refine d_nil ?_ | (refine d_o ?_; first | refine d_fl (hk := ?_) | refine d_ef rfl (by first | exact .callf (d := 33) (hfc := hI) | exact .callf (d := 39) (hfc := hS) | exact .callf (d := 44) (hfc := hP) | exact .callf (d := 50) (hfc := hL) | exact .callf (d := 64) (hfc := hRI) | exact .callfY (d := 33) (hfc := hI) | exact .callfY (d := 39) (hfc := hS) | exact .callfY (d := 44) (hfc := hP) | exact .callfY (d := 50) (hfc := hL) | exact .callfY (d := 64) (hfc := hRI) | fail) (hk := ?_) | refine d_ef (hk := ?_) | (refine d_g ?_; first | refine d_spnd rfl rfl rfl (h1 := fun hc => ?_) (h2 := fun hc => ?_) | refine d_spd rfl rfl rfl (h1 := fun hc => ?_) (h2 := fun hc => ?_) | refine d_spn rfl rfl rfl (h1 := fun hc => ?_) (h2 := fun hc => ?_) | refine d_sp rfl rfl rfl (h1 := fun hc => ?_) (h2 := fun hc => ?_))) | (refine w_o ?_; first | refine w_draw (id := 17) (fun _ => true) (fun k => [].contains k) [] 64 (by kernel_rfl) rfl (by kernel_rfl) (by simp [nm, nset, -List.map_take, -List.map_drop]) ?_ | refine w_draw (id := 23) (fun _ => true) (fun k => [13].contains k) [[]] 64 (by kernel_rfl) rfl (by kernel_rfl) (by simp [nm, nset, -List.map_take, -List.map_drop]) ?_)
    refine w_loopm (ι := Nat) (fun k => [(13, RVn k), (14, .any), (15, .any)]) (fun _ => [(4, 2, [RBx a b])]) (fun k => k ≤ P.length) (fun k => P.length - k) 0 (h0 := ?_) (hs := ?_) (round := ?_)
    · exact Nat.zero_le _
    · refine le_eq (by (repeat' first | exact .nil | refine .keep ?_ | refine .any ?_); first | done | fail) rfl rfl
    · intro k hk
      by_cases hk2 : k < P.length
      · obtain ⟨j, hj, f1, f2, e3, e4⟩ := hfx k (by omega) hk2
        have e1 : Q[k]'(by omega) = (j : Int) := (List.getElem?_eq_some_iff.1 f1).2
        have e2 : Q[j]'(by omega) = (j : Int) := (List.getElem?_eq_some_iff.1 f2).2
        have hH := rHasM_ok Z (j : Int)
        clear f1 f2
        have hWk := hW k hk2
        rw [e3, ← e1] at hH
        generalize decide (mv c (fillH P[k]) 0 0 ≠ 0) = w at *
        have e5 : Q[Q[k].toNat]'(by rw [e1, Int.toNat_natCast]; omega) = Q[k] := by simp only [e1, Int.toNat_natCast, e2]
        have b1 : ¬ Q[k] < 0 := by omega
        have b2 : ¬ Q[k] > (k : Int) := by omega
        cases w
        all_goals
          repeat' first | apply w_seq | apply w_block | apply rb_n | apply rb_ret | apply rb_eq | refine rb_ne (by rfl) ?_ | apply w_exit | apply rt_exit | apply w_region | apply l_nil | apply rt_n | apply w_ret | apply rt_ret | apply w_skip | refine w_cond_t rfl ?_ | refine w_cond_f rfl ?_ | ((first | refine w_cnd rfl ?_ ?_ | refine w_cd rfl ?_ ?_ | refine w_cn rfl ?_ ?_ | refine w_cond rfl ?_ ?_) <;> intro hc) | (exfalso; omega) | (exfalso; exact b1 hc) | (exfalso; exact b2 hc) | (exfalso; exact hc e5) | (refine l_o ?_; first | refine l_eqnil rfl (by kernel_rfl) (by intro b; simp only [nz]; rfl) (fun b hb => ?_) | refine l_op rfl (by first | (apply k_callf; first | exact ops_callf (d := 117) (hfc := hWk) | exact ops_callf (d := 129) (hfc := hH) | fail) | fail) (hk := ?_) | refine l_op (hk := ?_) | (refine l_g ?_; first | refine l_y rfl rfl rfl ?_ | refine l_n rfl rfl rfl rfl (hk := ?_) | refine l_n' rfl rfl rfl (hk := ?_) | refine l_spnd rfl rfl rfl (h1 := fun hc => ?_) (h2 := fun hc => ?_) | refine l_spd rfl rfl rfl (h1 := fun hc => ?_) (h2 := fun hc => ?_) | refine l_spn rfl rfl rfl (h1 := fun hc => ?_) (h2 := fun hc => ?_) | refine l_sp rfl rfl rfl (h1 := fun hc => ?_) (h2 := fun hc => ?_))) | refine d_nil ?_ | (refine d_o ?_; first | refine d_fl (hk := ?_) | refine d_ef rfl (by first | exact .callf (d := 117) (hfc := hWk) | exact .callf (d := 129) (hfc := hH) | exact .callfY (d := 117) (hfc := hWk) | exact .callfY (d := 129) (hfc := hH) | fail) (hk := ?_) | refine d_ef (hk := ?_) | (refine d_g ?_; first | refine d_spnd rfl rfl rfl (h1 := fun hc => ?_) (h2 := fun hc => ?_) | refine d_spd rfl rfl rfl (h1 := fun hc => ?_) (h2 := fun hc => ?_) | refine d_spn rfl rfl rfl (h1 := fun hc => ?_) (h2 := fun hc => ?_) | refine d_sp rfl rfl rfl (h1 := fun hc => ?_) (h2 := fun hc => ?_))) | (refine w_o ?_; first | refine w_draw (id := 17) (roL []) (fun k => [].contains k) [] 64 (by kernel_rfl) rfl (by kernel_rfl) (by simp [nm, nset, -List.map_take, -List.map_drop]) ?_ | refine w_draw (id := 23) (fun _ => true) (fun k => [13].contains k) [[]] 64 (by kernel_rfl) rfl (by kernel_rfl) (by simp [nm, nset, -List.map_take, -List.map_drop]) ?_)
        all_goals
          refine rn_mk (k + 1) ?_ (by first | omega | (dsimp only; omega)) (le_eq (by (repeat' first | exact .nil | refine .keep ?_ | refine .any ?_); first | done | fail) rfl rfl)
          omega
      · obtain rfl : k = P.length := by omega
        have hr2 : r % Q.length < P.length := by rw [hQl]; exact Nat.mod_lt _ hp0
        obtain ⟨j, hj, f1, f2, e3, e4⟩ := hfx (r % Q.length) (by omega) hr2
        have e1 : Q[r % Q.length]'(by omega) = (j : Int) := (List.getElem?_eq_some_iff.1 f1).2
        have hA := hAk _ j hr2 (by omega)
        rw [e4 (by omega)] at hA
        have e6 : P[(Q[r % Q.length]'(by omega)).toNat]'(by rw [e1, Int.toNat_natCast]; omega) = P[j]'(by omega) := by simp only [e1, Int.toNat_natCast]
        rw [← e6] at hA
        repeat' first | apply w_seq | apply w_block | apply rb_n | apply rb_ret | apply rb_eq | refine rb_ne (by rfl) ?_ | apply w_exit | apply rt_exit | apply w_region | apply l_nil | apply rt_n | apply w_ret | apply rt_ret | apply w_skip | refine w_cond_t rfl ?_ | refine w_cond_f rfl ?_ | ((first | refine w_cnd rfl ?_ ?_ | refine w_cd rfl ?_ ?_ | refine w_cn rfl ?_ ?_ | refine w_cond rfl ?_ ?_) <;> intro hc) | (exfalso; omega) | (refine l_o ?_; first | refine l_eqnil rfl (by kernel_rfl) (by intro b; simp only [nz]; rfl) (fun b hb => ?_) | refine l_op rfl (by first | (apply k_rem; first | exact ops_remn (m := r) (n := Q.length) rfl rfl (by omega) | fail) | (apply k_callf; first | exact ops_callf (d := 133) (hfc := hR) | exact ops_callf (d := 157) (hfc := hT) | exact ops_callf (d := 163) (hfc := hU) | exact ops_callf (d := 151) (hfc := hA) | fail) | fail) (hk := ?_) | refine l_op (hk := ?_) | (refine l_g ?_; first | refine l_y rfl rfl rfl ?_ | refine l_n rfl rfl rfl rfl (hk := ?_) | refine l_n' rfl rfl rfl (hk := ?_) | refine l_spnd rfl rfl rfl (h1 := fun hc => ?_) (h2 := fun hc => ?_) | refine l_spd rfl rfl rfl (h1 := fun hc => ?_) (h2 := fun hc => ?_) | refine l_spn rfl rfl rfl (h1 := fun hc => ?_) (h2 := fun hc => ?_) | refine l_sp rfl rfl rfl (h1 := fun hc => ?_) (h2 := fun hc => ?_))) | refine d_nil ?_ | (refine d_o ?_; first | refine d_fl rfl (by first | exact .pl (by first | (apply q_rem; first | exact fs_remn (m := r) (n := Q.length) rfl rfl (by omega) | fail) | (apply q_callf; first | exact fs_callf (d := 151) (hfc := hA) | fail) | fail) | exact .ye rfl rfl rfl (by first | (apply q_rem; first | exact fs_remn (m := r) (n := Q.length) rfl rfl (by omega) | fail) | (apply q_callf; first | exact fs_callf (d := 151) (hfc := hA) | fail) | fail) | fail) (hk := ?_) | refine d_fl (hk := ?_) | refine d_ef rfl (by first | exact .callf (d := 133) (hfc := hR) | exact .callf (d := 157) (hfc := hT) | exact .callf (d := 163) (hfc := hU) | exact .callfY (d := 133) (hfc := hR) | exact .callfY (d := 157) (hfc := hT) | exact .callfY (d := 163) (hfc := hU) | fail) (hk := ?_) | refine d_ef (hk := ?_) | (refine d_g ?_; first | refine d_spnd rfl rfl rfl (h1 := fun hc => ?_) (h2 := fun hc => ?_) | refine d_spd rfl rfl rfl (h1 := fun hc => ?_) (h2 := fun hc => ?_) | refine d_spn rfl rfl rfl (h1 := fun hc => ?_) (h2 := fun hc => ?_) | refine d_sp rfl rfl rfl (h1 := fun hc => ?_) (h2 := fun hc => ?_))) | (refine w_o ?_; first | refine w_draw (id := 17) (fun _ => true) (fun k => [].contains k) [] 64 (by kernel_rfl) rfl (by kernel_rfl) (by simp [nm, nset, -List.map_take, -List.map_drop]) ?_ | refine w_draw (id := 23) (roL [4]) (fun k => [].contains k) [] 64 (by kernel_rfl) rfl (by kernel_rfl) (by simp [nm, nset, -List.map_take, -List.map_drop]) ?_)
        all_goals
          refine en_one (hf := Tryz.results3) (h := ?_); simp only [lget]; first | refine congrArg RVb ?_ | refine congrArg RVi ?_ | skip
          try simp
  · rw [Bool.not_eq_true] at hgb
    rw [hgb] at hI hS hL
    have hRI := rIntsM_ok [] []
    rw [decide_eq_true rfl] at hRI
    by_cases hb : goodB s m = true
    · rw [hb] at hP
      simp only [reduceIte] at hP
      generalize posB s.toNat m.toNat = P at *
      repeat' first | apply w_seq | apply w_block | apply rb_n | apply rb_ret | apply rb_eq | refine rb_ne (by rfl) ?_ | apply w_exit | apply rt_exit | apply w_region | apply l_nil | apply rt_n | apply w_ret | apply rt_ret | apply w_skip | refine w_cond_t rfl ?_ | refine w_cond_f rfl ?_ | ((first | refine w_cnd rfl ?_ ?_ | refine w_cd rfl ?_ ?_ | refine w_cn rfl ?_ ?_ | refine w_cond rfl ?_ ?_) <;> intro hc) | (exfalso; exact hc rfl) | (exfalso; omega) | (refine l_o ?_; first | refine l_eqnil rfl (by kernel_rfl) (by intro b; simp only [nz]; rfl) (fun b hb => ?_) | refine l_op rfl (by first | (apply k_callf; first | exact ops_callf (d := 33) (hfc := hI) | exact ops_callf (d := 39) (hfc := hS) | exact ops_callf (d := 44) (hfc := hP) | exact ops_callf (d := 50) (hfc := hL) | exact ops_callf (d := 64) (hfc := hRI) | fail) | fail) (hk := ?_) | refine l_op (hk := ?_) | (refine l_g ?_; first | refine l_y rfl rfl rfl ?_ | refine l_n rfl rfl rfl rfl (hk := ?_) | refine l_n' rfl rfl rfl (hk := ?_) | refine l_spnd rfl rfl rfl (h1 := fun hc => ?_) (h2 := fun hc => ?_) | refine l_spd rfl rfl rfl (h1 := fun hc => ?_) (h2 := fun hc => ?_) | refine l_spn rfl rfl rfl (h1 := fun hc => ?_) (h2 := fun hc => ?_) | refine l_sp rfl rfl rfl (h1 := fun hc => ?_) (h2 := fun hc => ?_))) | refine d_nil ?_ | (refine d_o ?_; first | refine d_fl (hk := ?_) | refine d_ef rfl (by first | exact .callf (d := 33) (hfc := hI) | exact .callf (d := 39) (hfc := hS) | exact .callf (d := 44) (hfc := hP) | exact .callf (d := 50) (hfc := hL) | exact .callf (d := 64) (hfc := hRI) | exact .callfY (d := 33) (hfc := hI) | exact .callfY (d := 39) (hfc := hS) | exact .callfY (d := 44) (hfc := hP) | exact .callfY (d := 50) (hfc := hL) | exact .callfY (d := 64) (hfc := hRI) | fail) (hk := ?_) | refine d_ef (hk := ?_) | (refine d_g ?_; first | refine d_spnd rfl rfl rfl (h1 := fun hc => ?_) (h2 := fun hc => ?_) | refine d_spd rfl rfl rfl (h1 := fun hc => ?_) (h2 := fun hc => ?_) | refine d_spn rfl rfl rfl (h1 := fun hc => ?_) (h2 := fun hc => ?_) | refine d_sp rfl rfl rfl (h1 := fun hc => ?_) (h2 := fun hc => ?_))) | (refine w_o ?_; first | refine w_draw (id := 17) (fun _ => true) (fun k => [].contains k) [] 64 (by kernel_rfl) rfl (by kernel_rfl) (by simp [nm, nset, -List.map_take, -List.map_drop]) ?_ | refine w_draw (id := 23) (fun _ => true) (fun k => [13].contains k) [[]] 64 (by kernel_rfl) rfl (by kernel_rfl) (by simp [nm, nset, -List.map_take, -List.map_drop]) ?_)
      refine en_one (hf := Tryz.results3) (h := ?_); simp only [lget]; first | refine congrArg RVb ?_ | refine congrArg RVi ?_ | skip
    · rw [Bool.not_eq_true] at hb
      rw [hb] at hP
      repeat' first | apply w_seq | apply w_block | apply rb_n | apply rb_ret | apply rb_eq | refine rb_ne (by rfl) ?_ | apply w_exit | apply rt_exit | apply w_region | apply l_nil | apply rt_n | apply w_ret | apply rt_ret | apply w_skip | refine w_cond_t rfl ?_ | refine w_cond_f rfl ?_ | ((first | refine w_cnd rfl ?_ ?_ | refine w_cd rfl ?_ ?_ | refine w_cn rfl ?_ ?_ | refine w_cond rfl ?_ ?_) <;> intro hc) | (exfalso; exact hc rfl) | (exfalso; omega) | (refine l_o ?_; first | refine l_eqnil rfl (by kernel_rfl) (by intro b; simp only [nz]; rfl) (fun b hb => ?_) | refine l_op rfl (by first | (apply k_callf; first | exact ops_callf (d := 33) (hfc := hI) | exact ops_callf (d := 39) (hfc := hS) | exact ops_callf (d := 44) (hfc := hP) | exact ops_callf (d := 50) (hfc := hL) | exact ops_callf (d := 64) (hfc := hRI) | fail) | fail) (hk := ?_) | refine l_op (hk := ?_) | (refine l_g ?_; first | refine l_y rfl rfl rfl ?_ | refine l_n rfl rfl rfl rfl (hk := ?_) | refine l_n' rfl rfl rfl (hk := ?_) | refine l_spnd rfl rfl rfl (h1 := fun hc => ?_) (h2 := fun hc => ?_) | refine l_spd rfl rfl rfl (h1 := fun hc => ?_) (h2 := fun hc => ?_) | refine l_spn rfl rfl rfl (h1 := fun hc => ?_) (h2 := fun hc => ?_) | refine l_sp rfl rfl rfl (h1 := fun hc => ?_) (h2 := fun hc => ?_))) | refine d_nil ?_ | (refine d_o ?_; first | refine d_fl (hk := ?_) | refine d_ef rfl (by first | exact .callf (d := 33) (hfc := hI) | exact .callf (d := 39) (hfc := hS) | exact .callf (d := 44) (hfc := hP) | exact .callf (d := 50) (hfc := hL) | exact .callf (d := 64) (hfc := hRI) | exact .callfY (d := 33) (hfc := hI) | exact .callfY (d := 39) (hfc := hS) | exact .callfY (d := 44) (hfc := hP) | exact .callfY (d := 50) (hfc := hL) | exact .callfY (d := 64) (hfc := hRI) | fail) (hk := ?_) | refine d_ef (hk := ?_) | (refine d_g ?_; first | refine d_spnd rfl rfl rfl (h1 := fun hc => ?_) (h2 := fun hc => ?_) | refine d_spd rfl rfl rfl (h1 := fun hc => ?_) (h2 := fun hc => ?_) | refine d_spn rfl rfl rfl (h1 := fun hc => ?_) (h2 := fun hc => ?_) | refine d_sp rfl rfl rfl (h1 := fun hc => ?_) (h2 := fun hc => ?_))) | (refine w_o ?_; first | refine w_draw (id := 17) (fun _ => true) (fun k => [].contains k) [] 64 (by kernel_rfl) rfl (by kernel_rfl) (by simp [nm, nset, -List.map_take, -List.map_drop]) ?_ | refine w_draw (id := 23) (fun _ => true) (fun k => [13].contains k) [[]] 64 (by kernel_rfl) rfl (by kernel_rfl) (by simp [nm, nset, -List.map_take, -List.map_drop]) ?_)
      refine en_one (hf := Tryz.results3) (h := ?_); simp only [lget]; first | refine congrArg RVb ?_ | refine congrArg RVi ?_ | skip
end Go.Proofs.YtmfbcipjknjicaaGreatDoor
