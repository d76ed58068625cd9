/- The law FnClassSums answers true. For all bytes. -/
import Derived.Test.YtmfbcipjknjicaaGreatJ45
import Derived.Test.YtmfbcipjknjicaaGreatLawB
import Derived.Test.YtmfbcipjknjicaaGreatQuoI
import Derived.Test.YtmfbcipjknjicaaGreatSpY
namespace Go.Proofs.YtmfbcipjknjicaaGreat
open Eng
attribute [local irreducible] OpS OpG FC FCr Rel Fl Ef DR Fs
attribute [local simp] RV.fzR_names
set_option linter.unusedSimpArgs false
set_option linter.unusedVariables false
set_option maxHeartbeats 0
set_option maxRecDepth 100000

theorem drawCS_ok (code : List UInt8) : FC Tryz.prog 11 [RYs code] [] (fun rv O => ∃ x : (List Int × (Int × Int)) × (Int × Int), (x.1.1.length ≤ 60 ∧ -1000 ≤ x.2.1 ∧ x.2.1 ≤ 1000 ∧ -1000 ≤ x.2.2 ∧ x.2.2 ≤ 1000) ∧ rv = .tup [OIs x.1.1, RBx x.1.2.1 x.1.2.2, RVi x.2.1, RVi x.2.2] ∧ O = []) := by
  have q1 := drawCodeD_ok ⟨code, 0, 0⟩ (by show (0 : Nat) ≤ _; omega)
  refine (fc_in Tryz.func11 rfl (by simp only [Tryz.ntmps11, anys, List.length_cons, List.length_nil, Nat.reduceAdd, Nat.reduceSub, List.replicate_succ, List.replicate_zero, List.cons_append, List.nil_append] <;> rfl) ?_)
  repeat' first
    | refine w_seq ?_
    | refine w_region ?_
    | refine l_nil ?_
    | refine rt_n ?_
    | refine w_ret ?_
    | refine rt_ret ?_
    | refine w_skip ?_
    | (refine l_o ?_; first | refine l_op (hk := ?_))
    | refine d_nil ?_
    | (refine d_o ?_; first | refine d_fl (hk := ?_) | refine d_ef (hk := ?_))
    | (refine w_o ?_; first | refine w_draw (id := 4) (fun _ => true) (fun k => [3, 6, 9].contains k) [[], [], []] 64 (by kernel_rfl) rfl (by kernel_rfl) (by simp [nm, nset, -List.map_take, -List.map_drop]) ?_)
  refine l_callPx (ME 0) (fun x => OIs x.1) 11 (fun x => [RCur x.2]) q1 (hk := fun x hx => ?_)
  obtain ⟨d, c1⟩ := x
  obtain ⟨d1, d2⟩ := hx
  dsimp only at d1 d2 ⊢
  repeat' first
    | refine w_seq ?_
    | refine w_region ?_
    | refine l_nil ?_
    | refine rt_n ?_
    | refine w_ret ?_
    | refine rt_ret ?_
    | refine w_skip ?_
    | (refine l_o ?_; first | refine l_op (hk := ?_))
    | refine d_nil ?_
    | (refine d_o ?_; first | refine d_fl (hk := ?_) | refine d_ef (hk := ?_))
    | (refine w_o ?_; first | refine w_draw (id := 4) (fun _ => true) (fun k => [3, 6, 9].contains k) [[], [], []] 64 (by kernel_rfl) rfl (by kernel_rfl) (by simp [nm, nset, -List.map_take, -List.map_drop]) ?_)
  have q2 := drawBox_ok c1 (by omega)
  refine l_callPx (fun x : (Int × Int) × Cur => x.2.at_ ≤ c1.at_ + 2000) (fun x => RBx x.1.1 x.1.2) 11 (fun x => [RCur x.2]) q2 (hk := fun x hx => ?_)
  obtain ⟨⟨s, m⟩, c2⟩ := x
  dsimp only at hx ⊢
  have p3 := pick_ok c2 11 (by omega) (by omega)
  have v3 := pickV_lt c2 11 (by omega)
  have a3 := pickC_at c2 11
  generalize pickV c2 11 = i at *
  generalize pickC c2 11 = c3 at *
  have p4 := pick_ok c3 11 (by omega) (by omega)
  have v4 := pickV_lt c3 11 (by omega)
  generalize pickV c3 11 = k at *
  generalize pickC c3 11 = c4 at *
  repeat' first
    | refine w_seq ?_
    | refine w_region ?_
    | refine l_nil ?_
    | refine rt_n ?_
    | refine w_ret ?_
    | refine rt_ret ?_
    | refine w_skip ?_
    | (refine l_o ?_; first | refine l_op rfl (by first | (apply k_callf; first | exact ops_callP (d := 19) 11 [RCur c3] (hfc := p3) | exact ops_callP (d := 22) 11 [RCur c4] (hfc := p4) | fail) | fail) (hk := ?_) | refine l_op (hk := ?_))
    | refine e_nil ?_
    | (refine e_o ?_; first | refine e_fl (hk := ?_) | refine e_ef rfl (by first | exact .callP (d := 19) 11 [RCur c3] (hfc := p3) | exact .callP (d := 22) 11 [RCur c4] (hfc := p4) | fail) (hk := ?_) | refine e_ef (hk := ?_))
    | (refine w_o ?_; first | refine w_drawS (id := 4) (rdP [(1,8)]) (fun k => [3, 6, 9].contains k) [[],[],[]] (by kernel_rfl) rfl (by kernel_rfl) (by simp [nm, nset, -List.map_take, -List.map_drop]) ?_)
  refine en_ex ((d, (s, m)), ((i : Int) - 1, (k : Int) - 1)) (by dsimp only; omega) ?_
  refine en_endm ([(8, 2, [.agg [RVi s, RVi m]]), (11, 3, [RCur c4]), (3, 2, [.agg [RVi s, RVi m]])]) (hf := Tryz.results11) (hO := ?_) (hr := ?_)
  · rfl
  · rfl
theorem csB_comm (c : List Int) (s m i k : Int) : csB c s m i k = csB c s m k i := by
  unfold csB
  congr 1
  rw [Bool.eq_iff_iff]
  simp only [Bool.and_eq_true, decide_eq_true_eq]
  omega
theorem csR_comm (c : List Int) (s m i k : Int) : csR c s m i k = csR c s m k i := by
  unfold csR
  rw [csB_comm, togH_comm]
theorem csR_ex (c : List Int) (s m i k : Int) : ∃ v o, csR c s m i k = .tup [RVi v, RVb o] := by
  unfold csR
  split
  · exact cofR_ok c s m _
  · exact ⟨_, _, rfl⟩
theorem csR_bad {c : List Int} {s m i k : Int} (h : csB c s m i k = false) : csR c s m i k = .tup [RVi 0, RVb false] := by
  unfold csR
  rw [h]; rfl
/-- With nothing, the class of a sum is the one that stands there. -/
theorem csR_zero {c : List Int} {a b n : Nat} (hg : gcode c = true) (hb : goodB a b = true) (h3 : a ≤ 6) (h4 : b ≤ 6) (h5 : a * b ≤ 6) (hn : n < (posB a b).length) : csR c a b n 0 = .tup [RVi ((quL (sgL c a b))[n]'(by rw [quL_len, sgL_len]; exact hn)), RVb true] := by
  obtain ⟨r, hr⟩ := posB_zero a b
  have hlen : 0 < (posB a b).length := by omega
  have hcs : csB c a b n 0 = true := by
    unfold csB
    rw [hg, hb, Int.toNat_natCast, Int.toNat_natCast, decide_eq_true (show (0 : Int) ≤ (n : Int) by omega), decide_eq_true (show (n : Int) < ((posB a b).length : Nat) by omega), decide_eq_true (show (0 : Int) ≤ 0 by omega), decide_eq_true (show (0 : Int) < ((posB a b).length : Nat) by omega)]
    rfl
  have hmem := List.getElem_mem hn
  obtain ⟨hok, hsum⟩ := posB_okS h3 h4 h5 hmem
  obtain ⟨p1, p2, p3⟩ := posB_mem hmem
  have et : togH ((posB a b).getD n []) ((posB a b).getD 0 []) = (posB a b)[n] := by
    rw [List.getD_eq_getElem?_getD, List.getElem?_eq_getElem hn, Option.getD_some]
    have : (posB a b).getD 0 [] = [] := by rw [hr]; rfl
    rw [this, togH_nil p3]
    exact fillH_id fun x hx => (p2 x hx).1
  have hadm : admB c a b (posB a b)[n] = true := by
    unfold admB
    have e : (20 : Int) - (a : Int) * (b : Int) = 20 - ((a * b : Nat) : Int) := by rw [Int.natCast_mul]
    rw [e, hg, hb, hok.1, decide_eq_true (by have := hok.2; omega)]; rfl
  obtain ⟨j, hj, h1, h2, _⟩ := quL_at (L := sgL c a b) (i := n) (by rw [sgL_len]; exact hn)
  have hcl : clsB c a b (posB a b)[n] = (quL (sgL c a b))[n]'(by rw [quL_len, sgL_len]; exact hn) := by
    rw [clsB_fs]
    simp only [quL, List.getElem_map, sgL]
  unfold csR
  rw [hcs, if_pos rfl, Int.toNat_natCast, Int.toNat_natCast, Int.toNat_natCast, show ((0 : Int)).toNat = 0 from rfl, et]
  unfold cofR
  rw [hadm, if_pos rfl, Int.toNat_natCast, Int.toNat_natCast, hcl, h1, Int.max_eq_left (by omega), decide_eq_true (by omega)]
theorem lawCSs_ok (code : List UInt8) : FCr Tryz.prog 4 [RYs code] (RVb true) := by
  have hB := rBigQ_ok code
  have hD := drawCS_ok code
  by_cases hbig : (65536 : Int) < (code.length : Nat)
  · rw [decide_eq_true hbig] at hB
    refine (fcr_in Tryz.func4 rfl (by simp only [Tryz.ntmps4, anys, List.length_cons, List.length_nil, Nat.reduceAdd, Nat.reduceSub, List.replicate_succ, List.replicate_zero, List.cons_append, List.nil_append] <;> rfl) ?_)
    repeat' first
      | refine w_seq ?_
      | refine w_region ?_
      | refine l_nil ?_
      | refine rt_n ?_
      | refine w_ret ?_
      | refine rt_ret ?_
      | refine w_skip ?_
      | refine w_cond_t rfl ?_
      | refine w_cond_f rfl ?_
      | refine w_cnd rfl (fun hc => ?_) (fun hc => ?_)
      | refine w_cd rfl (fun hc => ?_) (fun hc => ?_)
      | refine w_cn rfl (fun hc => ?_) (fun hc => ?_)
      | refine w_cond rfl (fun hc => ?_) (fun hc => ?_)
      | (refine l_o ?_; first | refine l_eqnil rfl (by kernel_rfl) (by intro b; simp only [nz]; rfl) (fun b hb => ?_) | refine l_op rfl (by first | (apply k_callf; first | exact ops_callf (hfc := hB) | fail) | fail) (hk := ?_) | refine l_op (hk := ?_) | (refine l_g ?_; first | refine l_y rfl rfl rfl ?_ | refine l_n rfl rfl rfl rfl (hk := ?_) | refine l_n' rfl rfl rfl (hk := ?_) | refine l_spnd rfl rfl rfl (h1 := fun hc => ?_) (h2 := fun hc => ?_) | refine l_spd rfl rfl rfl (h1 := fun hc => ?_) (h2 := fun hc => ?_) | refine l_spn rfl rfl rfl (h1 := fun hc => ?_) (h2 := fun hc => ?_) | refine l_sp rfl rfl rfl (h1 := fun hc => ?_) (h2 := fun hc => ?_)))
    refine en_one (hf := Tryz.results4) (h := ?_); simp only [lget]; first | refine congrArg RVb ?_ | refine congrArg RVi ?_ | skip
  rw [decide_eq_false hbig] at hB
  refine (fcr_in Tryz.func4 rfl (by simp only [Tryz.ntmps4, anys, List.length_cons, List.length_nil, Nat.reduceAdd, Nat.reduceSub, List.replicate_succ, List.replicate_zero, List.cons_append, List.nil_append] <;> rfl) ?_)
  repeat' first
    | refine w_seq ?_
    | refine w_region ?_
    | refine l_nil ?_
    | refine rt_n ?_
    | refine w_ret ?_
    | refine rt_ret ?_
    | refine w_skip ?_
    | refine w_cond_t rfl ?_
    | refine w_cond_f rfl ?_
    | refine w_cnd rfl (fun hc => ?_) (fun hc => ?_)
    | refine w_cd rfl (fun hc => ?_) (fun hc => ?_)
    | refine w_cn rfl (fun hc => ?_) (fun hc => ?_)
    | refine w_cond rfl (fun hc => ?_) (fun hc => ?_)
    | (refine l_o ?_; first | refine l_eqnil rfl (by kernel_rfl) (by intro b; simp only [nz]; rfl) (fun b hb => ?_) | refine l_op rfl (by first | (apply k_callf; first | exact ops_callf (hfc := hB) | fail) | fail) (hk := ?_) | refine l_op (hk := ?_) | (refine l_g ?_; first | refine l_y rfl rfl rfl ?_ | refine l_n rfl rfl rfl rfl (hk := ?_) | refine l_n' rfl rfl rfl (hk := ?_) | refine l_spnd rfl rfl rfl (h1 := fun hc => ?_) (h2 := fun hc => ?_) | refine l_spd rfl rfl rfl (h1 := fun hc => ?_) (h2 := fun hc => ?_) | refine l_spn rfl rfl rfl (h1 := fun hc => ?_) (h2 := fun hc => ?_) | refine l_sp rfl rfl rfl (h1 := fun hc => ?_) (h2 := fun hc => ?_)))
  refine l_callX _ _ hD (hk := fun x hx => ?_)
  obtain ⟨⟨c, s, m⟩, i, k⟩ := x
  obtain ⟨hcl, hi1, hi2, hk1, hk2⟩ := hx
  dsimp only at hcl hi1 hi2 hk1 hk2 ⊢
  refine l_le _ (le_freeze 1021 rfl (by simp only [nz, nf, nl, nb, nr, ng, nq, nu, reduceIte, Nat.reduceEqDiff, Nat.reduceAdd]; rfl) (by simp only [nz, nf, nl, nb, nr, ng, nq, nu, reduceIte, Nat.reduceEqDiff, Nat.reduceAdd]; rfl)) ?_
  have hI := classSum_ok c s m i k (by omega)
  have hS := sClassSum_ok c s m i k (by omega)
  have hK := classSum_ok c s m k i (by omega)
  have hZ := classSum_ok c s m i 0 (by omega)
  have hQ := quotientOf_ok c s m (by omega)
  rw [csR_comm c s m k i] at hK
  obtain ⟨v, o, e⟩ := csR_ex c s m i k
  by_cases hgb : (gcode c && goodB s m) = true
  · simp only [Bool.and_eq_true] at hgb
    obtain ⟨hg, hb⟩ := hgb
    have hb0 := hb
    obtain ⟨a, b, rfl, rfl, h1, h2, h3, h4, h5⟩ := goodB_nat hb
    unfold quoR at hQ
    rw [hg, hb, Int.toNat_natCast, Int.toNat_natCast, Bool.and_self, if_pos rfl] at hQ
    have hlen := quL_len (sgL c a b)
    rw [sgL_len] at hlen
    have hpl : (posB a b).length ≤ 1000000 := by have := posT_len h3 (b + 1) (by omega); unfold posB; omega
    by_cases hin : 0 ≤ i ∧ i < ((posB a b).length : Nat)
    · obtain ⟨n, rfl⟩ : ∃ n : Nat, i = n := ⟨i.toNat, by omega⟩
      have hz := csR_zero (n := n) hg hb0 h3 h4 h5 (by omega)
      rw [hz] at hZ
      rw [e] at hI hS hK
      clear hz e
      have hnl : n < (quL (sgL c a b)).length := by omega
      have hz2 : (quL (sgL c a b))[n]? = some ((quL (sgL c a b))[n]'hnl) := List.getElem?_eq_getElem hnl
      generalize (quL (sgL c a b))[n]'hnl = z at hZ hz2
      generalize quL (sgL c a b) = Z at *
      obtain rfl : Z[n]'hnl = z := (List.getElem?_eq_some_iff.1 hz2).2
      clear hz2
      cases o
      all_goals
        repeat' first
          | refine w_seq ?_
          | refine w_region ?_
          | refine l_nil ?_
          | refine rt_n ?_
          | refine w_ret ?_
          | refine rt_ret ?_
          | refine w_skip ?_
          | refine w_cond_t rfl ?_
          | refine w_cond_f rfl ?_
          | refine w_cnd rfl (fun hc => ?_) (fun hc => ?_)
          | refine w_cd rfl (fun hc => ?_) (fun hc => ?_)
          | refine w_cn rfl (fun hc => ?_) (fun hc => ?_)
          | refine w_cond rfl (fun hc => ?_) (fun hc => ?_)
          | (exfalso; omega)
          | (exfalso; exact hc rfl)
          | (refine l_o ?_; first | refine l_eqnil rfl (by kernel_rfl) (by intro b; simp only [nz]; rfl) (fun b hb => ?_) | refine l_op rfl (by first | (apply k_callf; first | exact ops_callf (d := 31) (hfc := hI) | exact ops_callf (d := 39) (hfc := hS) | exact ops_callf (d := 47) (hfc := hK) | exact ops_callf (d := 71) (hfc := hQ) | exact ops_callf (d := 78) (hfc := hZ) | fail) | fail) (hk := ?_) | refine l_op (hk := ?_) | (refine l_g ?_; first | refine l_y rfl rfl rfl ?_ | refine l_n rfl rfl rfl rfl (hk := ?_) | refine l_n' rfl rfl rfl (hk := ?_) | refine l_spnd rfl rfl rfl (h1 := fun hc => ?_) (h2 := fun hc => ?_) | refine l_spd rfl rfl rfl (h1 := fun hc => ?_) (h2 := fun hc => ?_) | refine l_spn rfl rfl rfl (h1 := fun hc => ?_) (h2 := fun hc => ?_) | refine l_sp rfl rfl rfl (h1 := fun hc => ?_) (h2 := fun hc => ?_)))
        refine en_one (hf := Tryz.results4) (h := ?_); simp only [lget]; first | refine congrArg RVb ?_ | refine congrArg RVi ?_ | skip
        try rfl
    · have hz := csR_bad (c := c) (s := a) (m := b) (i := i) (k := 0) (by
        cases hbb : csB c a b i 0 with
        | false => rfl
        | true =>
          unfold csB at hbb
          simp only [Bool.and_eq_true, decide_eq_true_eq, Int.toNat_natCast] at hbb
          omega)
      rw [hz] at hZ
      rw [e] at hI hS hK
      clear hz e
      generalize quL (sgL c a b) = Z at *
      by_cases hi0 : i < 0
      all_goals
        cases o
        all_goals
          repeat' first
            | refine w_seq ?_
            | refine w_region ?_
            | refine l_nil ?_
            | refine rt_n ?_
            | refine w_ret ?_
            | refine rt_ret ?_
            | refine w_skip ?_
            | refine w_cond_t rfl ?_
            | refine w_cond_f rfl ?_
            | refine w_cnd rfl (fun hc => ?_) (fun hc => ?_)
            | refine w_cd rfl (fun hc => ?_) (fun hc => ?_)
            | refine w_cn rfl (fun hc => ?_) (fun hc => ?_)
            | refine w_cond rfl (fun hc => ?_) (fun hc => ?_)
            | (exfalso; omega)
            | (exfalso; exact hc rfl)
            | (refine l_o ?_; first | refine l_eqnil rfl (by kernel_rfl) (by intro b; simp only [nz]; rfl) (fun b hb => ?_) | refine l_op rfl (by first | (apply k_callf; first | exact ops_callf (d := 31) (hfc := hI) | exact ops_callf (d := 39) (hfc := hS) | exact ops_callf (d := 47) (hfc := hK) | exact ops_callf (d := 71) (hfc := hQ) | exact ops_callf (d := 78) (hfc := hZ) | fail) | fail) (hk := ?_) | refine l_op (hk := ?_) | (refine l_g ?_; first | refine l_y rfl rfl rfl ?_ | refine l_n rfl rfl rfl rfl (hk := ?_) | refine l_n' rfl rfl rfl (hk := ?_) | refine l_spnd rfl rfl rfl (h1 := fun hc => ?_) (h2 := fun hc => ?_) | refine l_spd rfl rfl rfl (h1 := fun hc => ?_) (h2 := fun hc => ?_) | refine l_spn rfl rfl rfl (h1 := fun hc => ?_) (h2 := fun hc => ?_) | refine l_sp rfl rfl rfl (h1 := fun hc => ?_) (h2 := fun hc => ?_)))
          refine en_one (hf := Tryz.results4) (h := ?_); simp only [lget]; first | refine congrArg RVb ?_ | refine congrArg RVi ?_ | skip
          try rfl
  · rw [Bool.not_eq_true] at hgb
    have hbad : ∀ i k, csB c s m i k = false := fun i k => by unfold csB; rw [hgb]; rfl
    rw [csR_bad (hbad _ _)] at hI hS hK hZ
    unfold quoR at hQ
    rw [hgb, if_neg (by simp)] at hQ
    repeat' first
      | refine w_seq ?_
      | refine w_region ?_
      | refine l_nil ?_
      | refine rt_n ?_
      | refine w_ret ?_
      | refine rt_ret ?_
      | refine w_skip ?_
      | refine w_cond_t rfl ?_
      | refine w_cond_f rfl ?_
      | refine w_cnd rfl (fun hc => ?_) (fun hc => ?_)
      | refine w_cd rfl (fun hc => ?_) (fun hc => ?_)
      | refine w_cn rfl (fun hc => ?_) (fun hc => ?_)
      | refine w_cond rfl (fun hc => ?_) (fun hc => ?_)
      | (exfalso; omega)
      | (exfalso; exact hc rfl)
      | (refine l_o ?_; first | refine l_eqnil rfl (by kernel_rfl) (by intro b; simp only [nz]; rfl) (fun b hb => ?_) | refine l_op rfl (by first | (apply k_callf; first | exact ops_callf (d := 31) (hfc := hI) | exact ops_callf (d := 39) (hfc := hS) | exact ops_callf (d := 47) (hfc := hK) | exact ops_callf (d := 71) (hfc := hQ) | exact ops_callf (d := 78) (hfc := hZ) | fail) | fail) (hk := ?_) | refine l_op (hk := ?_) | (refine l_g ?_; first | refine l_y rfl rfl rfl ?_ | refine l_n rfl rfl rfl rfl (hk := ?_) | refine l_n' rfl rfl rfl (hk := ?_) | refine l_spnd rfl rfl rfl (h1 := fun hc => ?_) (h2 := fun hc => ?_) | refine l_spd rfl rfl rfl (h1 := fun hc => ?_) (h2 := fun hc => ?_) | refine l_spn rfl rfl rfl (h1 := fun hc => ?_) (h2 := fun hc => ?_) | refine l_sp rfl rfl rfl (h1 := fun hc => ?_) (h2 := fun hc => ?_)))
    refine en_one (hf := Tryz.results4) (h := ?_); simp only [lget]; first | refine congrArg RVb ?_ | refine congrArg RVi ?_ | skip
    try rfl
end Go.Proofs.YtmfbcipjknjicaaGreat
