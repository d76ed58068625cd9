/- The law FnLoopTexts answers true. For all bytes. -/
import Derived.Test.YtpcckakchpblcaaGreatDoorDraws
import Derived.Test.YtpcckakchpblcaaGreatDoorJ43
import Derived.Test.YtpcckakchpblcaaGreatDoorRdLpP
namespace Go.Proofs.YtpcckakchpblcaaGreatDoor
open Eng
attribute [local irreducible] OpS OpG FC FCr Rel Fl Ef DR Fs
attribute [local simp] RV.fzR_names
set_option linter.unusedSimpArgs false
set_option linter.unusedVariables false
set_option maxHeartbeats 0
set_option maxRecDepth 100000

theorem rListsT_ok (l m : List (List Int)) : FCr Tryz.prog 10 [RIss l, RIss m] (RVb (decide (l = m))) := by
  refine fcr_lens fun hL => ?_
  simp only [lnk] at hL
  refine (fcr_in Tryz.func10 rfl (by simp only [Tryz.ntmps10, anys, List.length_cons, List.length_nil, Nat.reduceAdd, Nat.reduceSub, List.replicate_succ, List.replicate_zero, List.cons_append, List.nil_append] <;> rfl) ?_)
  repeat' first
    | refine w_seq ?_
    | refine w_block ?_
    | refine rb_n ?_
    | refine rb_ret ?_
    | refine rb_eq ?_
    | refine rb_ne (by rfl) ?_
    | refine w_exit ?_
    | refine rt_exit ?_
    | refine w_region ?_
    | refine l_nil ?_
    | refine rt_n ?_
    | refine w_ret ?_
    | refine rt_ret ?_
    | refine w_skip ?_
    | refine w_cond_t rfl ?_
    | refine w_cond_f rfl ?_
    | refine w_cnd rfl (fun hc => ?_) (fun hc => ?_)
    | refine w_cd rfl (fun hc => ?_) (fun hc => ?_)
    | refine w_cn rfl (fun hc => ?_) (fun hc => ?_)
    | refine w_cond rfl (fun hc => ?_) (fun hc => ?_)
    | (refine l_o ?_; first | refine l_op (hk := ?_))
    | refine d_nil ?_
    | (refine d_o ?_; first | refine d_fl (hk := ?_) | refine d_ef (hk := ?_))
    | (refine w_o ?_; first | refine w_draw (id := 6) (fun _ => true) (fun k => [8].contains k) [[]] 64 (by kernel_rfl) rfl (by kernel_rfl) (by simp [nm, nset, -List.map_take, -List.map_drop]) ?_)
  · refine en_one (hf := Tryz.results10) (h := ?_); simp only [lget]; first | refine congrArg RVb ?_ | refine congrArg RVi ?_ | skip
    grind
  have hn : l.length = m.length := by omega
  clear hc
  refine w_loopm (ι := Nat) (fun k => [(5, RVi k)]) (fun _ => []) (fun k => k ≤ l.length ∧ ((l.drop k = m.drop k) ↔ l = m)) (fun k => l.length - k) 0 (h0 := ?_) (hs := ?_) (round := ?_)
  · simp
  · refine le_eq (by (repeat' first | exact .nil | refine .keep ?_ | refine .any ?_); first | done | fail) rfl rfl
  · intro k ⟨hk, hg⟩
    repeat' first
      | refine w_seq ?_
      | refine w_block ?_
      | refine rb_n ?_
      | refine rb_ret ?_
      | refine rb_eq ?_
      | refine rb_ne (by rfl) ?_
      | refine w_exit ?_
      | refine rt_exit ?_
      | refine w_region ?_
      | refine l_nil ?_
      | refine rt_n ?_
      | refine w_ret ?_
      | refine rt_ret ?_
      | refine w_skip ?_
      | refine w_cond_t rfl ?_
      | refine w_cond_f rfl ?_
      | refine w_cnd rfl (fun hc => ?_) (fun hc => ?_)
      | refine w_cd rfl (fun hc => ?_) (fun hc => ?_)
      | refine w_cn rfl (fun hc => ?_) (fun hc => ?_)
      | refine w_cond rfl (fun hc => ?_) (fun hc => ?_)
      | (refine l_o ?_; first | refine l_op rfl (by first | (apply k_callf; first | exact ops_callf (hfc := rInts_ok _ _) | fail) | fail) (hk := ?_) | refine l_op (hk := ?_))
      | refine d_nil ?_
      | (refine d_o ?_; first | refine d_fl (hk := ?_) | refine d_ef rfl (by first | exact .callf (hfc := rInts_ok _ _) | fail) (hk := ?_) | refine d_ef (hk := ?_))
      | (refine w_o ?_; first | refine w_draw (id := 6) (fun _ => true) (fun k => [8].contains k) [[]] 64 (by kernel_rfl) rfl (by kernel_rfl) (by simp [nm, nset, -List.map_take, -List.map_drop]) ?_)
    · refine en_one (hf := Tryz.results10) (h := ?_); simp only [lget]; first | refine congrArg RVb ?_ | refine congrArg RVi ?_ | skip
      grind [drop_both]
    · refine rn_mk (k + 1) ?_ (by first | omega | (dsimp only; omega)) (le_eq (by (repeat' first | exact .nil | refine .keep ?_ | refine .any ?_); first | done | fail) rfl rfl)
      grind [drop_both]
    · refine en_one (hf := Tryz.results10) (h := ?_); simp only [lget]; first | refine congrArg RVb ?_ | refine congrArg RVi ?_ | skip
      grind [dn]
/-- What is written is read back. -/
theorem text_read {A B : List (List Int)} {s : List UInt8} (h : lpText A B = some s) : readLp s = some (A, B) := by
  unfold lpText at h
  split at h
  · rename_i hg
    split at h
    · cases h
    · rename_i h4
      rw [← Option.some.inj h]
      exact readLp_lpT hg (by omega)
  · cases h
theorem drawJn_ok (code : List UInt8) : ∃ (gL gR hL hR : List (List Int)), FCr Tryz.prog 6 [RYs code] (.tup [OLp gL gR, OLp hL hR]) := by
  have h1 := loose_ok (cur0 code) 5 (by simp) (by omega) (by omega)
  have a1 := loose_at (cur0 code) 5 (by omega)
  have h2 := loose_ok (loose (cur0 code) 5).1 7 (by simp at a1; omega) (by omega) (by omega)
  generalize loose (cur0 code) 5 = q at *
  generalize loose q.1 7 = z at *
  obtain ⟨c1, L, R⟩ := q
  obtain ⟨c2, L2, R2⟩ := z
  dsimp only at *
  refine ⟨L, R, L2, R2, ?_⟩
  refine (fcr_in Tryz.func6 rfl (by simp only [Tryz.ntmps6, anys, List.length_cons, List.length_nil, Nat.reduceAdd, Nat.reduceSub, List.replicate_succ, List.replicate_zero, List.cons_append, List.nil_append] <;> rfl) ?_)
  repeat' first
    | refine w_seq ?_
    | refine w_region ?_
    | refine l_nil ?_
    | refine rt_n ?_
    | refine w_ret ?_
    | refine rt_ret ?_
    | refine w_skip ?_
    | (refine l_o ?_; first | refine l_op rfl (by first | (apply k_callf; first | exact ops_callP (d := 9) 7 [RCur c1] (hfc := h1) | exact ops_callP (d := 11) 7 [RCur c2] (hfc := h2) | fail) | fail) (hk := ?_) | refine l_op (hk := ?_))
  refine en_end (hf := Tryz.results6) (hr := ?_); simp only [ne, nf, nl, nr, lget, reduceIte, Nat.reduceEqDiff]; first | rfl | refine congrArg RVb ?_ | refine congrArg RVi ?_ | skip
theorem lawTexts_ok (code : List UInt8) : FCr Tryz.prog 3 [RYs code] (RVb true) := by
  have hB := rBig_ok code
  by_cases hb : (65536 : Int) < (code.length : Nat)
  · rw [decide_eq_true hb] at hB
    refine (fcr_in Tryz.func3 rfl (by simp only [Tryz.ntmps3, anys, List.length_cons, List.length_nil, Nat.reduceAdd, Nat.reduceSub, List.replicate_succ, List.replicate_zero, List.cons_append, List.nil_append] <;> rfl) ?_)
    repeat' first
      | refine w_seq ?_
      | refine w_region ?_
      | refine l_nil ?_
      | refine rt_n ?_
      | refine w_ret ?_
      | refine rt_ret ?_
      | refine w_skip ?_
      | refine w_cond_t rfl ?_
      | refine w_cond_f rfl ?_
      | refine w_cnd rfl (fun hc => ?_) (fun hc => ?_)
      | refine w_cd rfl (fun hc => ?_) (fun hc => ?_)
      | refine w_cn rfl (fun hc => ?_) (fun hc => ?_)
      | refine w_cond rfl (fun hc => ?_) (fun hc => ?_)
      | (refine l_o ?_; first | refine l_eqnil rfl (by kernel_rfl) (by intro b; simp only [nz]; rfl) (fun b hb => ?_) | refine l_op rfl (by first | (apply k_callf; first | exact ops_callf (hfc := hB) | fail) | fail) (hk := ?_) | refine l_op (hk := ?_) | (refine l_g ?_; first | refine l_y rfl rfl rfl ?_ | refine l_n rfl rfl rfl rfl (hk := ?_) | refine l_n' rfl rfl rfl (hk := ?_) | refine l_spnd rfl rfl rfl (h1 := fun hc => ?_) (h2 := fun hc => ?_) | refine l_spd rfl rfl rfl (h1 := fun hc => ?_) (h2 := fun hc => ?_) | refine l_spn rfl rfl rfl (h1 := fun hc => ?_) (h2 := fun hc => ?_) | refine l_sp rfl rfl rfl (h1 := fun hc => ?_) (h2 := fun hc => ?_)))
    refine en_one (hf := Tryz.results3) (h := ?_); simp only [lget]; first | refine congrArg RVb ?_ | refine congrArg RVi ?_ | skip
  · rw [decide_eq_false hb] at hB
    obtain ⟨gL, gR, hL, hR, hD⟩ := drawJn_ok code
    have hT := implText_ok gL gR
    have hTs := specText_ok gL gR
    have hJ := implJoin_ok gL gR hL hR
    have hJs := specJoin_ok gL gR hL hR
    have hRd := implRead_ok ((lpText gL gR).getD [])
    rw [loose_eq] at hRd
    have r1 := rListsT_ok gL gL
    have r2 := rListsT_ok gR gR
    have r3 := rListsT_ok (joA gL gR hL hR) (joA gL gR hL hR)
    have r4 := rListsT_ok (joB gL gR hL hR) (joB gL gR hL hR)
    rw [decide_eq_true rfl] at r1 r2 r3 r4
    have hG := implGood_ok (joA gL gR hL hR) (joB gL gR hL hR)
    have hgl : joOk gL gR hL hR = true → goodLp (joA gL gR hL hR) (joB gL gR hL hR) = true ∧ (joA gL gR hL hR).length = gL.length * hL.length := fun h => by
      have e := jo_yes h
      rw [e.1, e.2, jn_len]
      simp only [joOk, Bool.and_eq_true] at h
      exact ⟨h.2, rfl⟩
    have hgm : joOk gL gR hL hR = true → gL.length ≤ 36 ∧ hL.length ≤ 36 := fun h => by
      simp only [joOk, Bool.and_eq_true] at h
      have h1 := goodLp_small h.1.1.1
      have h2 := goodLp_small h.1.1.2
      omega
    generalize joA gL gR hL hR = JA at *
    generalize joB gL gR hL hR = JB at *
    generalize joOk gL gR hL hR = jo at *
    cases ht : lpText gL gR with
    | none =>
      rw [ht] at hT hTs hRd
      simp only [Option.getD_none, Option.isSome_none] at hT hTs hRd
      generalize ((readLp []).map (·.1)).getD [] = PA at *
      generalize ((readLp []).map (·.2)).getD [] = PB at *
      generalize (readLp []).isSome = po at *
      cases jo with
      | false =>
        refine (fcr_in Tryz.func3 rfl (by simp only [Tryz.ntmps3, anys, List.length_cons, List.length_nil, Nat.reduceAdd, Nat.reduceSub, List.replicate_succ, List.replicate_zero, List.cons_append, List.nil_append] <;> rfl) ?_)
        repeat' first
          | refine w_seq ?_
          | refine w_region ?_
          | refine l_nil ?_
          | refine rt_n ?_
          | refine w_ret ?_
          | refine rt_ret ?_
          | refine w_skip ?_
          | refine w_cond_t rfl ?_
          | refine w_cond_f rfl ?_
          | refine w_cnd rfl (fun hc => ?_) (fun hc => ?_)
          | refine w_cd rfl (fun hc => ?_) (fun hc => ?_)
          | refine w_cn rfl (fun hc => ?_) (fun hc => ?_)
          | refine w_cond rfl (fun hc => ?_) (fun hc => ?_)
          | (exfalso; exact absurd rfl hc)
          | (refine l_o ?_; first | refine l_eqnil rfl (by kernel_rfl) (by intro b; simp only [nz]; rfl) (fun b hb => ?_) | refine l_op rfl (by first | (apply k_callf; first | exact ops_callf (d := 19) (hfc := hD) | exact ops_callf (d := 24) (hfc := hT) | exact ops_callf (d := 29) (hfc := hRd) | exact ops_callf (d := 34) (hfc := hTs) | exact ops_callf (d := 54) (hfc := r1) | exact ops_callf (d := 62) (hfc := r2) | exact ops_callf (d := 69) (hfc := hJ) | exact ops_callf (d := 75) (hfc := hJs) | exact ops_callf (d := 86) (hfc := r3) | exact ops_callf (d := 94) (hfc := r4) | exact ops_callf (hfc := hB) | fail) | fail) (hk := ?_) | refine l_op (hk := ?_) | (refine l_g ?_; first | refine l_y rfl rfl rfl ?_ | refine l_n rfl rfl rfl rfl (hk := ?_) | refine l_n' rfl rfl rfl (hk := ?_) | refine l_spnd rfl rfl rfl (h1 := fun hc => ?_) (h2 := fun hc => ?_) | refine l_spd rfl rfl rfl (h1 := fun hc => ?_) (h2 := fun hc => ?_) | refine l_spn rfl rfl rfl (h1 := fun hc => ?_) (h2 := fun hc => ?_) | refine l_sp rfl rfl rfl (h1 := fun hc => ?_) (h2 := fun hc => ?_)))
        all_goals first
          | exact absurd rfl hc
          | ((refine en_one (hf := Tryz.results3) (h := ?_); simp only [lget]; first | refine congrArg RVb ?_ | refine congrArg RVi ?_ | skip); done)
          | (exfalso; simp at hc; done)
          | trace_state
      | true =>
        obtain ⟨j1, j2⟩ := hgl rfl
        obtain ⟨m1, m2⟩ := hgm rfl
        have m3 := Nat.mul_le_mul m1 m2
        rw [j1] at hG
        refine (fcr_in Tryz.func3 rfl (by simp only [Tryz.ntmps3, anys, List.length_cons, List.length_nil, Nat.reduceAdd, Nat.reduceSub, List.replicate_succ, List.replicate_zero, List.cons_append, List.nil_append] <;> rfl) ?_)
        repeat' first
          | refine w_seq ?_
          | refine w_region ?_
          | refine l_nil ?_
          | refine rt_n ?_
          | refine w_ret ?_
          | refine rt_ret ?_
          | refine w_skip ?_
          | refine w_cond_t rfl ?_
          | refine w_cond_f rfl ?_
          | refine w_cnd rfl (fun hc => ?_) (fun hc => ?_)
          | refine w_cd rfl (fun hc => ?_) (fun hc => ?_)
          | refine w_cn rfl (fun hc => ?_) (fun hc => ?_)
          | refine w_cond rfl (fun hc => ?_) (fun hc => ?_)
          | (exfalso; exact absurd rfl hc)
          | (refine l_o ?_; first | refine l_eqnil rfl (by kernel_rfl) (by intro b; simp only [nz]; rfl) (fun b hb => ?_) | refine l_op rfl (by first | (apply k_mul; first | exact ops_muln (m := gL.length) (n := hL.length) rfl rfl (by omega) | fail) | (apply k_callf; first | exact ops_callf (d := 19) (hfc := hD) | exact ops_callf (d := 24) (hfc := hT) | exact ops_callf (d := 29) (hfc := hRd) | exact ops_callf (d := 34) (hfc := hTs) | exact ops_callf (d := 54) (hfc := r1) | exact ops_callf (d := 62) (hfc := r2) | exact ops_callf (d := 69) (hfc := hJ) | exact ops_callf (d := 75) (hfc := hJs) | exact ops_callf (d := 86) (hfc := r3) | exact ops_callf (d := 94) (hfc := r4) | exact ops_callf (d := 101) (hfc := hG) | exact ops_callf (hfc := hB) | fail) | fail) (hk := ?_) | refine l_op (hk := ?_) | (refine l_g ?_; first | refine l_y rfl rfl rfl ?_ | refine l_n rfl rfl rfl rfl (hk := ?_) | refine l_n' rfl rfl rfl (hk := ?_) | refine l_spnd rfl rfl rfl (h1 := fun hc => ?_) (h2 := fun hc => ?_) | refine l_spd rfl rfl rfl (h1 := fun hc => ?_) (h2 := fun hc => ?_) | refine l_spn rfl rfl rfl (h1 := fun hc => ?_) (h2 := fun hc => ?_) | refine l_sp rfl rfl rfl (h1 := fun hc => ?_) (h2 := fun hc => ?_)))
        all_goals first
          | exact absurd rfl hc
          | ((refine en_one (hf := Tryz.results3) (h := ?_); simp only [lget]; first | refine congrArg RVb ?_ | refine congrArg RVi ?_ | skip); done)
          | ((refine en_one (hf := Tryz.results3) (h := ?_); simp only [lget]; first | refine congrArg RVb ?_ | refine congrArg RVi ?_ | skip); rw [j2]; simp; done)
          | ((refine en_one (hf := Tryz.results3) (h := ?_); simp only [lget]; first | refine congrArg RVb ?_ | refine congrArg RVi ?_ | skip); simp [j2]; done)
          | (exfalso; simp at hc; done)
          | trace_state
    | some s =>
      rw [ht] at hT hTs hRd
      simp only [Option.getD_some, Option.isSome_some] at hT hTs hRd
      rw [text_read ht] at hRd
      simp only [Option.map_some, Option.getD_some, Option.isSome_some] at hRd
      cases jo with
      | false =>
        refine (fcr_in Tryz.func3 rfl (by simp only [Tryz.ntmps3, anys, List.length_cons, List.length_nil, Nat.reduceAdd, Nat.reduceSub, List.replicate_succ, List.replicate_zero, List.cons_append, List.nil_append] <;> rfl) ?_)
        repeat' first
          | refine w_seq ?_
          | refine w_region ?_
          | refine l_nil ?_
          | refine rt_n ?_
          | refine w_ret ?_
          | refine rt_ret ?_
          | refine w_skip ?_
          | refine w_cond_t rfl ?_
          | refine w_cond_f rfl ?_
          | refine w_cnd rfl (fun hc => ?_) (fun hc => ?_)
          | refine w_cd rfl (fun hc => ?_) (fun hc => ?_)
          | refine w_cn rfl (fun hc => ?_) (fun hc => ?_)
          | refine w_cond rfl (fun hc => ?_) (fun hc => ?_)
          | (exfalso; exact absurd rfl hc)
          | (refine l_o ?_; first | refine l_eqnil rfl (by kernel_rfl) (by intro b; simp only [nz]; rfl) (fun b hb => ?_) | refine l_op rfl (by first | (apply k_callf; first | exact ops_callf (d := 19) (hfc := hD) | exact ops_callf (d := 24) (hfc := hT) | exact ops_callf (d := 29) (hfc := hRd) | exact ops_callf (d := 34) (hfc := hTs) | exact ops_callf (d := 54) (hfc := r1) | exact ops_callf (d := 62) (hfc := r2) | exact ops_callf (d := 69) (hfc := hJ) | exact ops_callf (d := 75) (hfc := hJs) | exact ops_callf (d := 86) (hfc := r3) | exact ops_callf (d := 94) (hfc := r4) | exact ops_callf (hfc := hB) | fail) | fail) (hk := ?_) | refine l_op (hk := ?_) | (refine l_g ?_; first | refine l_y rfl rfl rfl ?_ | refine l_n rfl rfl rfl rfl (hk := ?_) | refine l_n' rfl rfl rfl (hk := ?_) | refine l_spnd rfl rfl rfl (h1 := fun hc => ?_) (h2 := fun hc => ?_) | refine l_spd rfl rfl rfl (h1 := fun hc => ?_) (h2 := fun hc => ?_) | refine l_spn rfl rfl rfl (h1 := fun hc => ?_) (h2 := fun hc => ?_) | refine l_sp rfl rfl rfl (h1 := fun hc => ?_) (h2 := fun hc => ?_)))
        all_goals first
          | exact absurd rfl hc
          | ((refine en_one (hf := Tryz.results3) (h := ?_); simp only [lget]; first | refine congrArg RVb ?_ | refine congrArg RVi ?_ | skip); done)
          | (exfalso; simp at hc; done)
          | trace_state
      | true =>
        obtain ⟨j1, j2⟩ := hgl rfl
        obtain ⟨m1, m2⟩ := hgm rfl
        have m3 := Nat.mul_le_mul m1 m2
        rw [j1] at hG
        refine (fcr_in Tryz.func3 rfl (by simp only [Tryz.ntmps3, anys, List.length_cons, List.length_nil, Nat.reduceAdd, Nat.reduceSub, List.replicate_succ, List.replicate_zero, List.cons_append, List.nil_append] <;> rfl) ?_)
        repeat' first
          | refine w_seq ?_
          | refine w_region ?_
          | refine l_nil ?_
          | refine rt_n ?_
          | refine w_ret ?_
          | refine rt_ret ?_
          | refine w_skip ?_
          | refine w_cond_t rfl ?_
          | refine w_cond_f rfl ?_
          | refine w_cnd rfl (fun hc => ?_) (fun hc => ?_)
          | refine w_cd rfl (fun hc => ?_) (fun hc => ?_)
          | refine w_cn rfl (fun hc => ?_) (fun hc => ?_)
          | refine w_cond rfl (fun hc => ?_) (fun hc => ?_)
          | (exfalso; exact absurd rfl hc)
          | (refine l_o ?_; first | refine l_eqnil rfl (by kernel_rfl) (by intro b; simp only [nz]; rfl) (fun b hb => ?_) | refine l_op rfl (by first | (apply k_mul; first | exact ops_muln (m := gL.length) (n := hL.length) rfl rfl (by omega) | fail) | (apply k_callf; first | exact ops_callf (d := 19) (hfc := hD) | exact ops_callf (d := 24) (hfc := hT) | exact ops_callf (d := 29) (hfc := hRd) | exact ops_callf (d := 34) (hfc := hTs) | exact ops_callf (d := 54) (hfc := r1) | exact ops_callf (d := 62) (hfc := r2) | exact ops_callf (d := 69) (hfc := hJ) | exact ops_callf (d := 75) (hfc := hJs) | exact ops_callf (d := 86) (hfc := r3) | exact ops_callf (d := 94) (hfc := r4) | exact ops_callf (d := 101) (hfc := hG) | exact ops_callf (hfc := hB) | fail) | fail) (hk := ?_) | refine l_op (hk := ?_) | (refine l_g ?_; first | refine l_y rfl rfl rfl ?_ | refine l_n rfl rfl rfl rfl (hk := ?_) | refine l_n' rfl rfl rfl (hk := ?_) | refine l_spnd rfl rfl rfl (h1 := fun hc => ?_) (h2 := fun hc => ?_) | refine l_spd rfl rfl rfl (h1 := fun hc => ?_) (h2 := fun hc => ?_) | refine l_spn rfl rfl rfl (h1 := fun hc => ?_) (h2 := fun hc => ?_) | refine l_sp rfl rfl rfl (h1 := fun hc => ?_) (h2 := fun hc => ?_)))
        all_goals first
          | exact absurd rfl hc
          | ((refine en_one (hf := Tryz.results3) (h := ?_); simp only [lget]; first | refine congrArg RVb ?_ | refine congrArg RVi ?_ | skip); done)
          | ((refine en_one (hf := Tryz.results3) (h := ?_); simp only [lget]; first | refine congrArg RVb ?_ | refine congrArg RVi ?_ | skip); rw [j2]; simp; done)
          | ((refine en_one (hf := Tryz.results3) (h := ?_); simp only [lget]; first | refine congrArg RVb ?_ | refine congrArg RVi ?_ | skip); simp [j2]; done)
          | (exfalso; simp at hc; done)
          | trace_state
end Go.Proofs.YtpcckakchpblcaaGreatDoor
