/- Good forms: the reference's test. For all forms. -/
import Derived.Test.YtdignmbeiohhiaaFormA
import Derived.Test.YtdignmbeiohhiaaFormF
import Derived.Test.YtdignmbeiohhiaaFormH
namespace Go.Proofs.Ytdignmbeiohhiaa
open Eng
attribute [local irreducible] OpS OpG FC FCr Rel Fl Ef DR Fs
attribute [local simp] RV.fzR_names
set_option linter.unusedSimpArgs false
set_option maxHeartbeats 0
set_option maxRecDepth 100000

def fits24 : List NdI → Bool
  | [] => true
  | n :: ns => if 24 < n.1.length ∨ 24 < n.2.length then false else fits24 ns
theorem fits24_at {F : List NdI} {k : Nat} (h : k < F.length) : fits24 (F.drop k) = if 24 < F[k].1.length ∨ 24 < F[k].2.length then false else fits24 (F.drop (k + 1)) := by
  rw [List.drop_eq_getElem_cons h, fits24]
def fitsF (F : List NdI) : Bool := if F.length < 1 ∨ 120 < F.length then false else fits24 F
theorem l3Fits_ok (F : List NdI) : FCr Try.prog 128 [RFm F] (RVb (fitsF F)) := by
  refine fcr_lens fun hL => ?_
  simp only [lnk] at hL
  have hI := l1In_ok (F.length : Int) 1 120
  refine (fcr_in Try.func128 rfl (by simp only [Try.ntmps128, anys, List.length_cons, List.length_nil, Nat.reduceAdd, Nat.reduceSub, List.replicate_succ, List.replicate_zero, List.cons_append, List.nil_append] <;> rfl) ?_)
  repeat' first
    | refine w_seq ?_
    | refine w_block ?_
    | refine rb_n ?_
    | refine rb_ret ?_
    | refine rb_eq ?_
    | refine rb_ne (by rfl) ?_
    | refine w_exit ?_
    | refine rt_exit ?_
    | refine w_region ?_
    | refine l_nil ?_
    | refine rt_n ?_
    | refine w_ret ?_
    | refine rt_ret ?_
    | refine w_skip ?_
    | refine w_cond_t rfl ?_
    | refine w_cond_f rfl ?_
    | refine w_cnd rfl (fun hc => ?_) (fun hc => ?_)
    | refine w_cd rfl (fun hc => ?_) (fun hc => ?_)
    | refine w_cn rfl (fun hc => ?_) (fun hc => ?_)
    | refine w_cond rfl (fun hc => ?_) (fun hc => ?_)
    | (refine l_o ?_; first | refine l_op (hk := ?_) | (refine l_g ?_; first | refine l_y rfl rfl rfl ?_ | refine l_n rfl rfl rfl rfl (hk := ?_) | refine l_n' rfl rfl rfl (hk := ?_) | refine l_spnd rfl rfl rfl (h1 := fun hc => ?_) (h2 := fun hc => ?_) | refine l_spd rfl rfl rfl (h1 := fun hc => ?_) (h2 := fun hc => ?_) | refine l_spn rfl rfl rfl (h1 := fun hc => ?_) (h2 := fun hc => ?_) | refine l_sp rfl rfl rfl (h1 := fun hc => ?_) (h2 := fun hc => ?_)))
  refine w_loopm (ι := Nat) (fun k => [(3, RVn k)]) (fun _ => [(1, 1, [.agg [.sh (F.map RNdI)]])]) (fun k => k ≤ F.length ∧ k ≤ 121 ∧ fits24 (F.drop k) = fits24 F) (fun k => F.length - k) 0 (h0 := ?_) (hs := ?_) (round := ?_)
  · exact ⟨by omega, by omega, rfl⟩
  · refine le_eq (by (repeat' first | exact .nil | refine .keep ?_ | refine .any ?_); first | done | fail) rfl rfl
  · intro k ⟨hk, hk2, hg⟩
    by_cases hkl : k < F.length ∧ k ≤ 120
    · obtain ⟨hk3, hk4⟩ := hkl
      rw [fits24_at hk3] at hg
      by_cases hb : 24 < F[k].1.length ∨ 24 < F[k].2.length
      · rw [if_pos hb] at hg
        have e : fitsF F = false := by unfold fitsF; split; · rfl
                                       exact hg.symm
        rw [e]
        repeat' first
          | refine w_seq ?_
          | refine w_block ?_
          | refine rb_n ?_
          | refine rb_ret ?_
          | refine rb_eq ?_
          | refine rb_ne (by rfl) ?_
          | refine w_exit ?_
          | refine rt_exit ?_
          | refine w_region ?_
          | refine l_nil ?_
          | refine rt_n ?_
          | refine w_ret ?_
          | refine rt_ret ?_
          | refine w_skip ?_
          | refine w_cond_t rfl ?_
          | refine w_cond_f rfl ?_
          | refine w_cnd rfl (fun hc => ?_) (fun hc => ?_)
          | refine w_cd rfl (fun hc => ?_) (fun hc => ?_)
          | refine w_cn rfl (fun hc => ?_) (fun hc => ?_)
          | refine w_cond rfl (fun hc => ?_) (fun hc => ?_)
          | (exfalso; omega)
          | (refine l_o ?_; first | refine l_op (hk := ?_) | (refine l_g ?_; first | refine l_y rfl rfl rfl ?_ | refine l_n rfl rfl rfl rfl (hk := ?_) | refine l_n' rfl rfl rfl (hk := ?_) | refine l_spnd rfl rfl rfl (h1 := fun hc => ?_) (h2 := fun hc => ?_) | refine l_spd rfl rfl rfl (h1 := fun hc => ?_) (h2 := fun hc => ?_) | refine l_spn rfl rfl rfl (h1 := fun hc => ?_) (h2 := fun hc => ?_) | refine l_sp rfl rfl rfl (h1 := fun hc => ?_) (h2 := fun hc => ?_)))
        all_goals refine en_one (hf := Try.results128) (h := ?_); simp only [lget]; first | refine congrArg RVb ?_ | refine congrArg RVi ?_ | skip
      · rw [if_neg hb] at hg
        repeat' first
          | refine w_seq ?_
          | refine w_block ?_
          | refine rb_n ?_
          | refine rb_ret ?_
          | refine rb_eq ?_
          | refine rb_ne (by rfl) ?_
          | refine w_exit ?_
          | refine rt_exit ?_
          | refine w_region ?_
          | refine l_nil ?_
          | refine rt_n ?_
          | refine w_ret ?_
          | refine rt_ret ?_
          | refine w_skip ?_
          | refine w_cond_t rfl ?_
          | refine w_cond_f rfl ?_
          | refine w_cnd rfl (fun hc => ?_) (fun hc => ?_)
          | refine w_cd rfl (fun hc => ?_) (fun hc => ?_)
          | refine w_cn rfl (fun hc => ?_) (fun hc => ?_)
          | refine w_cond rfl (fun hc => ?_) (fun hc => ?_)
          | (exfalso; omega)
          | (refine l_o ?_; first | refine l_op (hk := ?_) | (refine l_g ?_; first | refine l_y rfl rfl rfl ?_ | refine l_n rfl rfl rfl rfl (hk := ?_) | refine l_n' rfl rfl rfl (hk := ?_) | refine l_spnd rfl rfl rfl (h1 := fun hc => ?_) (h2 := fun hc => ?_) | refine l_spd rfl rfl rfl (h1 := fun hc => ?_) (h2 := fun hc => ?_) | refine l_spn rfl rfl rfl (h1 := fun hc => ?_) (h2 := fun hc => ?_) | refine l_sp rfl rfl rfl (h1 := fun hc => ?_) (h2 := fun hc => ?_)))
        refine rn_mk (k + 1) ?_ (by first | omega | (dsimp only; omega)) (le_eq (by (repeat' first | exact .nil | refine .keep ?_ | refine .any ?_); first | done | fail) rfl rfl)
        exact ⟨by omega, by omega, hg⟩
    · have e : fitsF F = (decide ((1 : Int) ≤ (F.length : Int)) && decide ((F.length : Int) ≤ 120)) := by
        unfold fitsF
        split
        · rename_i h
          rw [Bool.eq_iff_iff, Bool.and_eq_true, decide_eq_true_eq, decide_eq_true_eq]
          constructor
          · intro h2; cases h2
          · intro h2; omega
        · rename_i h
          obtain rfl : k = F.length := by omega
          rw [List.drop_eq_nil_of_le (Nat.le_refl _), fits24] at hg
          rw [← hg, Bool.eq_iff_iff, Bool.and_eq_true, decide_eq_true_eq, decide_eq_true_eq]
          exact ⟨fun _ => by omega, fun _ => rfl⟩
      rw [e]
      repeat' first
        | refine w_seq ?_
        | refine w_block ?_
        | refine rb_n ?_
        | refine rb_ret ?_
        | refine rb_eq ?_
        | refine rb_ne (by rfl) ?_
        | refine w_exit ?_
        | refine rt_exit ?_
        | refine w_region ?_
        | refine l_nil ?_
        | refine rt_n ?_
        | refine w_ret ?_
        | refine rt_ret ?_
        | refine w_skip ?_
        | refine w_cond_t rfl ?_
        | refine w_cond_f rfl ?_
        | refine w_cnd rfl (fun hc => ?_) (fun hc => ?_)
        | refine w_cd rfl (fun hc => ?_) (fun hc => ?_)
        | refine w_cn rfl (fun hc => ?_) (fun hc => ?_)
        | refine w_cond rfl (fun hc => ?_) (fun hc => ?_)
        | (exfalso; omega)
        | (refine l_o ?_; first | refine l_op rfl (by first | (apply k_callf; first | exact ops_callf (hfc := hI) | fail) | fail) (hk := ?_) | refine l_op (hk := ?_) | (refine l_g ?_; first | refine l_y rfl rfl rfl ?_ | refine l_n rfl rfl rfl rfl (hk := ?_) | refine l_n' rfl rfl rfl (hk := ?_) | refine l_spnd rfl rfl rfl (h1 := fun hc => ?_) (h2 := fun hc => ?_) | refine l_spd rfl rfl rfl (h1 := fun hc => ?_) (h2 := fun hc => ?_) | refine l_spn rfl rfl rfl (h1 := fun hc => ?_) (h2 := fun hc => ?_) | refine l_sp rfl rfl rfl (h1 := fun hc => ?_) (h2 := fun hc => ?_)))
      all_goals refine en_one (hf := Try.results128) (h := ?_); simp only [lget]; first | refine congrArg RVb ?_ | refine congrArg RVi ?_ | skip
def rsg : Nat → List NdI → Bool
  | _, [] => true
  | k, n :: ns => if rising 0 ((k : Int) - 1) none n.1 = false ∨ rising 0 ((k : Int) - 1) none n.2 = false then false else rsg (k + 1) ns
theorem rsg_drop {F : List NdI} {k : Nat} (h : k < F.length) : rsg k (F.drop k) = if rising 0 ((k : Int) - 1) none F[k].1 = false ∨ rising 0 ((k : Int) - 1) none F[k].2 = false then false else rsg (k + 1) (F.drop (k + 1)) := by
  rw [List.drop_eq_getElem_cons h, rsg]
theorem okFrom_both : ∀ (F : List NdI) (k : Nat), okFrom k F = (fits24 F && rsg k F)
  | [], _ => rfl
  | n :: ns, k => by
    rw [okFrom, fits24, rsg, okFrom_both ns (k + 1), tgtOk_rising, tgtOk_rising]
    by_cases h1 : 24 < n.1.length
    · rw [if_pos h1, if_pos (.inl rfl), if_pos (.inl h1)]; rfl
    · rw [if_neg h1]
      by_cases h2 : 24 < n.2.length
      · rw [if_pos h2, if_pos (.inr rfl), if_pos (.inr h2)]; rfl
      · rw [if_neg h2, if_neg (show ¬ (24 < n.1.length ∨ 24 < n.2.length) by omega)]
        split
        · simp
        · rfl
theorem goodF_spec (F : List NdI) : goodF F = (fitsF F && (rsg 0 F && decide (laid (ndN F) = ndN F))) := by
  unfold goodF fitsF
  split
  · rfl
  · rw [okFrom_both]
    cases fits24 F <;> cases rsg 0 F <;> simp
theorem specGoodF_ok (F : List NdI) : FCr Try.prog 87 [RFm F] (RVb (goodF F)) := by
  refine fcr_lens fun hL => ?_
  simp only [lnk] at hL
  have hF := l3Fits_ok F
  rw [goodF_spec]
  cases e1 : fitsF F with
  | false =>
    rw [e1] at hF
    refine (fcr_in Try.func87 rfl (by simp only [Try.ntmps87, anys, List.length_cons, List.length_nil, Nat.reduceAdd, Nat.reduceSub, List.replicate_succ, List.replicate_zero, List.cons_append, List.nil_append] <;> rfl) ?_)
    repeat' first
      | refine w_seq ?_
      | refine w_block ?_
      | refine rb_n ?_
      | refine rb_ret ?_
      | refine rb_eq ?_
      | refine rb_ne (by rfl) ?_
      | refine w_exit ?_
      | refine rt_exit ?_
      | refine w_region ?_
      | refine l_nil ?_
      | refine rt_n ?_
      | refine w_ret ?_
      | refine rt_ret ?_
      | refine w_skip ?_
      | refine w_cond_t rfl ?_
      | refine w_cond_f rfl ?_
      | refine w_cnd rfl (fun hc => ?_) (fun hc => ?_)
      | refine w_cd rfl (fun hc => ?_) (fun hc => ?_)
      | refine w_cn rfl (fun hc => ?_) (fun hc => ?_)
      | refine w_cond rfl (fun hc => ?_) (fun hc => ?_)
      | (exfalso; exact absurd rfl hc)
      | (refine l_o ?_; first | refine l_op rfl (by first | (apply k_callf; first | exact ops_callf (d := 6) (hfc := hF) | fail) | fail) (hk := ?_) | refine l_op (hk := ?_) | (refine l_g ?_; first | refine l_y rfl rfl rfl ?_ | refine l_n rfl rfl rfl rfl (hk := ?_) | refine l_n' rfl rfl rfl (hk := ?_) | refine l_spnd rfl rfl rfl (h1 := fun hc => ?_) (h2 := fun hc => ?_) | refine l_spd rfl rfl rfl (h1 := fun hc => ?_) (h2 := fun hc => ?_) | refine l_spn rfl rfl rfl (h1 := fun hc => ?_) (h2 := fun hc => ?_) | refine l_sp rfl rfl rfl (h1 := fun hc => ?_) (h2 := fun hc => ?_)))
      | refine d_nil ?_
      | (refine d_o ?_; first | refine d_fl (hk := ?_) | refine d_ef rfl (by first | exact .callf (d := 6) (hfc := hF) | exact .callfY (d := 6) (hfc := hF) | fail) (hk := ?_) | refine d_ef (hk := ?_) | (refine d_g ?_; first | refine d_spnd rfl rfl rfl (h1 := fun hc => ?_) (h2 := fun hc => ?_) | refine d_spd rfl rfl rfl (h1 := fun hc => ?_) (h2 := fun hc => ?_) | refine d_spn rfl rfl rfl (h1 := fun hc => ?_) (h2 := fun hc => ?_) | refine d_sp rfl rfl rfl (h1 := fun hc => ?_) (h2 := fun hc => ?_)))
      | (refine w_o ?_; first | refine w_draw (id := 9) (fun _ => true) (fun k => [3, 4, 6].contains k) [[], [], []] 64 (by kernel_rfl) rfl (by kernel_rfl) (by simp [nm, nset, -List.map_take, -List.map_drop]) ?_)
    refine en_one (hf := Try.results87) (h := ?_); simp only [lget]; first | refine congrArg RVb ?_ | refine congrArg RVi ?_ | skip
    exact (Bool.false_and _).symm
  | true =>
    rw [e1] at hF
    rw [Bool.true_and]
    have h1 : ¬ (F.length < 1 ∨ 120 < F.length) ∧ fits24 F = true := by
      unfold fitsF at e1
      split at e1
      · cases e1
      · exact ⟨by assumption, e1⟩
    obtain ⟨h1, h24⟩ := h1
    have hN1 : 1 ≤ F.length ∧ F.length ≤ 120 := by omega
    refine (fcr_in Try.func87 rfl (by simp only [Try.ntmps87, anys, List.length_cons, List.length_nil, Nat.reduceAdd, Nat.reduceSub, List.replicate_succ, List.replicate_zero, List.cons_append, List.nil_append] <;> rfl) ?_)
    repeat' first
      | refine w_seq ?_
      | refine w_block ?_
      | refine rb_n ?_
      | refine rb_ret ?_
      | refine rb_eq ?_
      | refine rb_ne (by rfl) ?_
      | refine w_exit ?_
      | refine rt_exit ?_
      | refine w_region ?_
      | refine l_nil ?_
      | refine rt_n ?_
      | refine w_ret ?_
      | refine rt_ret ?_
      | refine w_skip ?_
      | refine w_cond_t rfl ?_
      | refine w_cond_f rfl ?_
      | refine w_cnd rfl (fun hc => ?_) (fun hc => ?_)
      | refine w_cd rfl (fun hc => ?_) (fun hc => ?_)
      | refine w_cn rfl (fun hc => ?_) (fun hc => ?_)
      | refine w_cond rfl (fun hc => ?_) (fun hc => ?_)
      | (exfalso; exact absurd rfl hc)
      | (refine l_o ?_; first | refine l_op rfl (by first | (apply k_callf; first | exact ops_callf (d := 6) (hfc := hF) | fail) | fail) (hk := ?_) | refine l_op (hk := ?_) | (refine l_g ?_; first | refine l_y rfl rfl rfl ?_ | refine l_n rfl rfl rfl rfl (hk := ?_) | refine l_n' rfl rfl rfl (hk := ?_) | refine l_spnd rfl rfl rfl (h1 := fun hc => ?_) (h2 := fun hc => ?_) | refine l_spd rfl rfl rfl (h1 := fun hc => ?_) (h2 := fun hc => ?_) | refine l_spn rfl rfl rfl (h1 := fun hc => ?_) (h2 := fun hc => ?_) | refine l_sp rfl rfl rfl (h1 := fun hc => ?_) (h2 := fun hc => ?_)))
      | refine d_nil ?_
      | (refine d_o ?_; first | refine d_fl (hk := ?_) | refine d_ef rfl (by first | exact .callf (d := 6) (hfc := hF) | exact .callfY (d := 6) (hfc := hF) | fail) (hk := ?_) | refine d_ef (hk := ?_) | (refine d_g ?_; first | refine d_spnd rfl rfl rfl (h1 := fun hc => ?_) (h2 := fun hc => ?_) | refine d_spd rfl rfl rfl (h1 := fun hc => ?_) (h2 := fun hc => ?_) | refine d_spn rfl rfl rfl (h1 := fun hc => ?_) (h2 := fun hc => ?_) | refine d_sp rfl rfl rfl (h1 := fun hc => ?_) (h2 := fun hc => ?_)))
      | (refine w_o ?_; first | refine w_draw (id := 9) (fun _ => true) (fun k => [3, 4, 6].contains k) [[], [], []] 64 (by kernel_rfl) rfl (by kernel_rfl) (by simp [nm, nset, -List.map_take, -List.map_drop]) ?_)
    refine w_loopm (ι := Nat) (fun k => [(3, RVn k)]) (fun _ => [(1, 1, [.agg [.sh (F.map RNdI)]])]) (fun k => k ≤ F.length ∧ rsg k (F.drop k) = rsg 0 F) (fun k => F.length - k) 0 (h0 := ?_) (hs := ?_) (round := ?_)
    · exact ⟨by omega, rfl⟩
    · refine le_eq (by (repeat' first | exact .nil | refine .keep ?_ | refine .any ?_); first | done | fail) rfl rfl
    · intro k ⟨hk, hg⟩
      by_cases hkl : k < F.length
      · have hR1 := l1Rising_ok F[k].1 0 ((k : Int) - 1)
        have hR2 := l1Rising_ok F[k].2 0 ((k : Int) - 1)
        rw [rsg_drop hkl] at hg
        cases r1 : rising 0 ((k : Int) - 1) none F[k].1 with
        | false =>
          rw [r1] at hR1
          rw [if_pos (.inl r1)] at hg
          rw [← hg, Bool.false_and]
          repeat' first
            | refine w_seq ?_
            | refine w_block ?_
            | refine rb_n ?_
            | refine rb_ret ?_
            | refine rb_eq ?_
            | refine rb_ne (by rfl) ?_
            | refine w_exit ?_
            | refine rt_exit ?_
            | refine w_region ?_
            | refine l_nil ?_
            | refine rt_n ?_
            | refine w_ret ?_
            | refine rt_ret ?_
            | refine w_skip ?_
            | refine w_cond_t rfl ?_
            | refine w_cond_f rfl ?_
            | refine w_cnd rfl (fun hc => ?_) (fun hc => ?_)
            | refine w_cd rfl (fun hc => ?_) (fun hc => ?_)
            | refine w_cn rfl (fun hc => ?_) (fun hc => ?_)
            | refine w_cond rfl (fun hc => ?_) (fun hc => ?_)
            | (exfalso; omega)
            | (exfalso; exact absurd rfl hc)
            | (refine l_o ?_; first | refine l_op rfl (by first | (apply k_sub; first | exact ops_sub (m := (k : Int)) (n := 1) rfl rfl (by omega) (by omega) | fail) | (apply k_callf; first | exact ops_callf (d := 23) (hfc := hR1) | exact ops_callf (d := 34) (hfc := hR2) | fail) | fail) (hk := ?_) | refine l_op (hk := ?_) | (refine l_g ?_; first | refine l_y rfl rfl rfl ?_ | refine l_n rfl rfl rfl rfl (hk := ?_) | refine l_n' rfl rfl rfl (hk := ?_) | refine l_spnd rfl rfl rfl (h1 := fun hc => ?_) (h2 := fun hc => ?_) | refine l_spd rfl rfl rfl (h1 := fun hc => ?_) (h2 := fun hc => ?_) | refine l_spn rfl rfl rfl (h1 := fun hc => ?_) (h2 := fun hc => ?_) | refine l_sp rfl rfl rfl (h1 := fun hc => ?_) (h2 := fun hc => ?_)))
            | refine d_nil ?_
            | (refine d_o ?_; first | refine d_fl rfl (by first | exact .pl (by first | (apply q_sub; first | exact fs_sub (m := (k : Int)) (n := 1) rfl rfl (by omega) (by omega) | fail) | fail) | exact .ye rfl rfl rfl (by first | (apply q_sub; first | exact fs_sub (m := (k : Int)) (n := 1) rfl rfl (by omega) (by omega) | fail) | fail) | fail) (hk := ?_) | refine d_fl (hk := ?_) | refine d_ef rfl (by first | exact .callf (d := 23) (hfc := hR1) | exact .callf (d := 34) (hfc := hR2) | exact .callfY (d := 23) (hfc := hR1) | exact .callfY (d := 34) (hfc := hR2) | fail) (hk := ?_) | refine d_ef (hk := ?_) | (refine d_g ?_; first | refine d_spnd rfl rfl rfl (h1 := fun hc => ?_) (h2 := fun hc => ?_) | refine d_spd rfl rfl rfl (h1 := fun hc => ?_) (h2 := fun hc => ?_) | refine d_spn rfl rfl rfl (h1 := fun hc => ?_) (h2 := fun hc => ?_) | refine d_sp rfl rfl rfl (h1 := fun hc => ?_) (h2 := fun hc => ?_)))
            | (refine w_o ?_; first | refine w_draw (id := 9) (fun _ => true) (fun k => [3, 4, 6].contains k) [[], [], []] 64 (by kernel_rfl) rfl (by kernel_rfl) (by simp [nm, nset, -List.map_take, -List.map_drop]) ?_)
          all_goals refine en_one (hf := Try.results87) (h := ?_); simp only [lget]; first | refine congrArg RVb ?_ | refine congrArg RVi ?_ | skip
        | true =>
          rw [r1] at hR1
          cases r2 : rising 0 ((k : Int) - 1) none F[k].2 with
          | false =>
            rw [r2] at hR2
            rw [if_pos (.inr r2)] at hg
            rw [← hg, Bool.false_and]
            repeat' first
              | refine w_seq ?_
              | refine w_block ?_
              | refine rb_n ?_
              | refine rb_ret ?_
              | refine rb_eq ?_
              | refine rb_ne (by rfl) ?_
              | refine w_exit ?_
              | refine rt_exit ?_
              | refine w_region ?_
              | refine l_nil ?_
              | refine rt_n ?_
              | refine w_ret ?_
              | refine rt_ret ?_
              | refine w_skip ?_
              | refine w_cond_t rfl ?_
              | refine w_cond_f rfl ?_
              | refine w_cnd rfl (fun hc => ?_) (fun hc => ?_)
              | refine w_cd rfl (fun hc => ?_) (fun hc => ?_)
              | refine w_cn rfl (fun hc => ?_) (fun hc => ?_)
              | refine w_cond rfl (fun hc => ?_) (fun hc => ?_)
              | (exfalso; omega)
              | (exfalso; exact absurd rfl hc)
              | (refine l_o ?_; first | refine l_op rfl (by first | (apply k_sub; first | exact ops_sub (m := (k : Int)) (n := 1) rfl rfl (by omega) (by omega) | fail) | (apply k_callf; first | exact ops_callf (d := 23) (hfc := hR1) | exact ops_callf (d := 34) (hfc := hR2) | fail) | fail) (hk := ?_) | refine l_op (hk := ?_) | (refine l_g ?_; first | refine l_y rfl rfl rfl ?_ | refine l_n rfl rfl rfl rfl (hk := ?_) | refine l_n' rfl rfl rfl (hk := ?_) | refine l_spnd rfl rfl rfl (h1 := fun hc => ?_) (h2 := fun hc => ?_) | refine l_spd rfl rfl rfl (h1 := fun hc => ?_) (h2 := fun hc => ?_) | refine l_spn rfl rfl rfl (h1 := fun hc => ?_) (h2 := fun hc => ?_) | refine l_sp rfl rfl rfl (h1 := fun hc => ?_) (h2 := fun hc => ?_)))
              | refine d_nil ?_
              | (refine d_o ?_; first | refine d_fl rfl (by first | exact .pl (by first | (apply q_sub; first | exact fs_sub (m := (k : Int)) (n := 1) rfl rfl (by omega) (by omega) | fail) | fail) | exact .ye rfl rfl rfl (by first | (apply q_sub; first | exact fs_sub (m := (k : Int)) (n := 1) rfl rfl (by omega) (by omega) | fail) | fail) | fail) (hk := ?_) | refine d_fl (hk := ?_) | refine d_ef rfl (by first | exact .callf (d := 23) (hfc := hR1) | exact .callf (d := 34) (hfc := hR2) | exact .callfY (d := 23) (hfc := hR1) | exact .callfY (d := 34) (hfc := hR2) | fail) (hk := ?_) | refine d_ef (hk := ?_) | (refine d_g ?_; first | refine d_spnd rfl rfl rfl (h1 := fun hc => ?_) (h2 := fun hc => ?_) | refine d_spd rfl rfl rfl (h1 := fun hc => ?_) (h2 := fun hc => ?_) | refine d_spn rfl rfl rfl (h1 := fun hc => ?_) (h2 := fun hc => ?_) | refine d_sp rfl rfl rfl (h1 := fun hc => ?_) (h2 := fun hc => ?_)))
              | (refine w_o ?_; first | refine w_draw (id := 9) (fun _ => true) (fun k => [3, 4, 6].contains k) [[], [], []] 64 (by kernel_rfl) rfl (by kernel_rfl) (by simp [nm, nset, -List.map_take, -List.map_drop]) ?_)
            all_goals refine en_one (hf := Try.results87) (h := ?_); simp only [lget]; first | refine congrArg RVb ?_ | refine congrArg RVi ?_ | skip
          | true =>
            rw [r2] at hR2
            rw [if_neg (by rw [r1, r2]; simp)] at hg
            repeat' first
              | refine w_seq ?_
              | refine w_block ?_
              | refine rb_n ?_
              | refine rb_ret ?_
              | refine rb_eq ?_
              | refine rb_ne (by rfl) ?_
              | refine w_exit ?_
              | refine rt_exit ?_
              | refine w_region ?_
              | refine l_nil ?_
              | refine rt_n ?_
              | refine w_ret ?_
              | refine rt_ret ?_
              | refine w_skip ?_
              | refine w_cond_t rfl ?_
              | refine w_cond_f rfl ?_
              | refine w_cnd rfl (fun hc => ?_) (fun hc => ?_)
              | refine w_cd rfl (fun hc => ?_) (fun hc => ?_)
              | refine w_cn rfl (fun hc => ?_) (fun hc => ?_)
              | refine w_cond rfl (fun hc => ?_) (fun hc => ?_)
              | (exfalso; omega)
              | (exfalso; exact absurd rfl hc)
              | (refine l_o ?_; first | refine l_op rfl (by first | (apply k_sub; first | exact ops_sub (m := (k : Int)) (n := 1) rfl rfl (by omega) (by omega) | fail) | (apply k_callf; first | exact ops_callf (d := 23) (hfc := hR1) | exact ops_callf (d := 34) (hfc := hR2) | fail) | fail) (hk := ?_) | refine l_op (hk := ?_) | (refine l_g ?_; first | refine l_y rfl rfl rfl ?_ | refine l_n rfl rfl rfl rfl (hk := ?_) | refine l_n' rfl rfl rfl (hk := ?_) | refine l_spnd rfl rfl rfl (h1 := fun hc => ?_) (h2 := fun hc => ?_) | refine l_spd rfl rfl rfl (h1 := fun hc => ?_) (h2 := fun hc => ?_) | refine l_spn rfl rfl rfl (h1 := fun hc => ?_) (h2 := fun hc => ?_) | refine l_sp rfl rfl rfl (h1 := fun hc => ?_) (h2 := fun hc => ?_)))
              | refine d_nil ?_
              | (refine d_o ?_; first | refine d_fl rfl (by first | exact .pl (by first | (apply q_sub; first | exact fs_sub (m := (k : Int)) (n := 1) rfl rfl (by omega) (by omega) | fail) | fail) | exact .ye rfl rfl rfl (by first | (apply q_sub; first | exact fs_sub (m := (k : Int)) (n := 1) rfl rfl (by omega) (by omega) | fail) | fail) | fail) (hk := ?_) | refine d_fl (hk := ?_) | refine d_ef rfl (by first | exact .callf (d := 23) (hfc := hR1) | exact .callf (d := 34) (hfc := hR2) | exact .callfY (d := 23) (hfc := hR1) | exact .callfY (d := 34) (hfc := hR2) | fail) (hk := ?_) | refine d_ef (hk := ?_) | (refine d_g ?_; first | refine d_spnd rfl rfl rfl (h1 := fun hc => ?_) (h2 := fun hc => ?_) | refine d_spd rfl rfl rfl (h1 := fun hc => ?_) (h2 := fun hc => ?_) | refine d_spn rfl rfl rfl (h1 := fun hc => ?_) (h2 := fun hc => ?_) | refine d_sp rfl rfl rfl (h1 := fun hc => ?_) (h2 := fun hc => ?_)))
              | (refine w_o ?_; first | refine w_draw (id := 9) (fun _ => true) (fun k => [3, 4, 6].contains k) [[], [], []] 64 (by kernel_rfl) rfl (by kernel_rfl) (by simp [nm, nset, -List.map_take, -List.map_drop]) ?_)
            refine rn_mk (k + 1) ?_ (by first | omega | (dsimp only; omega)) (le_eq (by (repeat' first | exact .nil | refine .keep ?_ | refine .any ?_); first | done | fail) rfl rfl)
            exact ⟨by omega, hg⟩
      · obtain rfl : k = F.length := by omega
        rw [List.drop_eq_nil_of_le (Nat.le_refl _), rsg] at hg
        rw [← hg, Bool.true_and]
        have hok := okN (F := F) (by rw [okFrom_both, h24, ← hg]; rfl)
        have hfl := ndN_len F
        have heq := hok.eq
        have okf := hok.ok
        have l24 := hok.l24
        clear hok
        rw [heq]
        generalize ndN F = f at *
        have hN2 : 1 ≤ f.length ∧ f.length ≤ 120 := by omega
        have hRt := root_ok f okf (by omega) hN2.2 l24
        have hBk := addTo_ok okf f.length (Nat.le_refl _)
        have hFm := form_ok (addTo f f.length).1 ((addTo f f.length).2.getD (f.length - 1) 0) (by have := hBk.le; omega) (by
          rw [gdp (by rw [hBk.atl]; omega)]; exact hBk.atb _ (List.getElem_mem _)) hBk.bnb hBk.okb
        have hSm := l3Same_ok (laid f) f
        have hl : frm (bkN (addTo f f.length).1) (bkB (addTo f f.length).1) (usdF (bkN (addTo f f.length).1) ((addTo f f.length).2.getD (f.length - 1) 0)) ((addTo f f.length).2.getD (f.length - 1) 0) = laid f := rfl
        rw [hl] at hFm
        generalize laid f = g at *
        generalize (addTo f f.length).2.getD (f.length - 1) 0 = root at *
        generalize (addTo f f.length).1 = E at *
        clear hl hBk
        rw [← hfl] at *
        repeat' first
          | refine w_seq ?_
          | refine w_block ?_
          | refine rb_n ?_
          | refine rb_ret ?_
          | refine rb_eq ?_
          | refine rb_ne (by rfl) ?_
          | refine w_exit ?_
          | refine rt_exit ?_
          | refine w_region ?_
          | refine l_nil ?_
          | refine rt_n ?_
          | refine w_ret ?_
          | refine rt_ret ?_
          | refine w_skip ?_
          | refine w_cond_t rfl ?_
          | refine w_cond_f rfl ?_
          | refine w_cnd rfl (fun hc => ?_) (fun hc => ?_)
          | refine w_cd rfl (fun hc => ?_) (fun hc => ?_)
          | refine w_cn rfl (fun hc => ?_) (fun hc => ?_)
          | refine w_cond rfl (fun hc => ?_) (fun hc => ?_)
          | (exfalso; omega)
          | (refine w_at (i := 9) ?_; refine w_le _ (le_nw 38 rfl (.agg (.now (k := 2) (by decide) (.now (k := 1) (by decide) .nil)) .nil) (by simp only [nz, nf, nl, nb, nr, ng, nq, nu, reduceIte, Nat.reduceEqDiff, Nat.reduceAdd]; rfl)) ?_)
          | (refine l_o ?_; first | refine l_op rfl (by first | (apply k_callf; first | exact ops_callP (d := 42) 38 [RBk E] (hfc := hRt) | exact ops_callP (d := 43) 38 [RBk E] (hfc := hFm) | exact ops_callz (d := 45) (hfc := hSm) | fail) | fail) (hk := ?_) | refine l_op (hk := ?_) | (refine l_g ?_; first | refine l_y rfl rfl rfl ?_ | refine l_n rfl rfl rfl rfl (hk := ?_) | refine l_n' rfl rfl rfl (hk := ?_) | refine l_spnd rfl rfl rfl (h1 := fun hc => ?_) (h2 := fun hc => ?_) | refine l_spd rfl rfl rfl (h1 := fun hc => ?_) (h2 := fun hc => ?_) | refine l_spn rfl rfl rfl (h1 := fun hc => ?_) (h2 := fun hc => ?_) | refine l_sp rfl rfl rfl (h1 := fun hc => ?_) (h2 := fun hc => ?_)))
          | refine e_nil ?_
          | (refine e_o ?_; first | refine e_fl (hk := ?_) | refine e_ef rfl (by first | exact .callP (d := 42) 38 [RBk E] (hfc := hRt) | exact .callP (d := 43) 38 [RBk E] (hfc := hFm) | exact .callz (d := 45) (hfc := hSm) | exact .callzY (d := 45) (hfc := hSm) | fail) (hk := ?_) | refine e_ef (hk := ?_) | (refine e_g ?_; first | refine e_spnd rfl rfl rfl (h1 := fun hc => ?_) (h2 := fun hc => ?_) | refine e_spd rfl rfl rfl (h1 := fun hc => ?_) (h2 := fun hc => ?_) | refine e_spn rfl rfl rfl (h1 := fun hc => ?_) (h2 := fun hc => ?_) | refine e_sp rfl rfl rfl (h1 := fun hc => ?_) (h2 := fun hc => ?_)))
          | (refine w_o ?_; first | refine w_drawS (id := 9) (rdP [(2,1),(5,1)]) (fun k => [3, 4, 6].contains k) [[],[1043],[]] (by kernel_rfl) rfl (by kernel_rfl) (by simp [nm, nset, -List.map_take, -List.map_drop]) ?_)
        refine en_one (hf := Try.results87) (h := ?_); simp only [lget]; first | refine congrArg RVb ?_ | refine congrArg RVi ?_ | skip
end Go.Proofs.Ytdignmbeiohhiaa
