/- HoldTable, StopAtLeast, StopSame and PlacesAlike of the program. For all loops and places. -/
import Derived.Test.YtmalajoglcpijaaHolds
import Derived.Test.YtmalajoglcpijaaTurns
namespace Go.Proofs.Ytmalajoglcpijaa
open Eng
attribute [local irreducible] OpS OpG FC FCr Rel Fl Ef DR Fs
set_option linter.unusedSimpArgs false
set_option maxHeartbeats 0
set_option maxRecDepth 100000

theorem stops_good {L R : List (List Int)} (h : stops L R = true) : goodLp L R = true := by
  unfold stops at h
  simp only [Bool.and_eq_true] at h
  exact h.1
def tblJ (gL gR hL hR : List (List Int)) : List (List Bool) := if stops gL gR && stops hL hR then hTab (hldJ gL gR hL hR) gL.length hL.length else []
theorem implHold_ok (gL gR hL hR : List (List Int)) : FCr Try.prog 21 [RLp gL gR, RLp hL hR] (.tup [OBss (tblJ gL gR hL hR), RVb (stops gL gR && stops hL hR)]) := by
  have hG := implStopper_ok gL gR
  have hH := implStopper_ok hL hR
  unfold tblJ
  cases cg : stops gL gR with
  | false =>
    rw [cg] at hG
    refine (fcr_in Try.func21 rfl (by simp only [Try.ntmps21, anys, List.length_cons, List.length_nil, Nat.reduceAdd, Nat.reduceSub, List.replicate_succ, List.replicate_zero, List.cons_append, List.nil_append] <;> rfl) ?_)
    repeat' first
      | refine w_seq ?_
      | refine w_region ?_
      | refine l_nil ?_
      | refine rt_n ?_
      | refine w_ret ?_
      | refine rt_ret ?_
      | refine w_skip ?_
      | refine w_cond_t rfl ?_
      | refine w_cond_f rfl ?_
      | refine w_cnd rfl (fun hc => ?_) (fun hc => ?_)
      | refine w_cd rfl (fun hc => ?_) (fun hc => ?_)
      | refine w_cn rfl (fun hc => ?_) (fun hc => ?_)
      | refine w_cond rfl (fun hc => ?_) (fun hc => ?_)
      | (refine l_o ?_; first | refine l_op rfl (by first | (apply k_callf; first | exact ops_callf (hfc := hG) | fail) | fail) (hk := ?_) | refine l_op (hk := ?_) | (refine l_g ?_; first | refine l_y rfl rfl rfl ?_ | refine l_n rfl rfl rfl rfl (hk := ?_) | refine l_n' rfl rfl rfl (hk := ?_) | refine l_spnd rfl rfl rfl (h1 := fun hc => ?_) (h2 := fun hc => ?_) | refine l_spd rfl rfl rfl (h1 := fun hc => ?_) (h2 := fun hc => ?_) | refine l_spn rfl rfl rfl (h1 := fun hc => ?_) (h2 := fun hc => ?_) | refine l_sp rfl rfl rfl (h1 := fun hc => ?_) (h2 := fun hc => ?_)))
    refine en_endn ([.ow 1 [], RVb false]) (hf := Try.results21) (hr := ?_); simp only [ne]; first | rfl | skip
  | true =>
    rw [cg] at hG
    cases ch : stops hL hR with
    | false =>
      rw [ch] at hH
      refine (fcr_in Try.func21 rfl (by simp only [Try.ntmps21, anys, List.length_cons, List.length_nil, Nat.reduceAdd, Nat.reduceSub, List.replicate_succ, List.replicate_zero, List.cons_append, List.nil_append] <;> rfl) ?_)
      repeat' first
        | refine w_seq ?_
        | refine w_region ?_
        | refine l_nil ?_
        | refine rt_n ?_
        | refine w_ret ?_
        | refine rt_ret ?_
        | refine w_skip ?_
        | refine w_cond_t rfl ?_
        | refine w_cond_f rfl ?_
        | refine w_cnd rfl (fun hc => ?_) (fun hc => ?_)
        | refine w_cd rfl (fun hc => ?_) (fun hc => ?_)
        | refine w_cn rfl (fun hc => ?_) (fun hc => ?_)
        | refine w_cond rfl (fun hc => ?_) (fun hc => ?_)
        | (refine l_o ?_; first | refine l_op rfl (by first | (apply k_callf; first | exact ops_callf (hfc := hG) | exact ops_callf (hfc := hH) | fail) | fail) (hk := ?_) | refine l_op (hk := ?_) | (refine l_g ?_; first | refine l_y rfl rfl rfl ?_ | refine l_n rfl rfl rfl rfl (hk := ?_) | refine l_n' rfl rfl rfl (hk := ?_) | refine l_spnd rfl rfl rfl (h1 := fun hc => ?_) (h2 := fun hc => ?_) | refine l_spd rfl rfl rfl (h1 := fun hc => ?_) (h2 := fun hc => ?_) | refine l_spn rfl rfl rfl (h1 := fun hc => ?_) (h2 := fun hc => ?_) | refine l_sp rfl rfl rfl (h1 := fun hc => ?_) (h2 := fun hc => ?_)))
      refine en_endn ([.ow 1 [], RVb false]) (hf := Try.results21) (hr := ?_); simp only [ne]; first | rfl | skip
    | true =>
      rw [ch] at hH
      have hN := holds_ok (goodI (stops_good cg)) (goodI (stops_good ch))
      simp only [Bool.and_self, if_true]
      generalize hTab (hldJ gL gR hL hR) gL.length hL.length = T at *
      refine (fcr_in Try.func21 rfl (by simp only [Try.ntmps21, anys, List.length_cons, List.length_nil, Nat.reduceAdd, Nat.reduceSub, List.replicate_succ, List.replicate_zero, List.cons_append, List.nil_append] <;> rfl) ?_)
      repeat' first
        | refine w_seq ?_
        | refine w_region ?_
        | refine l_nil ?_
        | refine rt_n ?_
        | refine w_ret ?_
        | refine rt_ret ?_
        | refine w_skip ?_
        | refine w_cond_t rfl ?_
        | refine w_cond_f rfl ?_
        | refine w_cnd rfl (fun hc => ?_) (fun hc => ?_)
        | refine w_cd rfl (fun hc => ?_) (fun hc => ?_)
        | refine w_cn rfl (fun hc => ?_) (fun hc => ?_)
        | refine w_cond rfl (fun hc => ?_) (fun hc => ?_)
        | (refine l_o ?_; first | refine l_op rfl (by first | (apply k_callf; first | exact ops_callf (hfc := hG) | exact ops_callf (hfc := hH) | exact ops_callv (hfc := hN) | fail) | fail) (hk := ?_) | refine l_op (hk := ?_) | (refine l_g ?_; first | refine l_y rfl rfl rfl ?_ | refine l_n rfl rfl rfl rfl (hk := ?_) | refine l_n' rfl rfl rfl (hk := ?_) | refine l_spnd rfl rfl rfl (h1 := fun hc => ?_) (h2 := fun hc => ?_) | refine l_spd rfl rfl rfl (h1 := fun hc => ?_) (h2 := fun hc => ?_) | refine l_spn rfl rfl rfl (h1 := fun hc => ?_) (h2 := fun hc => ?_) | refine l_sp rfl rfl rfl (h1 := fun hc => ?_) (h2 := fun hc => ?_)))
      refine en_end (hf := Try.results21) (hr := ?_); simp only [ne, nf, nl, nr, lget, reduceIte, Nat.reduceEqDiff]; first | rfl | refine congrArg RVb ?_ | refine congrArg RVi ?_ | skip
def plc (L : List (List Int)) (a : Int) : Bool := decide (0 ≤ a) && decide (a < L.length)
def okS (gL gR hL hR : List (List Int)) (u v : Int) : Bool := stops gL gR && stops hL hR && plc gL u && plc hL v
def atl (gL gR hL hR : List (List Int)) (u v : Int) : Bool := okS gL gR hL hR u v && (hldJ gL gR hL hR).getD (2 * (u.toNat * hL.length + v.toNat) + 1) false
theorem hTab_at {H : List Bool} {n m u v : Nat} (hu : u < n) (hv : v < m) : ∃ (h1 : u < (hTab H n m).length) (h2 : v < (hTab H n m)[u].length), (hTab H n m)[u][v] = H.getD (2 * (u * m + v) + 1) false := by
  refine ⟨by simp [hTab, hu], by simp [hTab, hRow, hv], by simp [hTab, hRow]⟩
theorem implAtLeast_ok (gL gR : List (List Int)) (u : Int) (hL hR : List (List Int)) (v : Int) : FCr Try.prog 26 [RLp gL gR, RVi u, RLp hL hR, RVi v] (.tup [RVb (atl gL gR hL hR u v), RVb (okS gL gR hL hR u v)]) := by
  have hG := implStopper_ok gL gR
  have hH := implStopper_ok hL hR
  have hP := isPlace_ok gL gR u
  have hQ := isPlace_ok hL hR v
  unfold atl
  cases ho : okS gL gR hL hR u v with
  | false =>
    unfold okS plc at ho
    simp only [Bool.false_and]
    generalize (decide (0 ≤ u) && decide (u < gL.length)) = p at *
    generalize (decide (0 ≤ v) && decide (v < hL.length)) = q at *
    generalize stops gL gR = a at *
    generalize stops hL hR = b at *
    refine (fcr_in Try.func26 rfl (by simp only [Try.ntmps26, anys, List.length_cons, List.length_nil, Nat.reduceAdd, Nat.reduceSub, List.replicate_succ, List.replicate_zero, List.cons_append, List.nil_append] <;> rfl) ?_)
    repeat' first
      | refine w_seq ?_
      | refine w_region ?_
      | refine l_nil ?_
      | refine rt_n ?_
      | refine w_ret ?_
      | refine rt_ret ?_
      | refine w_skip ?_
      | refine w_cond_t rfl ?_
      | refine w_cond_f rfl ?_
      | refine w_cnd rfl (fun hc => ?_) (fun hc => ?_)
      | refine w_cd rfl (fun hc => ?_) (fun hc => ?_)
      | refine w_cn rfl (fun hc => ?_) (fun hc => ?_)
      | refine w_cond rfl (fun hc => ?_) (fun hc => ?_)
      | (refine l_o ?_; first | refine l_op rfl (by first | (apply k_callf; first | exact ops_callf (hfc := hG) | exact ops_callf (hfc := hH) | exact ops_callf (hfc := hP) | exact ops_callf (hfc := hQ) | fail) | fail) (hk := ?_) | refine l_op (hk := ?_) | (refine l_g ?_; first | refine l_y rfl rfl rfl ?_ | refine l_n rfl rfl rfl rfl (hk := ?_) | refine l_n' rfl rfl rfl (hk := ?_) | refine l_spnd rfl rfl rfl (h1 := fun hc => ?_) (h2 := fun hc => ?_) | refine l_spd rfl rfl rfl (h1 := fun hc => ?_) (h2 := fun hc => ?_) | refine l_spn rfl rfl rfl (h1 := fun hc => ?_) (h2 := fun hc => ?_) | refine l_sp rfl rfl rfl (h1 := fun hc => ?_) (h2 := fun hc => ?_)))
    all_goals first
      | (refine en_end (hf := Try.results26) (hr := ?_); simp only [ne, nf, nl, nr, lget, reduceIte, Nat.reduceEqDiff]; first | rfl | refine congrArg RVb ?_ | refine congrArg RVi ?_ | skip; done)
      | (exfalso; simp_all; done)
  | true =>
    unfold okS at ho
    simp only [Bool.and_eq_true] at ho
    obtain ⟨⟨⟨cg, ch⟩, cp⟩, cq⟩ := ho
    have hN := holds_ok (goodI (stops_good cg)) (goodI (stops_good ch))
    rw [cg] at hG
    rw [ch] at hH
    rw [show (decide (0 ≤ u) && decide (u < gL.length)) = true from cp] at hP
    rw [show (decide (0 ≤ v) && decide (v < hL.length)) = true from cq] at hQ
    unfold plc at cp cq
    simp only [Bool.and_eq_true, decide_eq_true_eq] at cp cq
    obtain ⟨h1, h2, h3⟩ := hTab_at (H := hldJ gL gR hL hR) (u := u.toNat) (v := v.toNat) (n := gL.length) (m := hL.length) (by omega) (by omega)
    rw [← h3, Bool.true_and]
    generalize hTab (hldJ gL gR hL hR) gL.length hL.length = T at *
    refine (fcr_in Try.func26 rfl (by simp only [Try.ntmps26, anys, List.length_cons, List.length_nil, Nat.reduceAdd, Nat.reduceSub, List.replicate_succ, List.replicate_zero, List.cons_append, List.nil_append] <;> rfl) ?_)
    repeat' first
      | refine w_seq ?_
      | refine w_region ?_
      | refine l_nil ?_
      | refine rt_n ?_
      | refine w_ret ?_
      | refine rt_ret ?_
      | refine w_skip ?_
      | refine w_cond_t rfl ?_
      | refine w_cond_f rfl ?_
      | refine w_cnd rfl (fun hc => ?_) (fun hc => ?_)
      | refine w_cd rfl (fun hc => ?_) (fun hc => ?_)
      | refine w_cn rfl (fun hc => ?_) (fun hc => ?_)
      | refine w_cond rfl (fun hc => ?_) (fun hc => ?_)
      | (refine l_o ?_; first | refine l_op rfl (by first | (apply k_callf; first | exact ops_callf (hfc := hG) | exact ops_callf (hfc := hH) | exact ops_callf (hfc := hP) | exact ops_callf (hfc := hQ) | exact ops_callf (hfc := hN) | fail) | fail) (hk := ?_) | refine l_op (hk := ?_) | (refine l_g ?_; first | refine l_y rfl rfl rfl ?_ | refine l_n rfl rfl rfl rfl (hk := ?_) | refine l_n' rfl rfl rfl (hk := ?_) | refine l_spnd rfl rfl rfl (h1 := fun hc => ?_) (h2 := fun hc => ?_) | refine l_spd rfl rfl rfl (h1 := fun hc => ?_) (h2 := fun hc => ?_) | refine l_spn rfl rfl rfl (h1 := fun hc => ?_) (h2 := fun hc => ?_) | refine l_sp rfl rfl rfl (h1 := fun hc => ?_) (h2 := fun hc => ?_)))
    all_goals first
      | (refine en_end (hf := Try.results26) (hr := ?_); simp only [ne, nf, nl, nr, lget, reduceIte, Nat.reduceEqDiff]; first | rfl | refine congrArg RVb ?_ | refine congrArg RVi ?_ | skip; done)
      | trace_state
theorem implSame_ok (gL gR : List (List Int)) (u : Int) (hL hR : List (List Int)) (v : Int) : FCr Try.prog 28 [RLp gL gR, RVi u, RLp hL hR, RVi v] (.tup [RVb (atl gL gR hL hR u v && atl hL hR gL gR v u), RVb (okS gL gR hL hR u v && okS hL hR gL gR v u)]) := by
  have h1 := implAtLeast_ok gL gR u hL hR v
  have h2 := implAtLeast_ok hL hR v gL gR u
  generalize atl gL gR hL hR u v = a at *
  generalize atl hL hR gL gR v u = b at *
  generalize okS gL gR hL hR u v = c at *
  generalize okS hL hR gL gR v u = d at *
  refine (fcr_in Try.func28 rfl (by simp only [Try.ntmps28, anys, List.length_cons, List.length_nil, Nat.reduceAdd, Nat.reduceSub, List.replicate_succ, List.replicate_zero, List.cons_append, List.nil_append] <;> rfl) ?_)
  repeat' first
    | refine w_seq ?_
    | refine w_region ?_
    | refine l_nil ?_
    | refine rt_n ?_
    | refine w_ret ?_
    | refine rt_ret ?_
    | refine w_skip ?_
    | (refine l_o ?_; first | refine l_op rfl (by first | (apply k_callf; first | exact ops_callf (hfc := h1) | exact ops_callf (hfc := h2) | fail) | fail) (hk := ?_) | refine l_op (hk := ?_) | (refine l_g ?_; first | refine l_y rfl rfl rfl ?_ | refine l_n rfl rfl rfl rfl (hk := ?_) | refine l_n' rfl rfl rfl (hk := ?_) | refine l_spnd rfl rfl rfl (h1 := fun hc => ?_) (h2 := fun hc => ?_) | refine l_spd rfl rfl rfl (h1 := fun hc => ?_) (h2 := fun hc => ?_) | refine l_spn rfl rfl rfl (h1 := fun hc => ?_) (h2 := fun hc => ?_) | refine l_sp rfl rfl rfl (h1 := fun hc => ?_) (h2 := fun hc => ?_)))
  all_goals first
    | (refine en_end (hf := Try.results28) (hr := ?_); simp only [ne, nf, nl, nr, lget, reduceIte, Nat.reduceEqDiff]; first | rfl | refine congrArg RVb ?_ | refine congrArg RVi ?_ | skip; done)
    | (subst_vars; refine en_end (hf := Try.results28) (hr := ?_); simp only [ne, nf, nl, nr, lget, reduceIte, Nat.reduceEqDiff]; first | rfl | refine congrArg RVb ?_ | refine congrArg RVi ?_ | skip; done)
    | (simp only [Bool.not_eq_true] at *; subst_vars; refine en_end (hf := Try.results28) (hr := ?_); simp only [ne, nf, nl, nr, lget, reduceIte, Nat.reduceEqDiff]; first | rfl | refine congrArg RVb ?_ | refine congrArg RVi ?_ | skip; done)
    | trace_state
end Go.Proofs.Ytmalajoglcpijaa
