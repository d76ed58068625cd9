/- The program's IsStopper and LongestTurns. For all loops and places. -/
import Derived.Test.YtpcckakchpblcaaGreatDoorJ25
import Derived.Test.YtpcckakchpblcaaGreatDoorTurnsFrom
namespace Go.Proofs.YtpcckakchpblcaaGreatDoor
open Eng
attribute [local irreducible] OpS OpG FC FCr Rel Fl Ef DR Fs
set_option linter.unusedSimpArgs false
set_option maxHeartbeats 0
set_option maxRecDepth 100000

/-- Going in depth through all of a loop's states. -/
def dfsG (L R : List (List Int)) : Bool × DS := allD (nxtG L R) (2 * L.length) (List.range (2 * L.length)) (q0 (2 * L.length))
/-- Whether no play is without end. -/
def stops (L R : List (List Int)) : Bool := goodLp L R && (dfsG L R).1
theorem turnsFromG {L R} (h : goodLp L R = true) : FCr Tryz.prog 35 [RLp L R] (.tup [if (dfsG L R).1 then ONs (dfsG L R).2.2 else .v (.slice none 0 0), RVb (dfsG L R).1]) := by
  have g := goodN h
  have hN := turnsFrom_ok (toN L) (toN R) g.inside (by rw [toN_len]; have := g.len; omega) (fun l hl => by have := g.lL l hl; omega) (fun l hl => by have := g.lR l hl; omega) (dfsG L R) (by rw [toN_len]; rfl)
  have e : RLp L R = .agg [RNss (toN L), RNss (toN R)] := by show RV.agg _ = _; rw [g.eL, g.eR]
  rw [e]
  exact hN
theorem allD_wk {nxt n} (hin : In nxt n) : ∀ (ss : List Nat) (q : DS), (∀ s ∈ ss, s < n) → q.1.length = n → q.2.length = n → DBd q → (∀ k, q.1.getD k 0 ≤ 2) → Wk n q (allD nxt n ss q).2 := by
  intro ss
  induction ss with
  | nil => intro q _ h1 h2 h3 _; exact .refl h1 h2 h3
  | cons s ss ih =>
    intro q hs h1 h2 h3 hle
    rw [allD]
    by_cases c : q.1.getD s 0 = 0
    · rw [if_pos c]
      have w := (visD_wk hin n q s (hs s (by simp)) c (by rw [← h1]; exact List.countP_le_length) h1 h2 h3 hle).1
      split
      · exact w.trans (ih _ (fun x hx => hs x (by simp [hx])) w.l1 w.l2 w.bd (fun x => w.two x (hle x)))
      · exact w
    · rw [if_neg c]
      exact ih _ (fun x hx => hs x (by simp [hx])) h1 h2 h3 hle
theorem implStopper_ok (L R : List (List Int)) : FCr Tryz.prog 15 [RLp L R] (RVb (stops L R)) := by
  cases hg : goodLp L R with
  | false =>
    have h1 : stops L R = false := by simp [stops, hg]
    rw [h1]
    refine (fcr_in Tryz.func15 rfl (by simp only [Tryz.ntmps15, anys, List.length_cons, List.length_nil, Nat.reduceAdd, Nat.reduceSub, List.replicate_succ, List.replicate_zero, List.cons_append, List.nil_append] <;> rfl) ?_)
    repeat' first
      | refine w_seq ?_
      | refine w_region ?_
      | refine l_nil ?_
      | refine rt_n ?_
      | refine w_ret ?_
      | refine rt_ret ?_
      | refine w_skip ?_
      | refine w_cond_t rfl ?_
      | refine w_cond_f rfl ?_
      | refine w_cnd rfl (fun hc => ?_) (fun hc => ?_)
      | refine w_cd rfl (fun hc => ?_) (fun hc => ?_)
      | refine w_cn rfl (fun hc => ?_) (fun hc => ?_)
      | refine w_cond rfl (fun hc => ?_) (fun hc => ?_)
      | (refine l_o ?_; first | refine l_op rfl (by first | (apply k_callf; first | exact ops_callf (hfc := hg ▸ implGood_ok L R) | fail) | fail) (hk := ?_) | refine l_op (hk := ?_))
    refine en_end (hf := Tryz.results15) (hr := ?_); simp only [ne, nf, nl, nr, lget, reduceIte, Nat.reduceEqDiff]; first | rfl | refine congrArg RVb ?_ | refine congrArg RVi ?_ | skip
  | true =>
    have h1 : stops L R = (dfsG L R).1 := by simp [stops, hg]
    have hT := turnsFromG hg
    rw [h1]
    generalize dfsG L R = d at *
    obtain ⟨b, ph, tn⟩ := d
    cases b with
    | false =>
      simp only [Bool.false_eq_true, if_false] at hT
      refine (fcr_in Tryz.func15 rfl (by simp only [Tryz.ntmps15, anys, List.length_cons, List.length_nil, Nat.reduceAdd, Nat.reduceSub, List.replicate_succ, List.replicate_zero, List.cons_append, List.nil_append] <;> rfl) ?_)
      repeat' first
        | refine w_seq ?_
        | refine w_region ?_
        | refine l_nil ?_
        | refine rt_n ?_
        | refine w_ret ?_
        | refine rt_ret ?_
        | refine w_skip ?_
        | refine w_cond_t rfl ?_
        | refine w_cond_f rfl ?_
        | refine w_cnd rfl (fun hc => ?_) (fun hc => ?_)
        | refine w_cd rfl (fun hc => ?_) (fun hc => ?_)
        | refine w_cn rfl (fun hc => ?_) (fun hc => ?_)
        | refine w_cond rfl (fun hc => ?_) (fun hc => ?_)
        | (refine l_o ?_; first | refine l_op rfl (by first | (apply k_callf; first | exact ops_callf (hfc := hg ▸ implGood_ok L R) | exact ops_callf (hfc := hT) | fail) | fail) (hk := ?_) | refine l_op (hk := ?_))
      refine en_end (hf := Tryz.results15) (hr := ?_); simp only [ne, nf, nl, nr, lget, reduceIte, Nat.reduceEqDiff]; first | rfl | refine congrArg RVb ?_ | refine congrArg RVi ?_ | skip
    | true =>
      simp only [if_true] at hT
      refine (fcr_in Tryz.func15 rfl (by simp only [Tryz.ntmps15, anys, List.length_cons, List.length_nil, Nat.reduceAdd, Nat.reduceSub, List.replicate_succ, List.replicate_zero, List.cons_append, List.nil_append] <;> rfl) ?_)
      repeat' first
        | refine w_seq ?_
        | refine w_region ?_
        | refine l_nil ?_
        | refine rt_n ?_
        | refine w_ret ?_
        | refine rt_ret ?_
        | refine w_skip ?_
        | refine w_cond_t rfl ?_
        | refine w_cond_f rfl ?_
        | refine w_cnd rfl (fun hc => ?_) (fun hc => ?_)
        | refine w_cd rfl (fun hc => ?_) (fun hc => ?_)
        | refine w_cn rfl (fun hc => ?_) (fun hc => ?_)
        | refine w_cond rfl (fun hc => ?_) (fun hc => ?_)
        | (refine l_o ?_; first | refine l_op rfl (by first | (apply k_callf; first | exact ops_callf (hfc := hg ▸ implGood_ok L R) | exact ops_callf (hfc := hT) | fail) | fail) (hk := ?_) | refine l_op (hk := ?_))
      refine en_end (hf := Tryz.results15) (hr := ?_); simp only [ne, nf, nl, nr, lget, reduceIte, Nat.reduceEqDiff]; first | rfl | refine congrArg RVb ?_ | refine congrArg RVi ?_ | skip
theorem isPlace_ok (L R : List (List Int)) (a : Int) : FCr Tryz.prog 38 [RLp L R, RVi a] (RVb (decide (0 ≤ a) && decide (a < L.length))) := by
  refine (fcr_in Tryz.func38 rfl (by simp only [Tryz.ntmps38, anys, List.length_cons, List.length_nil, Nat.reduceAdd, Nat.reduceSub, List.replicate_succ, List.replicate_zero, List.cons_append, List.nil_append] <;> rfl) ?_)
  repeat' first
    | refine w_seq ?_
    | refine w_region ?_
    | refine l_nil ?_
    | refine rt_n ?_
    | refine w_ret ?_
    | refine rt_ret ?_
    | refine w_skip ?_
    | (refine l_o ?_; first | refine l_op (hk := ?_) | (refine l_g ?_; first | refine l_y rfl rfl rfl ?_ | refine l_n rfl rfl rfl rfl (hk := ?_) | refine l_n' rfl rfl rfl (hk := ?_) | refine l_spnd rfl rfl rfl (h1 := fun hc => ?_) (h2 := fun hc => ?_) | refine l_spd rfl rfl rfl (h1 := fun hc => ?_) (h2 := fun hc => ?_) | refine l_spn rfl rfl rfl (h1 := fun hc => ?_) (h2 := fun hc => ?_) | refine l_sp rfl rfl rfl (h1 := fun hc => ?_) (h2 := fun hc => ?_)))
  all_goals refine en_one (hf := Tryz.results38) (h := ?_); simp only [lget]; first | refine congrArg RVb ?_ | refine congrArg RVi ?_ | skip
  all_goals simp [*]
end Go.Proofs.YtpcckakchpblcaaGreatDoor
/- HoldTable, StopAtLeast, StopSame and PlacesAlike of the program. For all loops and places. -/
namespace Go.Proofs.YtpcckakchpblcaaGreatDoor
open Eng
attribute [local irreducible] OpS OpG FC FCr Rel Fl Ef DR Fs
set_option linter.unusedSimpArgs false
set_option maxHeartbeats 0
set_option maxRecDepth 100000

theorem stops_good {L R : List (List Int)} (h : stops L R = true) : goodLp L R = true := by
  unfold stops at h
  simp only [Bool.and_eq_true] at h
  exact h.1
def tblJ (gL gR hL hR : List (List Int)) : List (List Bool) := if stops gL gR && stops hL hR then hTab (hldJ gL gR hL hR) gL.length hL.length else []
theorem implHold_ok (gL gR hL hR : List (List Int)) : FCr Tryz.prog 40 [RLp gL gR, RLp hL hR] (.tup [OBss (tblJ gL gR hL hR), RVb (stops gL gR && stops hL hR)]) := by
  have hG := implStopper_ok gL gR
  have hH := implStopper_ok hL hR
  unfold tblJ
  cases cg : stops gL gR with
  | false =>
    rw [cg] at hG
    refine (fcr_in Tryz.func40 rfl (by simp only [Tryz.ntmps40, anys, List.length_cons, List.length_nil, Nat.reduceAdd, Nat.reduceSub, List.replicate_succ, List.replicate_zero, List.cons_append, List.nil_append] <;> rfl) ?_)
    repeat' first
      | refine w_seq ?_
      | refine w_region ?_
      | refine l_nil ?_
      | refine rt_n ?_
      | refine w_ret ?_
      | refine rt_ret ?_
      | refine w_skip ?_
      | refine w_cond_t rfl ?_
      | refine w_cond_f rfl ?_
      | refine w_cnd rfl (fun hc => ?_) (fun hc => ?_)
      | refine w_cd rfl (fun hc => ?_) (fun hc => ?_)
      | refine w_cn rfl (fun hc => ?_) (fun hc => ?_)
      | refine w_cond rfl (fun hc => ?_) (fun hc => ?_)
      | (refine l_o ?_; first | refine l_op rfl (by first | (apply k_callf; first | exact ops_callf (hfc := hG) | fail) | fail) (hk := ?_) | refine l_op (hk := ?_) | (refine l_g ?_; first | refine l_y rfl rfl rfl ?_ | refine l_n rfl rfl rfl rfl (hk := ?_) | refine l_n' rfl rfl rfl (hk := ?_) | refine l_spnd rfl rfl rfl (h1 := fun hc => ?_) (h2 := fun hc => ?_) | refine l_spd rfl rfl rfl (h1 := fun hc => ?_) (h2 := fun hc => ?_) | refine l_spn rfl rfl rfl (h1 := fun hc => ?_) (h2 := fun hc => ?_) | refine l_sp rfl rfl rfl (h1 := fun hc => ?_) (h2 := fun hc => ?_)))
    refine en_endn ([.ow 1 [], RVb false]) (hf := Tryz.results40) (hr := ?_); simp only [ne]; first | rfl | skip
  | true =>
    rw [cg] at hG
    cases ch : stops hL hR with
    | false =>
      rw [ch] at hH
      refine (fcr_in Tryz.func40 rfl (by simp only [Tryz.ntmps40, anys, List.length_cons, List.length_nil, Nat.reduceAdd, Nat.reduceSub, List.replicate_succ, List.replicate_zero, List.cons_append, List.nil_append] <;> rfl) ?_)
      repeat' first
        | refine w_seq ?_
        | refine w_region ?_
        | refine l_nil ?_
        | refine rt_n ?_
        | refine w_ret ?_
        | refine rt_ret ?_
        | refine w_skip ?_
        | refine w_cond_t rfl ?_
        | refine w_cond_f rfl ?_
        | refine w_cnd rfl (fun hc => ?_) (fun hc => ?_)
        | refine w_cd rfl (fun hc => ?_) (fun hc => ?_)
        | refine w_cn rfl (fun hc => ?_) (fun hc => ?_)
        | refine w_cond rfl (fun hc => ?_) (fun hc => ?_)
        | (refine l_o ?_; first | refine l_op rfl (by first | (apply k_callf; first | exact ops_callf (hfc := hG) | exact ops_callf (hfc := hH) | fail) | fail) (hk := ?_) | refine l_op (hk := ?_) | (refine l_g ?_; first | refine l_y rfl rfl rfl ?_ | refine l_n rfl rfl rfl rfl (hk := ?_) | refine l_n' rfl rfl rfl (hk := ?_) | refine l_spnd rfl rfl rfl (h1 := fun hc => ?_) (h2 := fun hc => ?_) | refine l_spd rfl rfl rfl (h1 := fun hc => ?_) (h2 := fun hc => ?_) | refine l_spn rfl rfl rfl (h1 := fun hc => ?_) (h2 := fun hc => ?_) | refine l_sp rfl rfl rfl (h1 := fun hc => ?_) (h2 := fun hc => ?_)))
      refine en_endn ([.ow 1 [], RVb false]) (hf := Tryz.results40) (hr := ?_); simp only [ne]; first | rfl | skip
    | true =>
      rw [ch] at hH
      have hN := holds_ok (goodI (stops_good cg)) (goodI (stops_good ch))
      simp only [Bool.and_self, if_true]
      generalize hTab (hldJ gL gR hL hR) gL.length hL.length = T at *
      refine (fcr_in Tryz.func40 rfl (by simp only [Tryz.ntmps40, anys, List.length_cons, List.length_nil, Nat.reduceAdd, Nat.reduceSub, List.replicate_succ, List.replicate_zero, List.cons_append, List.nil_append] <;> rfl) ?_)
      repeat' first
        | refine w_seq ?_
        | refine w_region ?_
        | refine l_nil ?_
        | refine rt_n ?_
        | refine w_ret ?_
        | refine rt_ret ?_
        | refine w_skip ?_
        | refine w_cond_t rfl ?_
        | refine w_cond_f rfl ?_
        | refine w_cnd rfl (fun hc => ?_) (fun hc => ?_)
        | refine w_cd rfl (fun hc => ?_) (fun hc => ?_)
        | refine w_cn rfl (fun hc => ?_) (fun hc => ?_)
        | refine w_cond rfl (fun hc => ?_) (fun hc => ?_)
        | (refine l_o ?_; first | refine l_op rfl (by first | (apply k_callf; first | exact ops_callf (hfc := hG) | exact ops_callf (hfc := hH) | exact ops_callv (hfc := hN) | fail) | fail) (hk := ?_) | refine l_op (hk := ?_) | (refine l_g ?_; first | refine l_y rfl rfl rfl ?_ | refine l_n rfl rfl rfl rfl (hk := ?_) | refine l_n' rfl rfl rfl (hk := ?_) | refine l_spnd rfl rfl rfl (h1 := fun hc => ?_) (h2 := fun hc => ?_) | refine l_spd rfl rfl rfl (h1 := fun hc => ?_) (h2 := fun hc => ?_) | refine l_spn rfl rfl rfl (h1 := fun hc => ?_) (h2 := fun hc => ?_) | refine l_sp rfl rfl rfl (h1 := fun hc => ?_) (h2 := fun hc => ?_)))
      refine en_end (hf := Tryz.results40) (hr := ?_); simp only [ne, nf, nl, nr, lget, reduceIte, Nat.reduceEqDiff]; first | rfl | refine congrArg RVb ?_ | refine congrArg RVi ?_ | skip
def plc (L : List (List Int)) (a : Int) : Bool := decide (0 ≤ a) && decide (a < L.length)
def okS (gL gR hL hR : List (List Int)) (u v : Int) : Bool := stops gL gR && stops hL hR && plc gL u && plc hL v
def atl (gL gR hL hR : List (List Int)) (u v : Int) : Bool := okS gL gR hL hR u v && (hldJ gL gR hL hR).getD (2 * (u.toNat * hL.length + v.toNat) + 1) false
theorem hTab_at {H : List Bool} {n m u v : Nat} (hu : u < n) (hv : v < m) : ∃ (h1 : u < (hTab H n m).length) (h2 : v < (hTab H n m)[u].length), (hTab H n m)[u][v] = H.getD (2 * (u * m + v) + 1) false := by
  refine ⟨by simp [hTab, hu], by simp [hTab, hRow, hv], by simp [hTab, hRow]⟩
theorem implAtLeast_ok (gL gR : List (List Int)) (u : Int) (hL hR : List (List Int)) (v : Int) : FCr Tryz.prog 18 [RLp gL gR, RVi u, RLp hL hR, RVi v] (.tup [RVb (atl gL gR hL hR u v), RVb (okS gL gR hL hR u v)]) := by
  have hG := implStopper_ok gL gR
  have hH := implStopper_ok hL hR
  have hP := isPlace_ok gL gR u
  have hQ := isPlace_ok hL hR v
  unfold atl
  cases ho : okS gL gR hL hR u v with
  | false =>
    unfold okS plc at ho
    simp only [Bool.false_and]
    generalize (decide (0 ≤ u) && decide (u < gL.length)) = p at *
    generalize (decide (0 ≤ v) && decide (v < hL.length)) = q at *
    generalize stops gL gR = a at *
    generalize stops hL hR = b at *
    refine (fcr_in Tryz.func18 rfl (by simp only [Tryz.ntmps18, anys, List.length_cons, List.length_nil, Nat.reduceAdd, Nat.reduceSub, List.replicate_succ, List.replicate_zero, List.cons_append, List.nil_append] <;> rfl) ?_)
    repeat' first
      | refine w_seq ?_
      | refine w_region ?_
      | refine l_nil ?_
      | refine rt_n ?_
      | refine w_ret ?_
      | refine rt_ret ?_
      | refine w_skip ?_
      | refine w_cond_t rfl ?_
      | refine w_cond_f rfl ?_
      | refine w_cnd rfl (fun hc => ?_) (fun hc => ?_)
      | refine w_cd rfl (fun hc => ?_) (fun hc => ?_)
      | refine w_cn rfl (fun hc => ?_) (fun hc => ?_)
      | refine w_cond rfl (fun hc => ?_) (fun hc => ?_)
      | (refine l_o ?_; first | refine l_op rfl (by first | (apply k_callf; first | exact ops_callf (hfc := hG) | exact ops_callf (hfc := hH) | exact ops_callf (hfc := hP) | exact ops_callf (hfc := hQ) | fail) | fail) (hk := ?_) | refine l_op (hk := ?_) | (refine l_g ?_; first | refine l_y rfl rfl rfl ?_ | refine l_n rfl rfl rfl rfl (hk := ?_) | refine l_n' rfl rfl rfl (hk := ?_) | refine l_spnd rfl rfl rfl (h1 := fun hc => ?_) (h2 := fun hc => ?_) | refine l_spd rfl rfl rfl (h1 := fun hc => ?_) (h2 := fun hc => ?_) | refine l_spn rfl rfl rfl (h1 := fun hc => ?_) (h2 := fun hc => ?_) | refine l_sp rfl rfl rfl (h1 := fun hc => ?_) (h2 := fun hc => ?_)))
    all_goals first
      | (refine en_end (hf := Tryz.results18) (hr := ?_); simp only [ne, nf, nl, nr, lget, reduceIte, Nat.reduceEqDiff]; first | rfl | refine congrArg RVb ?_ | refine congrArg RVi ?_ | skip; done)
      | (exfalso; simp_all; done)
  | true =>
    unfold okS at ho
    simp only [Bool.and_eq_true] at ho
    obtain ⟨⟨⟨cg, ch⟩, cp⟩, cq⟩ := ho
    have hN := holds_ok (goodI (stops_good cg)) (goodI (stops_good ch))
    rw [cg] at hG
    rw [ch] at hH
    rw [show (decide (0 ≤ u) && decide (u < gL.length)) = true from cp] at hP
    rw [show (decide (0 ≤ v) && decide (v < hL.length)) = true from cq] at hQ
    unfold plc at cp cq
    simp only [Bool.and_eq_true, decide_eq_true_eq] at cp cq
    obtain ⟨h1, h2, h3⟩ := hTab_at (H := hldJ gL gR hL hR) (u := u.toNat) (v := v.toNat) (n := gL.length) (m := hL.length) (by omega) (by omega)
    rw [← h3, Bool.true_and]
    generalize hTab (hldJ gL gR hL hR) gL.length hL.length = T at *
    refine (fcr_in Tryz.func18 rfl (by simp only [Tryz.ntmps18, anys, List.length_cons, List.length_nil, Nat.reduceAdd, Nat.reduceSub, List.replicate_succ, List.replicate_zero, List.cons_append, List.nil_append] <;> rfl) ?_)
    repeat' first
      | refine w_seq ?_
      | refine w_region ?_
      | refine l_nil ?_
      | refine rt_n ?_
      | refine w_ret ?_
      | refine rt_ret ?_
      | refine w_skip ?_
      | refine w_cond_t rfl ?_
      | refine w_cond_f rfl ?_
      | refine w_cnd rfl (fun hc => ?_) (fun hc => ?_)
      | refine w_cd rfl (fun hc => ?_) (fun hc => ?_)
      | refine w_cn rfl (fun hc => ?_) (fun hc => ?_)
      | refine w_cond rfl (fun hc => ?_) (fun hc => ?_)
      | (refine l_o ?_; first | refine l_op rfl (by first | (apply k_callf; first | exact ops_callf (hfc := hG) | exact ops_callf (hfc := hH) | exact ops_callf (hfc := hP) | exact ops_callf (hfc := hQ) | exact ops_callf (hfc := hN) | fail) | fail) (hk := ?_) | refine l_op (hk := ?_) | (refine l_g ?_; first | refine l_y rfl rfl rfl ?_ | refine l_n rfl rfl rfl rfl (hk := ?_) | refine l_n' rfl rfl rfl (hk := ?_) | refine l_spnd rfl rfl rfl (h1 := fun hc => ?_) (h2 := fun hc => ?_) | refine l_spd rfl rfl rfl (h1 := fun hc => ?_) (h2 := fun hc => ?_) | refine l_spn rfl rfl rfl (h1 := fun hc => ?_) (h2 := fun hc => ?_) | refine l_sp rfl rfl rfl (h1 := fun hc => ?_) (h2 := fun hc => ?_)))
    all_goals first
      | (refine en_end (hf := Tryz.results18) (hr := ?_); simp only [ne, nf, nl, nr, lget, reduceIte, Nat.reduceEqDiff]; first | rfl | refine congrArg RVb ?_ | refine congrArg RVi ?_ | skip; done)
      | trace_state
end Go.Proofs.YtpcckakchpblcaaGreatDoor
