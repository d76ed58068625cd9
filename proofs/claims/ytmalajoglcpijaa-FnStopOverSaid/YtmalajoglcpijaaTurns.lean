/- The program's IsStopper and LongestTurns. For all loops and places. -/
import Derived.Test.YtmalajoglcpijaaTurnsFrom
import Derived.Test.YtmalajoglcpijaaOut
namespace Go.Proofs.Ytmalajoglcpijaa
open Eng
attribute [local irreducible] OpS OpG FC FCr Rel Fl Ef DR Fs
set_option linter.unusedSimpArgs false
set_option maxHeartbeats 0
set_option maxRecDepth 100000

/-- Going in depth through all of a loop's states. -/
def dfsG (L R : List (List Int)) : Bool × DS := allD (nxtG L R) (2 * L.length) (List.range (2 * L.length)) (q0 (2 * L.length))
/-- Whether no play is without end. -/
def stops (L R : List (List Int)) : Bool := goodLp L R && (dfsG L R).1
def longest (L R : List (List Int)) (a : Int) (left : Bool) : Nat := if okAt L R a && (dfsG L R).1 then (dfsG L R).2.2.getD (stN a.toNat left) 0 else 0
theorem turnsFromG {L R} (h : goodLp L R = true) : FCr Try.prog 86 [RLp L R] (.tup [if (dfsG L R).1 then ONs (dfsG L R).2.2 else .v (.slice none 0 0), RVb (dfsG L R).1]) := by
  have g := goodN h
  have hN := turnsFrom_ok (toN L) (toN R) g.inside (by rw [toN_len]; have := g.len; omega) (fun l hl => by have := g.lL l hl; omega) (fun l hl => by have := g.lR l hl; omega) (dfsG L R) (by rw [toN_len]; rfl)
  have e : RLp L R = .agg [RNss (toN L), RNss (toN R)] := by show RV.agg _ = _; rw [g.eL, g.eR]
  rw [e]
  exact hN
theorem allD_wk {nxt n} (hin : In nxt n) : ∀ (ss : List Nat) (q : DS), (∀ s ∈ ss, s < n) → q.1.length = n → q.2.length = n → DBd q → (∀ k, q.1.getD k 0 ≤ 2) → Wk n q (allD nxt n ss q).2 := by
  intro ss
  induction ss with
  | nil => intro q _ h1 h2 h3 _; exact .refl h1 h2 h3
  | cons s ss ih =>
    intro q hs h1 h2 h3 hle
    rw [allD]
    by_cases c : q.1.getD s 0 = 0
    · rw [if_pos c]
      have w := (visD_wk hin n q s (hs s (by simp)) c (by rw [← h1]; exact List.countP_le_length) h1 h2 h3 hle).1
      split
      · exact w.trans (ih _ (fun x hx => hs x (by simp [hx])) w.l1 w.l2 w.bd (fun x => w.two x (hle x)))
      · exact w
    · rw [if_neg c]
      exact ih _ (fun x hx => hs x (by simp [hx])) h1 h2 h3 hle
theorem dfsG_len {L R} (h : goodLp L R = true) : (dfsG L R).2.2.length = 2 * L.length := by
  have hal := nxtOf_alt (goodN h).inside
  rw [toN_len] at hal
  have hle : ∀ k, (q0 (2 * L.length)).1.getD k 0 ≤ 2 := fun k => by rw [show (q0 (2 * L.length)).1.getD k 0 = 0 from getD_rep _ k]; omega
  exact (allD_wk (fun a k hk => (hal a k hk).1) (List.range (2 * L.length)) (q0 (2 * L.length)) (fun s hs => List.mem_range.1 hs) (by simp [q0]) (by simp [q0]) (q0_bd _) hle).l2
theorem implStopper_ok (L R : List (List Int)) : FCr Try.prog 58 [RLp L R] (RVb (stops L R)) := by
  cases hg : goodLp L R with
  | false =>
    have h1 : stops L R = false := by simp [stops, hg]
    rw [h1]
    refine (fcr_in Try.func58 rfl (by simp only [Try.ntmps58, anys, List.length_cons, List.length_nil, Nat.reduceAdd, Nat.reduceSub, List.replicate_succ, List.replicate_zero, List.cons_append, List.nil_append] <;> rfl) ?_)
    repeat' first
      | refine w_seq ?_
      | refine w_region ?_
      | refine l_nil ?_
      | refine rt_n ?_
      | refine w_ret ?_
      | refine rt_ret ?_
      | refine w_skip ?_
      | refine w_cond_t rfl ?_
      | refine w_cond_f rfl ?_
      | refine w_cnd rfl (fun hc => ?_) (fun hc => ?_)
      | refine w_cd rfl (fun hc => ?_) (fun hc => ?_)
      | refine w_cn rfl (fun hc => ?_) (fun hc => ?_)
      | refine w_cond rfl (fun hc => ?_) (fun hc => ?_)
      | (refine l_o ?_; first | refine l_op rfl (by first | (apply k_callf; first | exact ops_callf (hfc := hg ▸ implGood_ok L R) | fail) | fail) (hk := ?_) | refine l_op (hk := ?_))
    refine en_end (hf := Try.results58) (hr := ?_); simp only [ne, nf, nl, nr, lget, reduceIte, Nat.reduceEqDiff]; first | rfl | refine congrArg RVb ?_ | refine congrArg RVi ?_ | skip
  | true =>
    have h1 : stops L R = (dfsG L R).1 := by simp [stops, hg]
    have hT := turnsFromG hg
    rw [h1]
    generalize dfsG L R = d at *
    obtain ⟨b, ph, tn⟩ := d
    cases b with
    | false =>
      simp only [Bool.false_eq_true, if_false] at hT
      refine (fcr_in Try.func58 rfl (by simp only [Try.ntmps58, anys, List.length_cons, List.length_nil, Nat.reduceAdd, Nat.reduceSub, List.replicate_succ, List.replicate_zero, List.cons_append, List.nil_append] <;> rfl) ?_)
      repeat' first
        | refine w_seq ?_
        | refine w_region ?_
        | refine l_nil ?_
        | refine rt_n ?_
        | refine w_ret ?_
        | refine rt_ret ?_
        | refine w_skip ?_
        | refine w_cond_t rfl ?_
        | refine w_cond_f rfl ?_
        | refine w_cnd rfl (fun hc => ?_) (fun hc => ?_)
        | refine w_cd rfl (fun hc => ?_) (fun hc => ?_)
        | refine w_cn rfl (fun hc => ?_) (fun hc => ?_)
        | refine w_cond rfl (fun hc => ?_) (fun hc => ?_)
        | (refine l_o ?_; first | refine l_op rfl (by first | (apply k_callf; first | exact ops_callf (hfc := hg ▸ implGood_ok L R) | exact ops_callf (hfc := hT) | fail) | fail) (hk := ?_) | refine l_op (hk := ?_))
      refine en_end (hf := Try.results58) (hr := ?_); simp only [ne, nf, nl, nr, lget, reduceIte, Nat.reduceEqDiff]; first | rfl | refine congrArg RVb ?_ | refine congrArg RVi ?_ | skip
    | true =>
      simp only [if_true] at hT
      refine (fcr_in Try.func58 rfl (by simp only [Try.ntmps58, anys, List.length_cons, List.length_nil, Nat.reduceAdd, Nat.reduceSub, List.replicate_succ, List.replicate_zero, List.cons_append, List.nil_append] <;> rfl) ?_)
      repeat' first
        | refine w_seq ?_
        | refine w_region ?_
        | refine l_nil ?_
        | refine rt_n ?_
        | refine w_ret ?_
        | refine rt_ret ?_
        | refine w_skip ?_
        | refine w_cond_t rfl ?_
        | refine w_cond_f rfl ?_
        | refine w_cnd rfl (fun hc => ?_) (fun hc => ?_)
        | refine w_cd rfl (fun hc => ?_) (fun hc => ?_)
        | refine w_cn rfl (fun hc => ?_) (fun hc => ?_)
        | refine w_cond rfl (fun hc => ?_) (fun hc => ?_)
        | (refine l_o ?_; first | refine l_op rfl (by first | (apply k_callf; first | exact ops_callf (hfc := hg ▸ implGood_ok L R) | exact ops_callf (hfc := hT) | fail) | fail) (hk := ?_) | refine l_op (hk := ?_))
      refine en_end (hf := Try.results58) (hr := ?_); simp only [ne, nf, nl, nr, lget, reduceIte, Nat.reduceEqDiff]; first | rfl | refine congrArg RVb ?_ | refine congrArg RVi ?_ | skip
theorem isPlace_ok (L R : List (List Int)) (a : Int) : FCr Try.prog 64 [RLp L R, RVi a] (RVb (decide (0 ≤ a) && decide (a < L.length))) := by
  refine (fcr_in Try.func64 rfl (by simp only [Try.ntmps64, anys, List.length_cons, List.length_nil, Nat.reduceAdd, Nat.reduceSub, List.replicate_succ, List.replicate_zero, List.cons_append, List.nil_append] <;> rfl) ?_)
  repeat' first
    | refine w_seq ?_
    | refine w_region ?_
    | refine l_nil ?_
    | refine rt_n ?_
    | refine w_ret ?_
    | refine rt_ret ?_
    | refine w_skip ?_
    | (refine l_o ?_; first | refine l_op (hk := ?_) | (refine l_g ?_; first | refine l_y rfl rfl rfl ?_ | refine l_n rfl rfl rfl rfl (hk := ?_) | refine l_n' rfl rfl rfl (hk := ?_) | refine l_spnd rfl rfl rfl (h1 := fun hc => ?_) (h2 := fun hc => ?_) | refine l_spd rfl rfl rfl (h1 := fun hc => ?_) (h2 := fun hc => ?_) | refine l_spn rfl rfl rfl (h1 := fun hc => ?_) (h2 := fun hc => ?_) | refine l_sp rfl rfl rfl (h1 := fun hc => ?_) (h2 := fun hc => ?_)))
  all_goals refine en_one (hf := Try.results64) (h := ?_); simp only [lget]; first | refine congrArg RVb ?_ | refine congrArg RVi ?_ | skip
  all_goals simp [*]
end Go.Proofs.Ytmalajoglcpijaa
