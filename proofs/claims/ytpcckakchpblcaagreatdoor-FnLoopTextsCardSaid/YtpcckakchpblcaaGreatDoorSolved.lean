/- A solved loop: the program's solvedLoop; the reference's helpers on places. For all loops. -/
import Derived.Test.YtpcckakchpblcaaGreatDoorNewArena
namespace Go.Proofs.YtpcckakchpblcaaGreatDoor
open Eng
attribute [local irreducible] OpS OpG FC FCr Rel Fl Ef DR Fs
set_option linter.unusedSimpArgs false
set_option maxHeartbeats 0
set_option maxRecDepth 100000

/-- A loop's lists as whole numbers without sign. -/
def toN (L : List (List Int)) : List (List Nat) := L.map fun l => l.map Int.toNat
theorem toN_len (L) : (toN L).length = L.length := by simp [toN]
theorem goodT_mem {n : Int} (l : List Int) : ∀ p, -1 ≤ p → goodT n p l = true → ∀ x ∈ l, 0 ≤ x ∧ x < n := by
  induction l with
  | nil => intro p _ _ x hx; cases hx
  | cons y ys ih =>
    intro p hp h x hx
    simp only [goodT] at h
    split at h
    · cases h
    · rename_i hh
      have := ih y (by omega) h x
      rcases List.mem_cons.1 hx with rfl | hx
      · omega
      · exact this hx
theorem tgtOk_mem {n : Int} {l : List Int} (h : tgtOk n l = true) : ∀ x ∈ l, 0 ≤ x ∧ x < n := by
  unfold tgtOk at h
  split at h
  · cases h
  · exact goodT_mem l (-1) (by omega) h
theorem RIss_toN {L : List (List Int)} (h : ∀ r ∈ L, ∀ x ∈ r, 0 ≤ x) : RIss L = RNss (toN L) := by
  show RV.sh (L.map RIs) = RV.sh ((L.map fun l => l.map Int.toNat).map RNs)
  rw [List.map_map]
  refine congrArg RV.sh (List.map_congr_left fun r hr => ?_)
  show RV.sh (r.map RVi) = RV.sh ((r.map Int.toNat).map RVn)
  rw [List.map_map]
  refine congrArg RV.sh (List.map_congr_left fun x hx => ?_)
  have := h r hr x hx
  show RVi x = RVi (x.toNat : Int)
  rw [Int.toNat_of_nonneg this]
theorem toN_mem {L : List (List Int)} {l} (h : l ∈ toN L) : ∃ r ∈ L, l = r.map Int.toNat := by
  simp only [toN, List.mem_map] at h
  obtain ⟨r, h1, h2⟩ := h
  exact ⟨r, h1, h2.symm⟩
structure GoodN (L R : List (List Int)) : Prop where
  inside : Inside (toN L) (toN R)
  len1 : 1 ≤ L.length
  len : L.length ≤ 36
  lenR : R.length = L.length
  eL : RIss L = RNss (toN L)
  eR : RIss R = RNss (toN R)
  lL : ∀ l ∈ toN L, l.length ≤ 24
  lR : ∀ l ∈ toN R, l.length ≤ 24
theorem goodN {L R : List (List Int)} (h : goodLp L R = true) : GoodN L R := by
  obtain ⟨h1, h2, h3, h4, h5⟩ := goodLp_small h
  refine ⟨⟨by simp [toN_len, h3], ?_, ?_⟩, h1, h2, h3, RIss_toN fun r hr x hx => (tgtOk_mem (h4 r hr) x hx).1, RIss_toN fun r hr x hx => (tgtOk_mem (h5 r hr) x hx).1, ?_, ?_⟩
  · intro l hl k hk
    obtain ⟨r, hr, rfl⟩ := toN_mem hl
    obtain ⟨x, hx, rfl⟩ := List.mem_map.1 hk
    have := tgtOk_mem (h4 r hr) x hx
    rw [toN_len]; omega
  · intro l hl k hk
    obtain ⟨r, hr, rfl⟩ := toN_mem hl
    obtain ⟨x, hx, rfl⟩ := List.mem_map.1 hk
    have := tgtOk_mem (h5 r hr) x hx
    rw [toN_len]; omega
  · intro l hl
    obtain ⟨r, hr, rfl⟩ := toN_mem hl
    simpa using tgtOk_len (h4 r hr)
  · intro l hl
    obtain ⟨r, hr, rfl⟩ := toN_mem hl
    simpa using tgtOk_len (h5 r hr)

/-- The graph of a loop, its results, the state of a place. -/
def nxtG (L R : List (List Int)) : List (List Nat) := nxtOf (toN L) (toN R)
def finG (L R : List (List Int)) : List (Int × Int) := fin (nxtG L R) (2 * L.length)
def stN (a : Nat) (left : Bool) : Nat := if left then 2 * a else 2 * a + 1
def okAt (L R : List (List Int)) (a : Int) : Bool := goodLp L R && decide (0 ≤ a) && decide (a < L.length)
theorem nxtG_len {L R} : (nxtG L R).length = 2 * L.length := by rw [nxtG, nxtOf, nxtTo_len, toN_len]
theorem finG_len {L R} : (finG L R).length = 2 * L.length := rounds_len _ _ _
theorem newArenaG {L R} (h : goodLp L R = true) : FCr Tryz.prog 65 [RIss L, RIss R] (.agg [ONss (nxtG L R), .ow 2 ((finG L R).map RR)]) := by
  have g := goodN h
  have hN := newArena_ok (toN L) (toN R) g.inside (by rw [toN_len]; have := g.len; omega) (fun l hl => by have := g.lL l hl; omega) (fun l hl => by have := g.lR l hl; omega)
  rw [← g.eL, ← g.eR, toN_len] at hN
  exact hN

theorem stateOf_ok (a : Nat) (left : Bool) (h : a ≤ 1099511627776) : FCr Tryz.prog 66 [RVn a, RVb left] (RVn (stN a left)) := by
  refine (fcr_in Tryz.func66 rfl (by simp only [Tryz.ntmps66, anys, List.length_cons, List.length_nil, Nat.reduceAdd, Nat.reduceSub, List.replicate_succ, List.replicate_zero, List.cons_append, List.nil_append] <;> rfl) ?_)
  repeat' first
    | refine w_seq ?_
    | refine w_region ?_
    | refine l_nil ?_
    | refine rt_n ?_
    | refine w_ret ?_
    | refine rt_ret ?_
    | refine w_skip ?_
    | refine w_cond_t rfl ?_
    | refine w_cond_f rfl ?_
    | refine w_cnd rfl (fun hc => ?_) (fun hc => ?_)
    | refine w_cd rfl (fun hc => ?_) (fun hc => ?_)
    | refine w_cn rfl (fun hc => ?_) (fun hc => ?_)
    | refine w_cond rfl (fun hc => ?_) (fun hc => ?_)
    | (refine l_o ?_; first | refine l_op rfl (by first | (apply k_mul; first | exact ops_muln (a := 2) rfl rfl (by omega) | fail) | (apply k_add; first | exact ops_addn (b := 1) rfl rfl (by omega) | fail) | fail) (hk := ?_) | refine l_op (hk := ?_))
  all_goals
    refine en_one (hf := Tryz.results66) (h := ?_); simp only [lget]; first | refine congrArg RVb ?_ | refine congrArg RVi ?_ | skip
    simp [stN, *]
theorem l25Side_ok (a : Nat) (left : Bool) (h : a ≤ 1099511627776) : FCr Tryz.prog 63 [RVn a, RVb left] (RVn (stN a left)) := by
  refine (fcr_in Tryz.func63 rfl (by simp only [Tryz.ntmps63, anys, List.length_cons, List.length_nil, Nat.reduceAdd, Nat.reduceSub, List.replicate_succ, List.replicate_zero, List.cons_append, List.nil_append] <;> rfl) ?_)
  repeat' first
    | refine w_seq ?_
    | refine w_region ?_
    | refine l_nil ?_
    | refine rt_n ?_
    | refine w_ret ?_
    | refine rt_ret ?_
    | refine w_skip ?_
    | refine w_cond_t rfl ?_
    | refine w_cond_f rfl ?_
    | refine w_cnd rfl (fun hc => ?_) (fun hc => ?_)
    | refine w_cd rfl (fun hc => ?_) (fun hc => ?_)
    | refine w_cn rfl (fun hc => ?_) (fun hc => ?_)
    | refine w_cond rfl (fun hc => ?_) (fun hc => ?_)
    | (refine l_o ?_; first | refine l_op rfl (by first | (apply k_mul; first | exact ops_muln (a := 2) rfl rfl (by omega) | fail) | (apply k_add; first | exact ops_addn (b := 1) rfl rfl (by omega) | fail) | fail) (hk := ?_) | refine l_op (hk := ?_))
  all_goals
    refine en_one (hf := Tryz.results63) (h := ?_); simp only [lget]; first | refine congrArg RVb ?_ | refine congrArg RVi ?_ | skip
    simp [stN, *]
theorem l25Who_ok (L R : List (List Nat)) (a : Nat) (left : Bool) (h : a < L.length) (h2 : a < R.length) : FCr Tryz.prog 62 [.agg [RNss L, RNss R], RVn a, RVb left] (RNs (if left then L[a] else R[a])) := by
  cases left with
  | true =>
    refine (fcr_in Tryz.func62 rfl (by simp only [Tryz.ntmps62, anys, List.length_cons, List.length_nil, Nat.reduceAdd, Nat.reduceSub, List.replicate_succ, List.replicate_zero, List.cons_append, List.nil_append] <;> rfl) ?_)
    repeat' first
      | refine w_seq ?_
      | refine w_region ?_
      | refine l_nil ?_
      | refine rt_n ?_
      | refine w_ret ?_
      | refine rt_ret ?_
      | refine w_skip ?_
      | refine w_cond_t rfl ?_
      | refine w_cond_f rfl ?_
      | refine w_cnd rfl (fun hc => ?_) (fun hc => ?_)
      | refine w_cd rfl (fun hc => ?_) (fun hc => ?_)
      | refine w_cn rfl (fun hc => ?_) (fun hc => ?_)
      | refine w_cond rfl (fun hc => ?_) (fun hc => ?_)
      | (refine l_o ?_; first | refine l_op (hk := ?_))
    refine en_end (hf := Tryz.results62) (hr := ?_); simp only [ne, nf, nl, nr, lget, reduceIte, Nat.reduceEqDiff]; first | rfl | refine congrArg RVb ?_ | refine congrArg RVi ?_ | skip
  | false =>
    refine (fcr_in Tryz.func62 rfl (by simp only [Tryz.ntmps62, anys, List.length_cons, List.length_nil, Nat.reduceAdd, Nat.reduceSub, List.replicate_succ, List.replicate_zero, List.cons_append, List.nil_append] <;> rfl) ?_)
    repeat' first
      | refine w_seq ?_
      | refine w_region ?_
      | refine l_nil ?_
      | refine rt_n ?_
      | refine w_ret ?_
      | refine rt_ret ?_
      | refine w_skip ?_
      | refine w_cond_t rfl ?_
      | refine w_cond_f rfl ?_
      | refine w_cnd rfl (fun hc => ?_) (fun hc => ?_)
      | refine w_cd rfl (fun hc => ?_) (fun hc => ?_)
      | refine w_cn rfl (fun hc => ?_) (fun hc => ?_)
      | refine w_cond rfl (fun hc => ?_) (fun hc => ?_)
      | (refine l_o ?_; first | refine l_op (hk := ?_))
    refine en_end (hf := Tryz.results62) (hr := ?_); simp only [ne, nf, nl, nr, lget, reduceIte, Nat.reduceEqDiff]; first | rfl | refine congrArg RVb ?_ | refine congrArg RVi ?_ | skip

/-- What solvedLoop gives: nothing where the place isn't one. -/
def slvA (L R : List (List Int)) (a : Int) : List (List Nat) := if okAt L R a then nxtG L R else []
def slvB (L R : List (List Int)) (a : Int) : List (Int × Int) := if okAt L R a then finG L R else []
def slvS (L R : List (List Int)) (a : Int) (left : Bool) : Nat := if okAt L R a then stN a.toNat left else 0
end Go.Proofs.YtpcckakchpblcaaGreatDoor
