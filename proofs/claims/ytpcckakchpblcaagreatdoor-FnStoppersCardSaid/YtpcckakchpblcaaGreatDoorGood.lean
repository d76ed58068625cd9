/- Good loops: what the reference and the program say of a loop is one and the same test. For all loops. -/
import Derived.Test.YtpcckakchpblcaaGreatDoorJ8
namespace Go.Proofs.YtpcckakchpblcaaGreatDoor
open Eng
attribute [local irreducible] OpS OpG FC FCr Rel Fl Ef DR Fs
set_option linter.unusedSimpArgs false
set_option maxHeartbeats 0
set_option maxRecDepth 100000

/-- A list that rises within two bounds, after a number. -/
def rising (lo hi : Int) : Option Int → List Int → Bool
  | _, [] => true
  | p, x :: xs => if ¬ (lo ≤ x ∧ x ≤ hi) ∨ (∃ q, p = some q ∧ x ≤ q) then false else rising lo hi (some x) xs
/-- What stands ahead of a place. -/
def ahead (l : List Int) (k : Nat) : Option Int := if k = 0 then none else l[k - 1]?
theorem ahead_succ {l : List Int} {k : Nat} (h : k < l.length) : ahead l (k + 1) = some l[k] := by simp [ahead, h]
theorem ahead_pos {l : List Int} {k : Nat} (h : k < l.length) (h2 : 0 < k) : ahead l k = some l[k - 1] := by simp [ahead]; omega

theorem l1Rising_ok (l : List Int) (lo hi : Int) : FCr Tryz.prog 54 [RIs l, RVi lo, RVi hi] (RVb (rising lo hi none l)) := by
  refine fcr_lens fun hL => ?_
  simp only [lnk] at hL
  refine (fcr_in Tryz.func54 rfl (by simp only [Tryz.ntmps54, anys, List.length_cons, List.length_nil, Nat.reduceAdd, Nat.reduceSub, List.replicate_succ, List.replicate_zero, List.cons_append, List.nil_append] <;> rfl) ?_)
  repeat' first
    | refine w_seq ?_
    | refine w_block ?_
    | refine rb_n ?_
    | refine rb_ret ?_
    | refine rb_eq ?_
    | refine rb_ne (by rfl) ?_
    | refine w_exit ?_
    | refine rt_exit ?_
    | refine w_region ?_
    | refine l_nil ?_
    | refine rt_n ?_
    | refine w_ret ?_
    | refine rt_ret ?_
    | refine w_skip ?_
    | refine w_cond_t rfl ?_
    | refine w_cond_f rfl ?_
    | refine w_cnd rfl (fun hc => ?_) (fun hc => ?_)
    | refine w_cd rfl (fun hc => ?_) (fun hc => ?_)
    | refine w_cn rfl (fun hc => ?_) (fun hc => ?_)
    | refine w_cond rfl (fun hc => ?_) (fun hc => ?_)
    | (refine l_o ?_; first | refine l_op (hk := ?_) | (refine l_g ?_; first | refine l_y rfl rfl rfl ?_ | refine l_n rfl rfl rfl rfl (hk := ?_) | refine l_n' rfl rfl rfl (hk := ?_) | refine l_spnd rfl rfl rfl (h1 := fun hc => ?_) (h2 := fun hc => ?_) | refine l_spd rfl rfl rfl (h1 := fun hc => ?_) (h2 := fun hc => ?_) | refine l_spn rfl rfl rfl (h1 := fun hc => ?_) (h2 := fun hc => ?_) | refine l_sp rfl rfl rfl (h1 := fun hc => ?_) (h2 := fun hc => ?_)))
    | refine d_nil ?_
    | (refine d_o ?_; first | refine d_fl (hk := ?_) | refine d_ef (hk := ?_) | (refine d_g ?_; first | refine d_spnd rfl rfl rfl (h1 := fun hc => ?_) (h2 := fun hc => ?_) | refine d_spd rfl rfl rfl (h1 := fun hc => ?_) (h2 := fun hc => ?_) | refine d_spn rfl rfl rfl (h1 := fun hc => ?_) (h2 := fun hc => ?_) | refine d_sp rfl rfl rfl (h1 := fun hc => ?_) (h2 := fun hc => ?_)))
    | (refine w_o ?_; first | refine w_draw (id := 4) (fun _ => true) (fun k => [6].contains k) [[]] 64 (by kernel_rfl) rfl (by kernel_rfl) (by simp [nm, nset, -List.map_take, -List.map_drop]) ?_)
  refine w_loopm (ι := Nat) (fun k => [(7, RVi k)]) (fun _ => []) (fun k => k ≤ l.length ∧ rising lo hi (ahead l k) (l.drop k) = rising lo hi none l) (fun k => l.length - k) 0 (h0 := ?_) (hs := ?_) (round := ?_)
  · simp [ahead]
  · refine le_eq (by (repeat' first | exact .nil | refine .keep ?_ | refine .any ?_); first | done | fail) rfl rfl
  · intro k ⟨hk, hg⟩
    repeat' first
      | refine w_seq ?_
      | refine w_block ?_
      | refine rb_n ?_
      | refine rb_ret ?_
      | refine rb_eq ?_
      | refine rb_ne (by rfl) ?_
      | refine w_exit ?_
      | refine rt_exit ?_
      | refine w_region ?_
      | refine l_nil ?_
      | refine rt_n ?_
      | refine w_ret ?_
      | refine rt_ret ?_
      | refine w_skip ?_
      | refine w_cond_t rfl ?_
      | refine w_cond_f rfl ?_
      | refine w_cnd rfl (fun hc => ?_) (fun hc => ?_)
      | refine w_cd rfl (fun hc => ?_) (fun hc => ?_)
      | refine w_cn rfl (fun hc => ?_) (fun hc => ?_)
      | refine w_cond rfl (fun hc => ?_) (fun hc => ?_)
      | (refine l_o ?_; first | refine l_op rfl (by first | (apply k_sub; first | exact ops_dec rfl (by omega) (by omega) | fail) | (apply k_callf; first | exact ops_callf (hfc := l1In_ok _ _ _) | fail) | fail) (hk := ?_) | refine l_op (hk := ?_) | (refine l_g ?_; first | refine l_y rfl rfl rfl ?_ | refine l_n rfl rfl rfl rfl (hk := ?_) | refine l_n' rfl rfl rfl (hk := ?_) | refine l_spnd rfl rfl rfl (h1 := fun hc => ?_) (h2 := fun hc => ?_) | refine l_spd rfl rfl rfl (h1 := fun hc => ?_) (h2 := fun hc => ?_) | refine l_spn rfl rfl rfl (h1 := fun hc => ?_) (h2 := fun hc => ?_) | refine l_sp rfl rfl rfl (h1 := fun hc => ?_) (h2 := fun hc => ?_)))
      | refine d_nil ?_
      | (refine d_o ?_; first | refine d_fl rfl (by first | exact .pl (by first | (apply q_sub; first | exact fs_dec rfl (by omega) (by omega) | fail) | fail) | exact .ye rfl rfl rfl (by first | (apply q_sub; first | exact fs_dec rfl (by omega) (by omega) | fail) | fail) | fail) (hk := ?_) | refine d_fl (hk := ?_) | refine d_ef rfl (by first | exact .callf (hfc := l1In_ok _ _ _) | exact .callfY (hfc := l1In_ok _ _ _) | fail) (hk := ?_) | refine d_ef (hk := ?_) | (refine d_g ?_; first | refine d_spnd rfl rfl rfl (h1 := fun hc => ?_) (h2 := fun hc => ?_) | refine d_spd rfl rfl rfl (h1 := fun hc => ?_) (h2 := fun hc => ?_) | refine d_spn rfl rfl rfl (h1 := fun hc => ?_) (h2 := fun hc => ?_) | refine d_sp rfl rfl rfl (h1 := fun hc => ?_) (h2 := fun hc => ?_)))
      | (refine w_o ?_; first | refine w_draw (id := 4) (fun _ => true) (fun k => [6].contains k) [[]] 64 (by kernel_rfl) rfl (by kernel_rfl) (by simp [nm, nset, -List.map_take, -List.map_drop]) ?_)
    · refine en_one (hf := Tryz.results54) (h := ?_); simp only [lget]; first | refine congrArg RVb ?_ | refine congrArg RVi ?_ | skip
      rw [dc (by omega)] at hg
      rw [← hg, rising, if_pos (Or.inl (by simpa using hc))]
    · refine en_one (hf := Tryz.results54) (h := ?_); simp only [lget]; first | refine congrArg RVb ?_ | refine congrArg RVi ?_ | skip
      rw [dc (by omega)] at hg
      rw [← hg, rising, if_pos (Or.inr ⟨l[k - 1], ahead_pos (by omega) (by omega), hc⟩)]
    · rename_i h1 h2 h3
      refine rn_mk (k + 1) ?_ (by first | omega | (dsimp only; omega)) (le_eq (by (repeat' first | exact .nil | refine .keep ?_ | refine .any ?_); first | done | fail) rfl rfl)
      refine ⟨by omega, ?_⟩
      rw [dc (by omega)] at hg
      rw [ahead_succ (by omega), ← hg, rising, if_neg]
      rintro (h | ⟨q, hq, h⟩)
      · exact h (by simpa using h2)
      · rw [ahead_pos (by omega) (by omega)] at hq; injection hq with hq; omega
    · rename_i h1 h2
      refine rn_mk (k + 1) ?_ (by first | omega | (dsimp only; omega)) (le_eq (by (repeat' first | exact .nil | refine .keep ?_ | refine .any ?_); first | done | fail) rfl rfl)
      refine ⟨by omega, ?_⟩
      rw [dc (by omega)] at hg
      rw [ahead_succ (by omega), ← hg, rising, if_neg]
      rintro (h | ⟨q, hq, h⟩)
      · exact h (by simpa using h2)
      · simp only [ahead] at hq; rw [if_pos (by omega)] at hq; cases hq
    · refine en_one (hf := Tryz.results54) (h := ?_); simp only [lget]; first | refine congrArg RVb ?_ | refine congrArg RVi ?_ | skip
      rw [dn hc] at hg
      rw [← hg]; rfl

/-- A list that rises below a bound, after a number. -/
def goodT (n : Int) : Int → List Int → Bool
  | _, [] => true
  | p, x :: xs => if x ≤ p ∨ n ≤ x then false else goodT n x xs
/-- The lists of a good loop of n places. -/
def tgtOk (n : Int) (l : List Int) : Bool := if 24 < l.length then false else goodT n (-1) l
theorem goodTargets_ok (l : List Int) (n : Int) : FCr Tryz.prog 33 [RIs l, RVi n] (RVb (tgtOk n l)) := by
  refine fcr_lens fun hL => ?_
  simp only [lnk] at hL
  refine (fcr_in Tryz.func33 rfl (by simp only [Tryz.ntmps33, anys, List.length_cons, List.length_nil, Nat.reduceAdd, Nat.reduceSub, List.replicate_succ, List.replicate_zero, List.cons_append, List.nil_append] <;> rfl) ?_)
  repeat' first
    | refine w_seq ?_
    | refine w_block ?_
    | refine rb_n ?_
    | refine rb_ret ?_
    | refine rb_eq ?_
    | refine rb_ne (by rfl) ?_
    | refine w_exit ?_
    | refine rt_exit ?_
    | refine w_region ?_
    | refine l_nil ?_
    | refine rt_n ?_
    | refine w_ret ?_
    | refine rt_ret ?_
    | refine w_skip ?_
    | refine w_cond_t rfl ?_
    | refine w_cond_f rfl ?_
    | refine w_cnd rfl (fun hc => ?_) (fun hc => ?_)
    | refine w_cd rfl (fun hc => ?_) (fun hc => ?_)
    | refine w_cn rfl (fun hc => ?_) (fun hc => ?_)
    | refine w_cond rfl (fun hc => ?_) (fun hc => ?_)
    | (refine l_o ?_; first | refine l_op (hk := ?_) | (refine l_g ?_; first | refine l_y rfl rfl rfl ?_ | refine l_n rfl rfl rfl rfl (hk := ?_) | refine l_n' rfl rfl rfl (hk := ?_) | refine l_spnd rfl rfl rfl (h1 := fun hc => ?_) (h2 := fun hc => ?_) | refine l_spd rfl rfl rfl (h1 := fun hc => ?_) (h2 := fun hc => ?_) | refine l_spn rfl rfl rfl (h1 := fun hc => ?_) (h2 := fun hc => ?_) | refine l_sp rfl rfl rfl (h1 := fun hc => ?_) (h2 := fun hc => ?_)))
  · refine en_one (hf := Tryz.results33) (h := ?_); simp only [lget]; first | refine congrArg RVb ?_ | refine congrArg RVi ?_ | skip
    grind [tgtOk]
  have hn := hc; clear hc
  refine w_loopm (ι := Nat × Int) (fun k => [(13, RVi k.1), (5, RVi k.2)]) (fun _ => []) (fun k => k.1 ≤ l.length ∧ goodT n k.2 (l.drop k.1) = goodT n (-1) l) (fun k => l.length - k.1) (0, -1) (h0 := ?_) (hs := ?_) (round := ?_)
  · simp
  · refine le_eq (by (repeat' first | exact .nil | refine .keep ?_ | refine .any ?_); first | done | fail) rfl rfl
  · intro ⟨k, p⟩ ⟨hk, hg⟩
    dsimp only at hk hg ⊢
    repeat' first
      | refine w_seq ?_
      | refine w_block ?_
      | refine rb_n ?_
      | refine rb_ret ?_
      | refine rb_eq ?_
      | refine rb_ne (by rfl) ?_
      | refine w_exit ?_
      | refine rt_exit ?_
      | refine w_region ?_
      | refine l_nil ?_
      | refine rt_n ?_
      | refine w_ret ?_
      | refine rt_ret ?_
      | refine w_skip ?_
      | refine w_cond_t rfl ?_
      | refine w_cond_f rfl ?_
      | refine w_cnd rfl (fun hc => ?_) (fun hc => ?_)
      | refine w_cd rfl (fun hc => ?_) (fun hc => ?_)
      | refine w_cn rfl (fun hc => ?_) (fun hc => ?_)
      | refine w_cond rfl (fun hc => ?_) (fun hc => ?_)
      | (refine l_o ?_; first | refine l_op (hk := ?_) | (refine l_g ?_; first | refine l_y rfl rfl rfl ?_ | refine l_n rfl rfl rfl rfl (hk := ?_) | refine l_n' rfl rfl rfl (hk := ?_) | refine l_spnd rfl rfl rfl (h1 := fun hc => ?_) (h2 := fun hc => ?_) | refine l_spd rfl rfl rfl (h1 := fun hc => ?_) (h2 := fun hc => ?_) | refine l_spn rfl rfl rfl (h1 := fun hc => ?_) (h2 := fun hc => ?_) | refine l_sp rfl rfl rfl (h1 := fun hc => ?_) (h2 := fun hc => ?_)))
    · refine en_one (hf := Tryz.results33) (h := ?_); simp only [lget]; first | refine congrArg RVb ?_ | refine congrArg RVi ?_ | skip
      grind [tgtOk, goodT, dc]
    · refine en_one (hf := Tryz.results33) (h := ?_); simp only [lget]; first | refine congrArg RVb ?_ | refine congrArg RVi ?_ | skip
      grind [tgtOk, goodT, dc]
    · refine rn_mk (k + 1, l[k]) ?_ (by first | omega | (dsimp only; omega)) (le_eq (by (repeat' first | exact .nil | refine .keep ?_ | refine .any ?_); first | done | fail) rfl rfl)
      grind [tgtOk, goodT, dc]
    · refine en_one (hf := Tryz.results33) (h := ?_); simp only [lget]; first | refine congrArg RVb ?_ | refine congrArg RVi ?_ | skip
      grind [tgtOk, goodT, dn]

theorem rising_goodT (n : Int) (l : List Int) : ∀ p : Int, -1 ≤ p → rising 0 (n - 1) (some p) l = goodT n p l := by
  induction l with
  | nil => intro p _; rfl
  | cons x xs ih =>
    intro p hp
    simp only [rising, goodT]
    by_cases h : x ≤ p ∨ n ≤ x
    · rw [if_pos h, if_pos]
      rcases h with h | h
      · exact Or.inr ⟨p, rfl, h⟩
      · exact Or.inl (by omega)
    · rw [if_neg h, if_neg]
      · exact ih x (by omega)
      · rintro (h2 | ⟨q, hq, h2⟩)
        · omega
        · cases hq; omega
theorem rising_goodT0 (n : Int) (l : List Int) : rising 0 (n - 1) none l = goodT n (-1) l := by
  cases l with
  | nil => rfl
  | cons x xs =>
    simp only [rising, goodT]
    by_cases h : x ≤ -1 ∨ n ≤ x
    · rw [if_pos h, if_pos (Or.inl (by omega))]
    · rw [if_neg h, if_neg]
      · exact rising_goodT n xs x (by omega)
      · rintro (h2 | ⟨q, hq, h2⟩)
        · omega
        · cases hq

def pairsOk (n : Int) : List (List Int) → List (List Int) → Bool
  | l :: ls, r :: rs => if tgtOk n l = false ∨ tgtOk n r = false then false else pairsOk n ls rs
  | _, _ => true
theorem pairsOk_at {n : Int} {L R : List (List Int)} {k : Nat} (h : k < L.length) (h2 : k < R.length) : pairsOk n (L.drop k) (R.drop k) = if tgtOk n L[k] = false ∨ tgtOk n R[k] = false then false else pairsOk n (L.drop (k + 1)) (R.drop (k + 1)) := by
  rw [List.drop_eq_getElem_cons h, List.drop_eq_getElem_cons h2]; rfl
theorem pairsOk_end {n : Int} {L R : List (List Int)} {k : Nat} (h : L.length ≤ k) : pairsOk n (L.drop k) (R.drop k) = true := by
  rw [List.drop_of_length_le h]; simp [pairsOk]
theorem tgtOk_rising (n : Int) (l : List Int) : tgtOk n l = if 24 < l.length then false else rising 0 (n - 1) none l := by rw [rising_goodT0]; rfl
def goodLp (L R : List (List Int)) : Bool := if L.length < 1 ∨ 36 < L.length ∨ R.length ≠ L.length then false else pairsOk L.length L R

theorem implGood_ok (L R : List (List Int)) : FCr Tryz.prog 13 [RLp L R] (RVb (goodLp L R)) := by
  refine fcr_lens fun hL => ?_
  simp only [lnk] at hL
  refine (fcr_in Tryz.func13 rfl (by simp only [Tryz.ntmps13, anys, List.length_cons, List.length_nil, Nat.reduceAdd, Nat.reduceSub, List.replicate_succ, List.replicate_zero, List.cons_append, List.nil_append] <;> rfl) ?_)
  repeat' first
    | refine w_seq ?_
    | refine w_block ?_
    | refine rb_n ?_
    | refine rb_ret ?_
    | refine rb_eq ?_
    | refine rb_ne (by rfl) ?_
    | refine w_exit ?_
    | refine rt_exit ?_
    | refine w_region ?_
    | refine l_nil ?_
    | refine rt_n ?_
    | refine w_ret ?_
    | refine rt_ret ?_
    | refine w_skip ?_
    | refine w_cond_t rfl ?_
    | refine w_cond_f rfl ?_
    | refine w_cnd rfl (fun hc => ?_) (fun hc => ?_)
    | refine w_cd rfl (fun hc => ?_) (fun hc => ?_)
    | refine w_cn rfl (fun hc => ?_) (fun hc => ?_)
    | refine w_cond rfl (fun hc => ?_) (fun hc => ?_)
    | (refine l_o ?_; first | refine l_op (hk := ?_) | (refine l_g ?_; first | refine l_y rfl rfl rfl ?_ | refine l_n rfl rfl rfl rfl (hk := ?_) | refine l_n' rfl rfl rfl (hk := ?_) | refine l_spnd rfl rfl rfl (h1 := fun hc => ?_) (h2 := fun hc => ?_) | refine l_spd rfl rfl rfl (h1 := fun hc => ?_) (h2 := fun hc => ?_) | refine l_spn rfl rfl rfl (h1 := fun hc => ?_) (h2 := fun hc => ?_) | refine l_sp rfl rfl rfl (h1 := fun hc => ?_) (h2 := fun hc => ?_)))
  · refine en_one (hf := Tryz.results13) (h := ?_); simp only [lget]; first | refine congrArg RVb ?_ | refine congrArg RVi ?_ | skip
    grind [goodLp]
  · refine en_one (hf := Tryz.results13) (h := ?_); simp only [lget]; first | refine congrArg RVb ?_ | refine congrArg RVi ?_ | skip
    grind [goodLp]
  · refine en_one (hf := Tryz.results13) (h := ?_); simp only [lget]; first | refine congrArg RVb ?_ | refine congrArg RVi ?_ | skip
    grind [goodLp]
  have hn : ¬ (L.length < 1 ∨ 36 < L.length ∨ R.length ≠ L.length) := by omega
  clear hc
  refine w_loopk (ι := Nat) (fun k => [(22, RVi k)]) (fun k => k ≤ L.length ∧ pairsOk L.length (L.drop k) (R.drop k) = pairsOk L.length L R) (fun k => L.length - k) 0 (h0 := ?_) (hs := ?_) (round := ?_)
  · simp
  · refine le_eq (by (repeat' first | exact .nil | refine .keep ?_ | refine .any ?_); first | done | fail) rfl rfl
  · intro k ⟨hk, hg⟩
    repeat' first
      | refine w_seq ?_
      | refine w_block ?_
      | refine rb_n ?_
      | refine rb_ret ?_
      | refine rb_eq ?_
      | refine rb_ne (by rfl) ?_
      | refine w_exit ?_
      | refine rt_exit ?_
      | refine w_region ?_
      | refine l_nil ?_
      | refine rt_n ?_
      | refine w_ret ?_
      | refine rt_ret ?_
      | refine w_skip ?_
      | refine w_cond_t rfl ?_
      | refine w_cond_f rfl ?_
      | refine w_cnd rfl (fun hc => ?_) (fun hc => ?_)
      | refine w_cd rfl (fun hc => ?_) (fun hc => ?_)
      | refine w_cn rfl (fun hc => ?_) (fun hc => ?_)
      | refine w_cond rfl (fun hc => ?_) (fun hc => ?_)
      | (refine l_o ?_; first | refine l_op rfl (by first | (apply k_callf; first | exact ops_callf (hfc := goodTargets_ok _ _) | fail) | fail) (hk := ?_) | refine l_op (hk := ?_) | (refine l_g ?_; first | refine l_y rfl rfl rfl ?_ | refine l_n rfl rfl rfl rfl (hk := ?_) | refine l_n' rfl rfl rfl (hk := ?_) | refine l_spnd rfl rfl rfl (h1 := fun hc => ?_) (h2 := fun hc => ?_) | refine l_spd rfl rfl rfl (h1 := fun hc => ?_) (h2 := fun hc => ?_) | refine l_spn rfl rfl rfl (h1 := fun hc => ?_) (h2 := fun hc => ?_) | refine l_sp rfl rfl rfl (h1 := fun hc => ?_) (h2 := fun hc => ?_)))
    · refine en_one (hf := Tryz.results13) (h := ?_); simp only [lget]; first | refine congrArg RVb ?_ | refine congrArg RVi ?_ | skip
      rw [pairsOk_at (by omega) (by omega), if_pos (Or.inl hc)] at hg
      rw [goodLp, if_neg hn, ← hg]
    · refine en_one (hf := Tryz.results13) (h := ?_); simp only [lget]; first | refine congrArg RVb ?_ | refine congrArg RVi ?_ | skip
      rw [pairsOk_at (by omega) (by omega), if_pos (Or.inr hc)] at hg
      rw [goodLp, if_neg hn, ← hg]
    · rename_i h1 h2
      refine rn_mk (k + 1) ?_ (by first | omega | (dsimp only; omega)) (le_eq (by (repeat' first | exact .nil | refine .keep ?_ | refine .any ?_); first | done | fail) rfl rfl)
      rw [pairsOk_at (by omega) (by omega), if_neg (by simp [h2, hc])] at hg
      exact ⟨by omega, hg⟩
    · refine en_one (hf := Tryz.results13) (h := ?_); simp only [lget]; first | refine congrArg RVb ?_ | refine congrArg RVi ?_ | skip
      rw [pairsOk_end (by omega)] at hg
      rw [goodLp, if_neg hn, ← hg]

theorem specGood_ok (L R : List (List Int)) : FCr Tryz.prog 29 [RLp L R] (RVb (goodLp L R)) := by
  refine fcr_lens fun hL => ?_
  simp only [lnk] at hL
  refine (fcr_in Tryz.func29 rfl (by simp only [Tryz.ntmps29, anys, List.length_cons, List.length_nil, Nat.reduceAdd, Nat.reduceSub, List.replicate_succ, List.replicate_zero, List.cons_append, List.nil_append] <;> rfl) ?_)
  repeat' first
    | refine w_seq ?_
    | refine w_block ?_
    | refine rb_n ?_
    | refine rb_ret ?_
    | refine rb_eq ?_
    | refine rb_ne (by rfl) ?_
    | refine w_exit ?_
    | refine rt_exit ?_
    | refine w_region ?_
    | refine l_nil ?_
    | refine rt_n ?_
    | refine w_ret ?_
    | refine rt_ret ?_
    | refine w_skip ?_
    | refine w_cond_t rfl ?_
    | refine w_cond_f rfl ?_
    | refine w_cnd rfl (fun hc => ?_) (fun hc => ?_)
    | refine w_cd rfl (fun hc => ?_) (fun hc => ?_)
    | refine w_cn rfl (fun hc => ?_) (fun hc => ?_)
    | refine w_cond rfl (fun hc => ?_) (fun hc => ?_)
    | (refine l_o ?_; first | refine l_op rfl (by first | (apply k_callf; first | exact ops_callf (hfc := l1In_ok _ _ _) | fail) | fail) (hk := ?_) | refine l_op (hk := ?_) | (refine l_g ?_; first | refine l_y rfl rfl rfl ?_ | refine l_n rfl rfl rfl rfl (hk := ?_) | refine l_n' rfl rfl rfl (hk := ?_) | refine l_spnd rfl rfl rfl (h1 := fun hc => ?_) (h2 := fun hc => ?_) | refine l_spd rfl rfl rfl (h1 := fun hc => ?_) (h2 := fun hc => ?_) | refine l_spn rfl rfl rfl (h1 := fun hc => ?_) (h2 := fun hc => ?_) | refine l_sp rfl rfl rfl (h1 := fun hc => ?_) (h2 := fun hc => ?_)))
  · refine en_one (hf := Tryz.results29) (h := ?_); simp only [lget]; first | refine congrArg RVb ?_ | refine congrArg RVi ?_ | skip
    rw [goodLp, if_pos (by simp at hc; omega)]
  · refine en_one (hf := Tryz.results29) (h := ?_); simp only [lget]; first | refine congrArg RVb ?_ | refine congrArg RVi ?_ | skip
    rw [goodLp, if_pos (by omega)]
  have hn : ¬ (L.length < 1 ∨ 36 < L.length ∨ R.length ≠ L.length) := by
    rename_i h; simp at h hc; omega
  clear hc
  have hR : R.length = L.length := by omega
  refine w_loopk (ι := Nat) (fun k => [(4, RVi k)]) (fun k => k ≤ L.length ∧ pairsOk L.length (L.drop k) (R.drop k) = pairsOk L.length L R) (fun k => L.length - k) 0 (h0 := ?_) (hs := ?_) (round := ?_)
  · simp
  · refine le_eq (by (repeat' first | exact .nil | refine .keep ?_ | refine .any ?_); first | done | fail) rfl rfl
  · intro k ⟨hk, hg⟩
    repeat' first
      | refine w_seq ?_
      | refine w_block ?_
      | refine rb_n ?_
      | refine rb_ret ?_
      | refine rb_eq ?_
      | refine rb_ne (by rfl) ?_
      | refine w_exit ?_
      | refine rt_exit ?_
      | refine w_region ?_
      | refine l_nil ?_
      | refine rt_n ?_
      | refine w_ret ?_
      | refine rt_ret ?_
      | refine w_skip ?_
      | refine w_cond_t rfl ?_
      | refine w_cond_f rfl ?_
      | refine w_cnd rfl (fun hc => ?_) (fun hc => ?_)
      | refine w_cd rfl (fun hc => ?_) (fun hc => ?_)
      | refine w_cn rfl (fun hc => ?_) (fun hc => ?_)
      | refine w_cond rfl (fun hc => ?_) (fun hc => ?_)
      | (refine l_o ?_; first | refine l_op rfl (by first | (apply k_callf; first | exact ops_callf (hfc := l1Rising_ok _ _ _) | fail) | fail) (hk := ?_) | refine l_op (hk := ?_) | (refine l_g ?_; first | refine l_y rfl rfl rfl ?_ | refine l_n rfl rfl rfl rfl (hk := ?_) | refine l_n' rfl rfl rfl (hk := ?_) | refine l_spnd rfl rfl rfl (h1 := fun hc => ?_) (h2 := fun hc => ?_) | refine l_spd rfl rfl rfl (h1 := fun hc => ?_) (h2 := fun hc => ?_) | refine l_spn rfl rfl rfl (h1 := fun hc => ?_) (h2 := fun hc => ?_) | refine l_sp rfl rfl rfl (h1 := fun hc => ?_) (h2 := fun hc => ?_)))
    · refine en_one (hf := Tryz.results29) (h := ?_); simp only [lget]; first | refine congrArg RVb ?_ | refine congrArg RVi ?_ | skip
      rw [pairsOk_at (by omega) (by omega), if_pos (Or.inl (by rw [tgtOk, if_pos (by omega)]))] at hg
      rw [goodLp, if_neg hn, ← hg]
    · refine en_one (hf := Tryz.results29) (h := ?_); simp only [lget]; first | refine congrArg RVb ?_ | refine congrArg RVi ?_ | skip
      rw [pairsOk_at (by omega) (by omega), if_pos (Or.inr (by rw [tgtOk, if_pos (by omega)]))] at hg
      rw [goodLp, if_neg hn, ← hg]
    · refine en_one (hf := Tryz.results29) (h := ?_); simp only [lget]; first | refine congrArg RVb ?_ | refine congrArg RVi ?_ | skip
      rw [pairsOk_at (by omega) (by omega), if_pos (Or.inl (by rw [tgtOk_rising, hc]; simp))] at hg
      rw [goodLp, if_neg hn, ← hg]
    · refine en_one (hf := Tryz.results29) (h := ?_); simp only [lget]; first | refine congrArg RVb ?_ | refine congrArg RVi ?_ | skip
      rw [pairsOk_at (by omega) (by omega), if_pos (Or.inr (by rw [tgtOk_rising, hc]; simp))] at hg
      rw [goodLp, if_neg hn, ← hg]
    · rename_i h1 h2 h3 h4
      refine rn_mk (k + 1) ?_ (by first | omega | (dsimp only; omega)) (le_eq (by (repeat' first | exact .nil | refine .keep ?_ | refine .any ?_); first | done | fail) rfl rfl)
      rw [pairsOk_at (by omega) (by omega), if_neg (by rw [tgtOk_rising, tgtOk_rising, if_neg (by omega), if_neg (by omega), hc, h4]; simp)] at hg
      exact ⟨by omega, hg⟩
    · refine en_one (hf := Tryz.results29) (h := ?_); simp only [lget]; first | refine congrArg RVb ?_ | refine congrArg RVi ?_ | skip
      rw [pairsOk_end (by omega)] at hg
      rw [goodLp, if_neg hn, ← hg]

theorem goodLp_small {L R : List (List Int)} (h : goodLp L R = true) : 1 ≤ L.length ∧ L.length ≤ 36 ∧ R.length = L.length ∧ (∀ r ∈ L, tgtOk L.length r = true) ∧ ∀ r ∈ R, tgtOk L.length r = true := by
  unfold goodLp at h
  split at h
  · cases h
  · rename_i hn
    have hp : ∀ (n : Int) (A B : List (List Int)), A.length = B.length → pairsOk n A B = true → (∀ r ∈ A, tgtOk n r = true) ∧ ∀ r ∈ B, tgtOk n r = true := by
      intro n A
      induction A with
      | nil => intro B hB _; simp at hB; have : B = [] := List.eq_nil_of_length_eq_zero hB.symm; subst this; simp
      | cons a A ih =>
        intro B hB h
        cases B with
        | nil => simp at hB
        | cons b B =>
          simp only [pairsOk] at h
          split at h
          · cases h
          · rename_i hh
            have := ih B (by simpa using hB) h
            grind
    have := hp _ _ _ (by omega) h
    exact ⟨by omega, by omega, by omega, this.1, this.2⟩
theorem tgtOk_len {n : Int} {l : List Int} (h : tgtOk n l = true) : l.length ≤ 24 := by
  unfold tgtOk at h; split at h
  · cases h
  · omega
end Go.Proofs.YtpcckakchpblcaaGreatDoor
