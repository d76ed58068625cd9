/- Lists of ints marked and looked at again, as the drawn laws do it. For all lists of the lengths that the theorem names. -/
import Derived.Test.YtmfbcipjknjicaaJ6
namespace Go.Proofs.Ytmfbcipjknjicaa
open Eng
attribute [local irreducible] OpS OpG FC FCr Rel Fl Ef DR Fs
set_option linter.unusedSimpArgs false
set_option maxHeartbeats 0
set_option maxRecDepth 100000

/-- The numbers from k on, n of them. -/
def fromN (k n : Nat) : List Int := (List.range n).map fun j => ((k + j : Nat) : Int)
theorem fromN_length (k n : Nat) : (fromN k n).length = n := by simp [fromN]
/-- A list whose first i numbers are marked. -/
def markI (k : Nat) (l : List Int) (i : Nat) : List Int := fromN k i ++ l.drop i
theorem markI_length {k : Nat} {l : List Int} {i : Nat} (h : i ≤ l.length) : (markI k l i).length = l.length := by simp [markI, fromN_length]; omega
theorem markI_zero (k : Nat) (l : List Int) : markI k l 0 = l := by simp [markI, fromN]
theorem markI_all (k : Nat) (l : List Int) (i : Nat) (h : l.length ≤ i) (h2 : i ≤ l.length) : markI k l i = fromN k l.length := by
  obtain rfl : i = l.length := by omega
  simp [markI]
theorem markI_set {k : Nat} {l : List Int} {i : Nat} (h : i < l.length) : (markI k l i).set i ((k + i : Nat) : Int) = markI k l (i + 1) := by
  unfold markI
  rw [List.set_append_right _ _ (by simp [fromN_length]), fromN_length, Nat.sub_self, List.drop_eq_getElem_cons h, List.set_cons_zero]
  simp [fromN, List.range_succ]
theorem markIntS_ok (l : List Int) (k : Nat) (h : k + l.length ≤ 1099511627776) : FC Try.prog 20 [.ref 1000000000000 0 l.length, RVi k] [(1000000000000, 1, l.map RVi)]
    (fun rv O => rv = RVi ((k + l.length : Nat) : Int) ∧ O = [(1000000000000, 1, (fromN k l.length).map RVi)]) := by
  refine (fc_in Try.func20 rfl (by simp only [Try.ntmps20, anys, List.length_cons, List.length_nil, Nat.reduceAdd, Nat.reduceSub, List.replicate_succ, List.replicate_zero, List.cons_append, List.nil_append] <;> rfl) ?_)
  repeat' first
    | refine w_seq ?_
    | refine w_block ?_
    | refine rb_n ?_
    | refine rb_ret ?_
    | refine rb_eq ?_
    | refine rb_ne (by rfl) ?_
    | refine w_exit ?_
    | refine rt_exit ?_
    | refine w_region ?_
    | refine l_nil ?_
    | refine rt_n ?_
    | refine w_ret ?_
    | refine rt_ret ?_
    | refine w_skip ?_
    | refine w_cond_t rfl ?_
    | refine w_cond_f rfl ?_
    | refine w_cnd rfl (fun hc => ?_) (fun hc => ?_)
    | refine w_cd rfl (fun hc => ?_) (fun hc => ?_)
    | refine w_cn rfl (fun hc => ?_) (fun hc => ?_)
    | refine w_cond rfl (fun hc => ?_) (fun hc => ?_)
    | (refine l_o ?_; first | refine l_op (hk := ?_))
  refine w_loopm (ι := Nat) (fun i => [(5, RVi i), (1, RVi ((k + i : Nat) : Int))]) (fun i => [(1000000000000, 1, (markI k l i).map RVi)]) (fun i => i ≤ l.length) (fun i => l.length - i) 0 (h0 := ?_) (hs := ?_) (round := ?_)
  · omega
  · refine le_eq ?_ rfl ?_
    · (repeat' first | exact .nil | refine .keep ?_ | refine .any ?_); first | done | fail
    · rw [markI_zero]
  · intro i hi
    have hml := markI_length (k := k) hi
    repeat' first
      | refine w_seq ?_
      | refine w_block ?_
      | refine rb_n ?_
      | refine rb_ret ?_
      | refine rb_eq ?_
      | refine rb_ne (by rfl) ?_
      | refine w_exit ?_
      | refine rt_exit ?_
      | refine w_region ?_
      | refine l_nil ?_
      | refine rt_n ?_
      | refine w_ret ?_
      | refine rt_ret ?_
      | refine w_skip ?_
      | refine w_cond_t rfl ?_
      | refine w_cond_f rfl ?_
      | refine w_cnd rfl (fun hc => ?_) (fun hc => ?_)
      | refine w_cd rfl (fun hc => ?_) (fun hc => ?_)
      | refine w_cn rfl (fun hc => ?_) (fun hc => ?_)
      | refine w_cond rfl (fun hc => ?_) (fun hc => ?_)
      | (refine l_o ?_; first | refine l_op (hk := ?_))
    · refine rn_mk (i + 1) ?_ ?_ ?_
      · first | omega | (dsimp only; omega)
      · first | omega | (dsimp only; omega)
      · refine le_eq ?_ rfl ?_
        · (repeat' first | exact .nil | refine .keep ?_ | refine .any ?_); first | done | fail
        · rw [markI_set (by omega)]
    · obtain rfl : i = l.length := by omega
      refine en_endm [] (hf := Try.results20) (hO := ?_) (hr := ?_)
      · rw [markI_all _ _ _ (Nat.le_refl _) (Nat.le_refl _)]; rfl
      · rfl

/-- Whether a list holds the numbers from k on. -/
def heldI (k : Nat) : List Int → Bool
  | [] => true
  | x :: xs => if x ≠ (k : Int) then false else heldI (k + 1) xs
theorem heldIntS_ok (l : List Int) (k : Nat) (h : k + l.length ≤ 1099511627776) : FCr Try.prog 21 [RIs l, RVi k] (RVi (if heldI k l then ((k + l.length : Nat) : Int) else -1)) := by
  refine (fcr_in Try.func21 rfl (by simp only [Try.ntmps21, anys, List.length_cons, List.length_nil, Nat.reduceAdd, Nat.reduceSub, List.replicate_succ, List.replicate_zero, List.cons_append, List.nil_append] <;> rfl) ?_)
  repeat' first
    | refine w_seq ?_
    | refine w_block ?_
    | refine rb_n ?_
    | refine rb_ret ?_
    | refine rb_eq ?_
    | refine rb_ne (by rfl) ?_
    | refine w_exit ?_
    | refine rt_exit ?_
    | refine w_region ?_
    | refine l_nil ?_
    | refine rt_n ?_
    | refine w_ret ?_
    | refine rt_ret ?_
    | refine w_skip ?_
    | refine w_cond_t rfl ?_
    | refine w_cond_f rfl ?_
    | refine w_cnd rfl (fun hc => ?_) (fun hc => ?_)
    | refine w_cd rfl (fun hc => ?_) (fun hc => ?_)
    | refine w_cn rfl (fun hc => ?_) (fun hc => ?_)
    | refine w_cond rfl (fun hc => ?_) (fun hc => ?_)
    | (refine l_o ?_; first | refine l_op (hk := ?_))
  refine w_loopm (ι := Nat) (fun i => [(5, RVi i), (1, RVi ((k + i : Nat) : Int))]) (fun _ => []) (fun i => i ≤ l.length ∧ heldI (k + i) (l.drop i) = heldI k l) (fun i => l.length - i) 0 (h0 := ?_) (hs := ?_) (round := ?_)
  · simp
  · refine le_eq (by (repeat' first | exact .nil | refine .keep ?_ | refine .any ?_); first | done | fail) rfl rfl
  · intro i ⟨hi, hg⟩
    repeat' first
      | refine w_seq ?_
      | refine w_block ?_
      | refine rb_n ?_
      | refine rb_ret ?_
      | refine rb_eq ?_
      | refine rb_ne (by rfl) ?_
      | refine w_exit ?_
      | refine rt_exit ?_
      | refine w_region ?_
      | refine l_nil ?_
      | refine rt_n ?_
      | refine w_ret ?_
      | refine rt_ret ?_
      | refine w_skip ?_
      | refine w_cond_t rfl ?_
      | refine w_cond_f rfl ?_
      | refine w_cnd rfl (fun hc => ?_) (fun hc => ?_)
      | refine w_cd rfl (fun hc => ?_) (fun hc => ?_)
      | refine w_cn rfl (fun hc => ?_) (fun hc => ?_)
      | refine w_cond rfl (fun hc => ?_) (fun hc => ?_)
      | (refine l_o ?_; first | refine l_op (hk := ?_))
    · refine en_one (hf := Try.results21) (h := ?_); simp only [lget]; first | refine congrArg RVb ?_ | refine congrArg RVi ?_ | skip
      grind [heldI, dc]
    · refine rn_mk (i + 1) ?_ (by first | omega | (dsimp only; omega)) (le_eq (by (repeat' first | exact .nil | refine .keep ?_ | refine .any ?_); first | done | fail) rfl rfl)
      rw [dc (by omega), heldI, if_neg hc] at hg
      exact ⟨by omega, hg⟩
    · refine en_one (hf := Try.results21) (h := ?_); simp only [lget]; first | refine congrArg RVb ?_ | refine congrArg RVi ?_ | skip
      rw [dn hc] at hg
      obtain rfl : i = l.length := by omega
      rw [← hg]; rfl
theorem heldI_fromN (k n : Nat) : heldI k (fromN k n) = true := by
  induction n generalizing k with
  | zero => rfl
  | succ n ih =>
    have e : fromN k (n + 1) = (k : Int) :: fromN (k + 1) n := by
      simp only [fromN, List.range_succ_eq_map, List.map_cons, List.map_map]
      congr 1
      apply List.map_congr_left
      intro j _
      simp; omega
    rw [e, heldI, if_neg (by simp)]
    exact ih (k + 1)

end Go.Proofs.Ytmfbcipjknjicaa
