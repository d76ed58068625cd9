/- Lists of bools compared, marked and looked at again, as the drawn laws do it. For all lists of the lengths that the theorem names. -/
import Derived.Test.YtmalajoglcpijaaMarks
namespace Go.Proofs.Ytmalajoglcpijaa
open Eng
attribute [local irreducible] OpS OpG FC FCr Rel Fl Ef DR Fs
set_option linter.unusedSimpArgs false
set_option maxHeartbeats 0
set_option maxRecDepth 100000

theorem eqBoolS_ok (l m : List Bool) : FCr Try.prog 60 [RBs l, RBs m] (RVb (decide (l = m))) := by
  refine fcr_lens fun hL => ?_
  simp only [lnk] at hL
  refine (fcr_in Try.func60 rfl (by simp only [Try.ntmps60, anys, List.length_cons, List.length_nil, Nat.reduceAdd, Nat.reduceSub, List.replicate_succ, List.replicate_zero, List.cons_append, List.nil_append] <;> rfl) ?_)
  repeat' first
    | refine w_seq ?_
    | refine w_block ?_
    | refine rb_n ?_
    | refine rb_ret ?_
    | refine rb_eq ?_
    | refine rb_ne (by rfl) ?_
    | refine w_exit ?_
    | refine rt_exit ?_
    | refine w_region ?_
    | refine l_nil ?_
    | refine rt_n ?_
    | refine w_ret ?_
    | refine rt_ret ?_
    | refine w_skip ?_
    | refine w_cond_t rfl ?_
    | refine w_cond_f rfl ?_
    | refine w_cnd rfl (fun hc => ?_) (fun hc => ?_)
    | refine w_cd rfl (fun hc => ?_) (fun hc => ?_)
    | refine w_cn rfl (fun hc => ?_) (fun hc => ?_)
    | refine w_cond rfl (fun hc => ?_) (fun hc => ?_)
    | (refine l_o ?_; first | refine l_op (hk := ?_))
    | refine d_nil ?_
    | (refine d_o ?_; first | refine d_fl (hk := ?_) | refine d_ef (hk := ?_))
    | (refine w_o ?_; first | refine w_draw (id := 6) (fun _ => true) (fun k => [].contains k) [] 64 (by kernel_rfl) rfl (by kernel_rfl) (by simp [nm, nset, -List.map_take, -List.map_drop]) ?_)
  · refine en_one (hf := Try.results60) (h := ?_); simp only [lget]; first | refine congrArg RVb ?_ | refine congrArg RVi ?_ | skip
    grind
  have hn : l.length = m.length := by omega
  clear hc
  refine w_loopm (ι := Nat) (fun k => [(5, RVi k)]) (fun _ => []) (fun k => k ≤ l.length ∧ ((l.drop k = m.drop k) ↔ l = m)) (fun k => l.length - k) 0 (h0 := ?_) (hs := ?_) (round := ?_)
  · simp
  · refine le_eq (by (repeat' first | exact .nil | refine .keep ?_ | refine .any ?_); first | done | fail) rfl rfl
  · intro k ⟨hk, hg⟩
    repeat' first
      | refine w_seq ?_
      | refine w_block ?_
      | refine rb_n ?_
      | refine rb_ret ?_
      | refine rb_eq ?_
      | refine rb_ne (by rfl) ?_
      | refine w_exit ?_
      | refine rt_exit ?_
      | refine w_region ?_
      | refine l_nil ?_
      | refine rt_n ?_
      | refine w_ret ?_
      | refine rt_ret ?_
      | refine w_skip ?_
      | refine w_cond_t rfl ?_
      | refine w_cond_f rfl ?_
      | refine w_cnd rfl (fun hc => ?_) (fun hc => ?_)
      | refine w_cd rfl (fun hc => ?_) (fun hc => ?_)
      | refine w_cn rfl (fun hc => ?_) (fun hc => ?_)
      | refine w_cond rfl (fun hc => ?_) (fun hc => ?_)
      | (refine l_o ?_; first | refine l_op (hk := ?_))
      | refine d_nil ?_
      | (refine d_o ?_; first | refine d_fl (hk := ?_) | refine d_ef (hk := ?_))
      | (refine w_o ?_; first | refine w_draw (id := 6) (fun _ => true) (fun k => [].contains k) [] 64 (by kernel_rfl) rfl (by kernel_rfl) (by simp [nm, nset, -List.map_take, -List.map_drop]) ?_)
    · refine en_one (hf := Try.results60) (h := ?_); simp only [lget]; first | refine congrArg RVb ?_ | refine congrArg RVi ?_ | skip
      grind [drop_both]
    · refine rn_mk (k + 1) ?_ (by first | omega | (dsimp only; omega)) (le_eq (by (repeat' first | exact .nil | refine .keep ?_ | refine .any ?_); first | done | fail) rfl rfl)
      grind [drop_both]
    · refine en_one (hf := Try.results60) (h := ?_); simp only [lget]; first | refine congrArg RVb ?_ | refine congrArg RVi ?_ | skip
      grind [dn]

theorem eqBoolSS_ok (l m : List (List Bool)) : FCr Try.prog 22 [RBss l, RBss m] (RVb (decide (l = m))) := by
  refine fcr_lens fun hL => ?_
  simp only [lnk] at hL
  refine (fcr_in Try.func22 rfl (by simp only [Try.ntmps22, anys, List.length_cons, List.length_nil, Nat.reduceAdd, Nat.reduceSub, List.replicate_succ, List.replicate_zero, List.cons_append, List.nil_append] <;> rfl) ?_)
  repeat' first
    | refine w_seq ?_
    | refine w_block ?_
    | refine rb_n ?_
    | refine rb_ret ?_
    | refine rb_eq ?_
    | refine rb_ne (by rfl) ?_
    | refine w_exit ?_
    | refine rt_exit ?_
    | refine w_region ?_
    | refine l_nil ?_
    | refine rt_n ?_
    | refine w_ret ?_
    | refine rt_ret ?_
    | refine w_skip ?_
    | refine w_cond_t rfl ?_
    | refine w_cond_f rfl ?_
    | refine w_cnd rfl (fun hc => ?_) (fun hc => ?_)
    | refine w_cd rfl (fun hc => ?_) (fun hc => ?_)
    | refine w_cn rfl (fun hc => ?_) (fun hc => ?_)
    | refine w_cond rfl (fun hc => ?_) (fun hc => ?_)
    | (refine l_o ?_; first | refine l_op (hk := ?_))
    | refine d_nil ?_
    | (refine d_o ?_; first | refine d_fl (hk := ?_) | refine d_ef (hk := ?_))
    | (refine w_o ?_; first | refine w_draw (id := 6) (fun _ => true) (fun k => [8].contains k) [[]] 64 (by kernel_rfl) rfl (by kernel_rfl) (by simp [nm, nset, -List.map_take, -List.map_drop]) ?_)
  · refine en_one (hf := Try.results22) (h := ?_); simp only [lget]; first | refine congrArg RVb ?_ | refine congrArg RVi ?_ | skip
    grind
  have hn : l.length = m.length := by omega
  clear hc
  refine w_loopm (ι := Nat) (fun k => [(5, RVi k)]) (fun _ => []) (fun k => k ≤ l.length ∧ ((l.drop k = m.drop k) ↔ l = m)) (fun k => l.length - k) 0 (h0 := ?_) (hs := ?_) (round := ?_)
  · simp
  · refine le_eq (by (repeat' first | exact .nil | refine .keep ?_ | refine .any ?_); first | done | fail) rfl rfl
  · intro k ⟨hk, hg⟩
    repeat' first
      | refine w_seq ?_
      | refine w_block ?_
      | refine rb_n ?_
      | refine rb_ret ?_
      | refine rb_eq ?_
      | refine rb_ne (by rfl) ?_
      | refine w_exit ?_
      | refine rt_exit ?_
      | refine w_region ?_
      | refine l_nil ?_
      | refine rt_n ?_
      | refine w_ret ?_
      | refine rt_ret ?_
      | refine w_skip ?_
      | refine w_cond_t rfl ?_
      | refine w_cond_f rfl ?_
      | refine w_cnd rfl (fun hc => ?_) (fun hc => ?_)
      | refine w_cd rfl (fun hc => ?_) (fun hc => ?_)
      | refine w_cn rfl (fun hc => ?_) (fun hc => ?_)
      | refine w_cond rfl (fun hc => ?_) (fun hc => ?_)
      | (refine l_o ?_; first | refine l_op rfl (by first | (apply k_callf; first | exact ops_callf (hfc := eqBoolS_ok _ _) | fail) | fail) (hk := ?_) | refine l_op (hk := ?_))
      | refine d_nil ?_
      | (refine d_o ?_; first | refine d_fl (hk := ?_) | refine d_ef rfl (by first | exact .callf (hfc := eqBoolS_ok _ _) | fail) (hk := ?_) | refine d_ef (hk := ?_))
      | (refine w_o ?_; first | refine w_draw (id := 6) (fun _ => true) (fun k => [8].contains k) [[]] 64 (by kernel_rfl) rfl (by kernel_rfl) (by simp [nm, nset, -List.map_take, -List.map_drop]) ?_)
    · refine en_one (hf := Try.results22) (h := ?_); simp only [lget]; first | refine congrArg RVb ?_ | refine congrArg RVi ?_ | skip
      grind [drop_both]
    · refine rn_mk (k + 1) ?_ (by first | omega | (dsimp only; omega)) (le_eq (by (repeat' first | exact .nil | refine .keep ?_ | refine .any ?_); first | done | fail) rfl rfl)
      grind [drop_both]
    · refine en_one (hf := Try.results22) (h := ?_); simp only [lget]; first | refine congrArg RVb ?_ | refine congrArg RVi ?_ | skip
      grind [dn]

/-- The k-th mark. -/
def mkB (k : Nat) : Bool := decide (((k % 3 : Nat) : Int) = 0)
def fromB (k n : Nat) : List Bool := (List.range n).map fun j => mkB (k + j)
theorem fromB_length (k n : Nat) : (fromB k n).length = n := by simp [fromB]
/-- A list whose first i members are marked. -/
def markB (k : Nat) (l : List Bool) (i : Nat) : List Bool := fromB k i ++ l.drop i
theorem markB_length {k : Nat} {l : List Bool} {i : Nat} (h : i ≤ l.length) : (markB k l i).length = l.length := by simp [markB, fromB_length]; omega
theorem markB_zero (k : Nat) (l : List Bool) : markB k l 0 = l := by simp [markB, fromB]
theorem markB_all (k : Nat) (l : List Bool) (i : Nat) (h : l.length ≤ i) (h2 : i ≤ l.length) : markB k l i = fromB k l.length := by
  obtain rfl : i = l.length := by omega
  simp [markB]
theorem markB_set {k : Nat} {l : List Bool} {i : Nat} (h : i < l.length) : (markB k l i).set i (mkB (k + i)) = markB k l (i + 1) := by
  unfold markB
  rw [List.set_append_right _ _ (by simp [fromB_length]), fromB_length, Nat.sub_self, List.drop_eq_getElem_cons h, List.set_cons_zero]
  simp [fromB, List.range_succ]
theorem markBoolS_ok (l : List Bool) (k : Nat) (h : k + l.length ≤ 1099511627776) : FC Try.prog 61 [.ref 1000000000000 0 l.length, RVi k] [(1000000000000, 1, l.map RVb)]
    (fun rv O => rv = RVi ((k + l.length : Nat) : Int) ∧ O = [(1000000000000, 1, (fromB k l.length).map RVb)]) := by
  refine (fc_in Try.func61 rfl (by simp only [Try.ntmps61, anys, List.length_cons, List.length_nil, Nat.reduceAdd, Nat.reduceSub, List.replicate_succ, List.replicate_zero, List.cons_append, List.nil_append] <;> rfl) ?_)
  repeat' first
    | refine w_seq ?_
    | refine w_block ?_
    | refine rb_n ?_
    | refine rb_ret ?_
    | refine rb_eq ?_
    | refine rb_ne (by rfl) ?_
    | refine w_exit ?_
    | refine rt_exit ?_
    | refine w_region ?_
    | refine l_nil ?_
    | refine rt_n ?_
    | refine w_ret ?_
    | refine rt_ret ?_
    | refine w_skip ?_
    | refine w_cond_t rfl ?_
    | refine w_cond_f rfl ?_
    | refine w_cnd rfl (fun hc => ?_) (fun hc => ?_)
    | refine w_cd rfl (fun hc => ?_) (fun hc => ?_)
    | refine w_cn rfl (fun hc => ?_) (fun hc => ?_)
    | refine w_cond rfl (fun hc => ?_) (fun hc => ?_)
    | (refine l_o ?_; first | refine l_eqnil rfl (by kernel_rfl) (by intro b; simp only [nz]; rfl) (fun b hb => ?_) | refine l_op (hk := ?_))
  refine w_loopm (ι := Nat) (fun i => [(5, RVi i), (1, RVi ((k + i : Nat) : Int))]) (fun i => [(1000000000000, 1, (markB k l i).map RVb)]) (fun i => i ≤ l.length) (fun i => l.length - i) 0 (h0 := ?_) (hs := ?_) (round := ?_)
  · omega
  · refine le_eq ?_ rfl ?_
    · (repeat' first | exact .nil | refine .keep ?_ | refine .any ?_); first | done | fail
    · rw [markB_zero]
  · intro i hi
    have hml := markB_length (k := k) hi
    repeat' first
      | refine w_seq ?_
      | refine w_block ?_
      | refine rb_n ?_
      | refine rb_ret ?_
      | refine rb_eq ?_
      | refine rb_ne (by rfl) ?_
      | refine w_exit ?_
      | refine rt_exit ?_
      | refine w_region ?_
      | refine l_nil ?_
      | refine rt_n ?_
      | refine w_ret ?_
      | refine rt_ret ?_
      | refine w_skip ?_
      | refine w_cond_t rfl ?_
      | refine w_cond_f rfl ?_
      | refine w_cnd rfl (fun hc => ?_) (fun hc => ?_)
      | refine w_cd rfl (fun hc => ?_) (fun hc => ?_)
      | refine w_cn rfl (fun hc => ?_) (fun hc => ?_)
      | refine w_cond rfl (fun hc => ?_) (fun hc => ?_)
      | (refine l_o ?_; first | refine l_eqnil rfl (by kernel_rfl) (by intro b; simp only [nz]; rfl) (fun b hb => ?_) | refine l_op rfl (by first | (apply k_rem; first | exact ops_remn (m := k + i) (n := 3) rfl rfl (by omega) | fail) | fail) (hk := ?_) | refine l_op (hk := ?_))
    · refine rn_mk (i + 1) ?_ ?_ ?_
      · first | omega | (dsimp only; omega)
      · first | omega | (dsimp only; omega)
      · refine le_eq ?_ rfl ?_
        · (repeat' first | exact .nil | refine .keep ?_ | refine .any ?_); first | done | fail
        · rw [← markB_set (by omega)]; rfl
    · obtain rfl : i = l.length := by omega
      refine en_endm [] (hf := Try.results61) (hO := ?_) (hr := ?_)
      · rw [markB_all _ _ _ (Nat.le_refl _) (Nat.le_refl _)]; rfl
      · rfl

/-- Whether a list holds the marks from k on. -/
def heldB (k : Nat) : List Bool → Bool
  | [] => true
  | x :: xs => if x ≠ mkB k then false else heldB (k + 1) xs
theorem heldBoolS_ok (l : List Bool) (k : Nat) (h : k + l.length ≤ 1099511627776) : FCr Try.prog 62 [RBs l, RVi k] (RVi (if heldB k l then ((k + l.length : Nat) : Int) else -1)) := by
  refine (fcr_in Try.func62 rfl (by simp only [Try.ntmps62, anys, List.length_cons, List.length_nil, Nat.reduceAdd, Nat.reduceSub, List.replicate_succ, List.replicate_zero, List.cons_append, List.nil_append] <;> rfl) ?_)
  repeat' first
    | refine w_seq ?_
    | refine w_block ?_
    | refine rb_n ?_
    | refine rb_ret ?_
    | refine rb_eq ?_
    | refine rb_ne (by rfl) ?_
    | refine w_exit ?_
    | refine rt_exit ?_
    | refine w_region ?_
    | refine l_nil ?_
    | refine rt_n ?_
    | refine w_ret ?_
    | refine rt_ret ?_
    | refine w_skip ?_
    | refine w_cond_t rfl ?_
    | refine w_cond_f rfl ?_
    | refine w_cnd rfl (fun hc => ?_) (fun hc => ?_)
    | refine w_cd rfl (fun hc => ?_) (fun hc => ?_)
    | refine w_cn rfl (fun hc => ?_) (fun hc => ?_)
    | refine w_cond rfl (fun hc => ?_) (fun hc => ?_)
    | (refine l_o ?_; first | refine l_eqnil rfl (by kernel_rfl) (by intro b; simp only [nz]; rfl) (fun b hb => ?_) | refine l_op (hk := ?_))
  refine w_loopm (ι := Nat) (fun i => [(5, RVi i), (1, RVi ((k + i : Nat) : Int))]) (fun _ => []) (fun i => i ≤ l.length ∧ heldB (k + i) (l.drop i) = heldB k l) (fun i => l.length - i) 0 (h0 := ?_) (hs := ?_) (round := ?_)
  · simp
  · refine le_eq (by (repeat' first | exact .nil | refine .keep ?_ | refine .any ?_); first | done | fail) rfl rfl
  · intro i ⟨hi, hg⟩
    repeat' first
      | refine w_seq ?_
      | refine w_block ?_
      | refine rb_n ?_
      | refine rb_ret ?_
      | refine rb_eq ?_
      | refine rb_ne (by rfl) ?_
      | refine w_exit ?_
      | refine rt_exit ?_
      | refine w_region ?_
      | refine l_nil ?_
      | refine rt_n ?_
      | refine w_ret ?_
      | refine rt_ret ?_
      | refine w_skip ?_
      | refine w_cond_t rfl ?_
      | refine w_cond_f rfl ?_
      | refine w_cnd rfl (fun hc => ?_) (fun hc => ?_)
      | refine w_cd rfl (fun hc => ?_) (fun hc => ?_)
      | refine w_cn rfl (fun hc => ?_) (fun hc => ?_)
      | refine w_cond rfl (fun hc => ?_) (fun hc => ?_)
      | (refine l_o ?_; first | refine l_eqnil rfl (by kernel_rfl) (by intro b; simp only [nz]; rfl) (fun b hb => ?_) | refine l_op rfl (by first | (apply k_rem; first | exact ops_remn (m := k + i) (n := 3) rfl rfl (by omega) | fail) | fail) (hk := ?_) | refine l_op (hk := ?_))
    · refine en_one (hf := Try.results62) (h := ?_); simp only [lget]; first | refine congrArg RVb ?_ | refine congrArg RVi ?_ | skip
      rw [dc (by omega), heldB, if_pos (show l[i] ≠ mkB (k + i) from hc)] at hg
      rw [← hg]; rfl
    · refine rn_mk (i + 1) ?_ (by first | omega | (dsimp only; omega)) (le_eq (by (repeat' first | exact .nil | refine .keep ?_ | refine .any ?_); first | done | fail) rfl rfl)
      rw [dc (by omega), heldB, if_neg (show ¬ (l[i] ≠ mkB (k + i)) from fun h => h hc)] at hg
      exact ⟨by omega, hg⟩
    · refine en_one (hf := Try.results62) (h := ?_); simp only [lget]; first | refine congrArg RVb ?_ | refine congrArg RVi ?_ | skip
      rw [dn hc] at hg
      obtain rfl : i = l.length := by omega
      rw [← hg]; rfl
theorem heldB_fromB (k n : Nat) : heldB k (fromB k n) = true := by
  induction n generalizing k with
  | zero => rfl
  | succ n ih =>
    have e : fromB k (n + 1) = mkB k :: fromB (k + 1) n := by
      simp only [fromB, List.range_succ_eq_map, List.map_cons, List.map_map]
      congr 1
      apply List.map_congr_left
      intro j _
      simp only [Function.comp]
      rw [show k + (j + 1) = k + 1 + j by omega]
    rw [e, heldB, if_neg (by simp)]
    exact ih (k + 1)

/-- Rows marked one behind the other, the first i of them. -/
def markRB (k : Nat) : List (List Bool) → Nat → List (List Bool)
  | [], _ => []
  | r :: rs, 0 => r :: rs
  | r :: rs, i + 1 => fromB k r.length :: markRB (k + r.length) rs i
def lensB : List (List Bool) → Nat → Nat
  | [], _ => 0
  | _ :: _, 0 => 0
  | r :: rs, i + 1 => r.length + lensB rs i
theorem markRB_length (k : Nat) (L : List (List Bool)) (i : Nat) : (markRB k L i).length = L.length := by
  induction L generalizing k i with
  | nil => cases i <;> rfl
  | cons r rs ih => cases i <;> simp [markRB, ih]
theorem markRB_zero (k : Nat) (L : List (List Bool)) : markRB k L 0 = L := by cases L <;> rfl
theorem lensB_zero (L : List (List Bool)) : lensB L 0 = 0 := by cases L <;> rfl
theorem markRB_at {k : Nat} {L : List (List Bool)} {i : Nat} (h : i < L.length) : (markRB k L i)[i]? = some L[i] := by
  induction L generalizing k i with
  | nil => simp at h
  | cons r rs ih =>
    cases i with
    | zero => rfl
    | succ i => simp [markRB]; simpa using ih (k := k + r.length) (i := i) (by simpa using h)
theorem markRB_set {k : Nat} {L : List (List Bool)} {i : Nat} (h : i < L.length) : (markRB k L i).set i (fromB (k + lensB L i) L[i].length) = markRB k L (i + 1) := by
  induction L generalizing k i with
  | nil => simp at h
  | cons r rs ih =>
    cases i with
    | zero => simp [markRB, lensB, markRB_zero]
    | succ i =>
      simp only [markRB, List.set_cons_succ, lensB, List.getElem_cons_succ]
      rw [← ih (k := k + r.length) (i := i) (by simpa using h), Nat.add_assoc]
theorem lensB_succ {L : List (List Bool)} {i : Nat} (h : i < L.length) : lensB L (i + 1) = lensB L i + L[i].length := by
  induction L generalizing i with
  | nil => simp at h
  | cons r rs ih =>
    cases i with
    | zero => simp [lensB, lensB_zero]
    | succ i => simp only [lensB, List.getElem_cons_succ]; have := ih (i := i) (by simpa using h); omega
theorem lensB_le {L : List (List Bool)} {i : Nat} (h : i ≤ L.length) : lensB L i ≤ lensB L L.length := by
  induction L generalizing i with
  | nil => simp [lensB]
  | cons r rs ih =>
    cases i with
    | zero => simp [lensB]
    | succ i => simp only [lensB, List.length_cons]; have := ih (i := i) (by simpa using h); omega

theorem markBoolSS_ok (L : List (List Bool)) (k : Nat) (hL : L.length ≤ 1099511627776) (h : k + lensB L L.length ≤ 1099511627776) : FC Try.prog 23 [.ref 1000000000000 0 L.length, RVi k] [(1000000000000, 1, L.map OBs)]
    (fun rv O => rv = RVi ((k + lensB L L.length : Nat) : Int) ∧ O = [(1000000000000, 1, (markRB k L L.length).map OBs)]) := by
  refine (fc_in Try.func23 rfl (by simp only [Try.ntmps23, anys, List.length_cons, List.length_nil, Nat.reduceAdd, Nat.reduceSub, List.replicate_succ, List.replicate_zero, List.cons_append, List.nil_append] <;> rfl) ?_)
  repeat' first
    | refine w_seq ?_
    | refine w_block ?_
    | refine rb_n ?_
    | refine rb_ret ?_
    | refine rb_eq ?_
    | refine rb_ne (by rfl) ?_
    | refine w_exit ?_
    | refine rt_exit ?_
    | refine w_region ?_
    | refine l_nil ?_
    | refine rt_n ?_
    | refine w_ret ?_
    | refine rt_ret ?_
    | refine w_skip ?_
    | refine w_cond_t rfl ?_
    | refine w_cond_f rfl ?_
    | refine w_cnd rfl (fun hc => ?_) (fun hc => ?_)
    | refine w_cd rfl (fun hc => ?_) (fun hc => ?_)
    | refine w_cn rfl (fun hc => ?_) (fun hc => ?_)
    | refine w_cond rfl (fun hc => ?_) (fun hc => ?_)
    | (refine l_o ?_; first | refine l_op (hk := ?_))
  refine w_loopm (ι := Nat) (fun i => [(5, RVi i), (1, RVi ((k + lensB L i : Nat) : Int))]) (fun i => [(1000000000000, 1, (markRB k L i).map OBs)]) (fun i => i ≤ L.length) (fun i => L.length - i) 0 (h0 := ?_) (hs := ?_) (round := ?_)
  · omega
  · rw [lensB_zero]
    refine le_eq ?_ rfl ?_
    · (repeat' first | exact .nil | refine .keep ?_ | refine .any ?_); first | done | fail
    · rw [markRB_zero]
  · intro i hi
    have hml := markRB_length k L i
    have hb := lensB_le hi
    repeat' first
      | refine w_seq ?_
      | refine w_block ?_
      | refine rb_n ?_
      | refine rb_ret ?_
      | refine rb_eq ?_
      | refine rb_ne (by rfl) ?_
      | refine w_exit ?_
      | refine rt_exit ?_
      | refine w_region ?_
      | refine l_nil ?_
      | refine rt_n ?_
      | refine w_ret ?_
      | refine rt_ret ?_
      | refine w_skip ?_
      | refine w_cond_t rfl ?_
      | refine w_cond_f rfl ?_
      | refine w_cnd rfl (fun hc => ?_) (fun hc => ?_)
      | refine w_cd rfl (fun hc => ?_) (fun hc => ?_)
      | refine w_cn rfl (fun hc => ?_) (fun hc => ?_)
      | refine w_cond rfl (fun hc => ?_) (fun hc => ?_)
      | (refine l_o ?_; first | refine l_op rfl (by first | (apply k_load; first | exact ops_load_own rfl rfl (by rw [List.getElem?_map, markRB_at (by omega)]; rfl) rfl (by decide +kernel) (by simp [nm]) (by simp [nm]) | fail) | (apply k_callf; first | exact ops_callm1 15 ((fromB (k + lensB L i) L[i].length).map RVb) rfl rfl rfl (by kernel_rfl) (markBoolS_ok L[i] (k + lensB L i) (by have := lensB_succ (L := L) (i := i) (by omega); have := lensB_le (L := L) (i := i + 1) (by omega); omega)) (by simp [nm]) (by simp [nm]) (by simp [ns]) (by simp [RV.resOkT, RV.resOk, RV.isAgg, nm]) (by simp [ns]) (by simp [nz, nm]) (by simp [nz, nm]) | fail) | fail) (hk := ?_) | refine l_op (hk := ?_))
    · refine rn_mk (i + 1) ?_ ?_ ?_
      · first | omega | (dsimp only; omega)
      · first | omega | (dsimp only; omega)
      · rw [lensB_succ (by omega), ← Nat.add_assoc]
        refine le_trans (le_seal 1000000000000 i 0 15 rfl (List.getElem?_set_self (by rw [List.length_map]; omega)) rfl rfl (by simp [fromB_length]) (namesL_map0 _ _ fun _ => rfl) (by decide) rfl rfl) (le_eq ?_ rfl ?_)
        · (repeat' first | exact .nil | refine .keep ?_ | refine .any ?_); first | done | fail
        · simp only [oset, oerase, reduceIte, Nat.reduceEqDiff, RV.setCell]
          rw [List.set_set, ← markRB_set (by omega), List.map_set]
    · obtain rfl : i = L.length := by omega
      refine en_endm [] (hf := Try.results23) (hO := ?_) (hr := ?_)
      · rfl
      · rfl

/-- Whether rows hold the numbers from k on. -/
def heldRB (k : Nat) : List (List Bool) → Bool
  | [] => true
  | r :: rs => if heldB k r = false then false else heldRB (k + r.length) rs
theorem heldBoolSS_ok (L : List (List Bool)) (k : Nat) (hL : L.length ≤ 1099511627776) (h : k + lensB L L.length ≤ 1099511627776) : FCr Try.prog 24 [RBss L, RVi k] (RVi (if heldRB k L then ((k + lensB L L.length : Nat) : Int) else -1)) := by
  refine (fcr_in Try.func24 rfl (by simp only [Try.ntmps24, anys, List.length_cons, List.length_nil, Nat.reduceAdd, Nat.reduceSub, List.replicate_succ, List.replicate_zero, List.cons_append, List.nil_append] <;> rfl) ?_)
  repeat' first
    | refine w_seq ?_
    | refine w_block ?_
    | refine rb_n ?_
    | refine rb_ret ?_
    | refine rb_eq ?_
    | refine rb_ne (by rfl) ?_
    | refine w_exit ?_
    | refine rt_exit ?_
    | refine w_region ?_
    | refine l_nil ?_
    | refine rt_n ?_
    | refine w_ret ?_
    | refine rt_ret ?_
    | refine w_skip ?_
    | refine w_cond_t rfl ?_
    | refine w_cond_f rfl ?_
    | refine w_cnd rfl (fun hc => ?_) (fun hc => ?_)
    | refine w_cd rfl (fun hc => ?_) (fun hc => ?_)
    | refine w_cn rfl (fun hc => ?_) (fun hc => ?_)
    | refine w_cond rfl (fun hc => ?_) (fun hc => ?_)
    | (refine l_o ?_; first | refine l_op (hk := ?_))
  refine w_loopm (ι := Nat) (fun i => [(5, RVi i), (1, RVi ((k + lensB L i : Nat) : Int))]) (fun _ => []) (fun i => i ≤ L.length ∧ heldRB (k + lensB L i) (L.drop i) = heldRB k L) (fun i => L.length - i) 0 (h0 := ?_) (hs := ?_) (round := ?_)
  · simp [lensB_zero]
  · rw [lensB_zero]
    refine le_eq (by (repeat' first | exact .nil | refine .keep ?_ | refine .any ?_); first | done | fail) rfl rfl
  · intro i ⟨hi, hg⟩
    have hb := lensB_le hi
    repeat' first
      | refine w_seq ?_
      | refine w_block ?_
      | refine rb_n ?_
      | refine rb_ret ?_
      | refine rb_eq ?_
      | refine rb_ne (by rfl) ?_
      | refine w_exit ?_
      | refine rt_exit ?_
      | refine w_region ?_
      | refine l_nil ?_
      | refine rt_n ?_
      | refine w_ret ?_
      | refine rt_ret ?_
      | refine w_skip ?_
      | refine w_cond_t rfl ?_
      | refine w_cond_f rfl ?_
      | refine w_cnd rfl (fun hc => ?_) (fun hc => ?_)
      | refine w_cd rfl (fun hc => ?_) (fun hc => ?_)
      | refine w_cn rfl (fun hc => ?_) (fun hc => ?_)
      | refine w_cond rfl (fun hc => ?_) (fun hc => ?_)
      | (refine l_o ?_; first | refine l_op rfl (by first | (apply k_callf; first | exact ops_callf (hfc := heldBoolS_ok L[i] (k + lensB L i) (by have := lensB_succ (L := L) (i := i) (by omega); have := lensB_le (L := L) (i := i + 1) (by omega); omega)) | fail) | fail) (hk := ?_) | refine l_op (hk := ?_))
    · refine en_one (hf := Try.results24) (h := ?_); simp only [lget]; first | refine congrArg RVb ?_ | refine congrArg RVi ?_ | skip
      rw [dc (by omega), heldRB] at hg
      have h1 : heldB (k + lensB L i) L[i] = false := by
        cases hh : heldB (k + lensB L i) L[i] with
        | false => rfl
        | true => rw [hh, if_pos rfl] at hc; omega
      rw [if_pos h1] at hg
      rw [← hg]; rfl
    · rw [dc (by omega), heldRB] at hg
      have h1 : heldB (k + lensB L i) L[i] = true := by
        cases hh : heldB (k + lensB L i) L[i] with
        | true => rfl
        | false => rw [hh] at hc; simp at hc
      rw [if_neg (by rw [h1]; simp)] at hg
      simp only [h1, if_true]
      have hs := lensB_succ (L := L) (i := i) (by omega)
      refine rn_mk (i + 1) ?_ ?_ ?_
      · exact ⟨by first | omega | (dsimp only; omega), by rw [hs, ← Nat.add_assoc]; exact hg⟩
      · first | omega | (dsimp only; omega)
      · rw [hs, ← Nat.add_assoc]
        refine le_eq (by (repeat' first | exact .nil | refine .keep ?_ | refine .any ?_); first | done | fail) rfl rfl
    · rw [dn hc] at hg
      obtain rfl : i = L.length := by omega
      refine en_one (hf := Try.results24) (h := ?_); simp only [lget]; first | refine congrArg RVb ?_ | refine congrArg RVi ?_ | skip
      rw [← hg]; rfl

theorem heldRB_markRB (k : Nat) (L : List (List Bool)) : heldRB k (markRB k L L.length) = true := by
  induction L generalizing k with
  | nil => rfl
  | cons r rs ih =>
    rw [List.length_cons, markRB, heldRB, heldB_fromB, if_neg (by decide), fromB_length]
    exact ih _
theorem lensB_markRB (k : Nat) (L : List (List Bool)) : lensB (markRB k L L.length) L.length = lensB L L.length := by
  induction L generalizing k with
  | nil => rfl
  | cons r rs ih => rw [List.length_cons, markRB, lensB, lensB, fromB_length, ih]
end Go.Proofs.Ytmalajoglcpijaa
