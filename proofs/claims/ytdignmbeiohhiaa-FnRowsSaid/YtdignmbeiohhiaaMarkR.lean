/- Texts and rows marked and looked at again, as the drawn laws do it. For all lists of the lengths that the theorems name. -/
import Derived.Test.YtdignmbeiohhiaaRws
namespace Go.Proofs.Ytdignmbeiohhiaa
namespace Eng
open Go.RowKit
section
variable {P : Program} {s : St} {ty : TypeId} {pos : String} {after : Array Edge} {g : Option (Nat × Bool)}
theorem ops_store_rw0 {l : List (List UInt8 × List UInt8)} {x v t n i k p} (hx : s.get x = .ptr n i 0) (hv : s.get v = .str p) (ho : olook n s.O = some (k, l.map RRw)) (h : i < l.length) (ht : P.cellsOf t = 1) :
    OpS P ⟨none, .store t x v, ty, pos, after, g⟩ s ⟨s.fr, oset n ((l.set i (p, l[i].2)).map RRw) s.O⟩ := by
  have := ops_store (P := P) (ty := ty) (pos := pos) (after := after) (g := g) hx hv ho (by simp [h] : (l.map RRw)[i]? = some (RRw l[i])) (by simp [RV.cellsL]) rfl ht
  rwa [show (RRw l[i]).setCell 0 (.str p) = RRw (p, l[i].2) from rfl, ← List.map_set] at this
theorem ops_store_rw1 {l : List (List UInt8 × List UInt8)} {x v t n i k p} (hx : s.get x = .ptr n i 1) (hv : s.get v = .str p) (ho : olook n s.O = some (k, l.map RRw)) (h : i < l.length) (ht : P.cellsOf t = 1) :
    OpS P ⟨none, .store t x v, ty, pos, after, g⟩ s ⟨s.fr, oset n ((l.set i (l[i].1, p)).map RRw) s.O⟩ := by
  have := ops_store (P := P) (ty := ty) (pos := pos) (after := after) (g := g) hx hv ho (by simp [h] : (l.map RRw)[i]? = some (RRw l[i])) (by simp [RV.cellsL]) rfl ht
  rwa [show (RRw l[i]).setCell 1 (.str p) = RRw (l[i].1, p) from rfl, ← List.map_set] at this
end
end Eng
open Eng
attribute [local irreducible] OpS OpG FC FCr Rel Fl Ef DR Fs
set_option linter.unusedSimpArgs false
set_option maxHeartbeats 0
set_option maxRecDepth 100000

theorem eqStringS_ok (l m : List (List UInt8)) : FCr Try.prog 25 [RSs l, RSs m] (RVb (decide (l = m))) := by
  refine fcr_lens fun hL => ?_
  simp only [lnk] at hL
  refine (fcr_in Try.func25 rfl (by simp only [Try.ntmps25, anys, List.length_cons, List.length_nil, Nat.reduceAdd, Nat.reduceSub, List.replicate_succ, List.replicate_zero, List.cons_append, List.nil_append] <;> rfl) ?_)
  repeat' first
    | refine w_seq ?_
    | refine w_block ?_
    | refine rb_n ?_
    | refine rb_ret ?_
    | refine rb_eq ?_
    | refine rb_ne (by rfl) ?_
    | refine w_exit ?_
    | refine rt_exit ?_
    | refine w_region ?_
    | refine l_nil ?_
    | refine rt_n ?_
    | refine w_ret ?_
    | refine rt_ret ?_
    | refine w_skip ?_
    | refine w_cond_t rfl ?_
    | refine w_cond_f rfl ?_
    | refine w_cnd rfl (fun hc => ?_) (fun hc => ?_)
    | refine w_cd rfl (fun hc => ?_) (fun hc => ?_)
    | refine w_cn rfl (fun hc => ?_) (fun hc => ?_)
    | refine w_cond rfl (fun hc => ?_) (fun hc => ?_)
    | (refine l_o ?_; first | refine l_op (hk := ?_))
    | refine d_nil ?_
    | (refine d_o ?_; first | refine d_fl (hk := ?_) | refine d_ef (hk := ?_))
    | (refine w_o ?_; first | refine w_draw (id := 6) (fun _ => true) (fun k => [].contains k) [] 64 (by kernel_rfl) rfl (by kernel_rfl) (by simp [nm, nset, -List.map_take, -List.map_drop]) ?_)
  · refine en_one (hf := Try.results25) (h := ?_); simp only [lget]; first | refine congrArg RVb ?_ | refine congrArg RVi ?_ | skip
    grind
  have hn : l.length = m.length := by omega
  clear hc
  refine w_loopm (ι := Nat) (fun k => [(5, RVi k)]) (fun _ => []) (fun k => k ≤ l.length ∧ ((l.drop k = m.drop k) ↔ l = m)) (fun k => l.length - k) 0 (h0 := ?_) (hs := ?_) (round := ?_)
  · simp
  · refine le_eq (by (repeat' first | exact .nil | refine .keep ?_ | refine .any ?_); first | done | fail) rfl rfl
  · intro k ⟨hk, hg⟩
    repeat' first
      | refine w_seq ?_
      | refine w_block ?_
      | refine rb_n ?_
      | refine rb_ret ?_
      | refine rb_eq ?_
      | refine rb_ne (by rfl) ?_
      | refine w_exit ?_
      | refine rt_exit ?_
      | refine w_region ?_
      | refine l_nil ?_
      | refine rt_n ?_
      | refine w_ret ?_
      | refine rt_ret ?_
      | refine w_skip ?_
      | refine w_cond_t rfl ?_
      | refine w_cond_f rfl ?_
      | refine w_cnd rfl (fun hc => ?_) (fun hc => ?_)
      | refine w_cd rfl (fun hc => ?_) (fun hc => ?_)
      | refine w_cn rfl (fun hc => ?_) (fun hc => ?_)
      | refine w_cond rfl (fun hc => ?_) (fun hc => ?_)
      | (refine l_o ?_; first | refine l_op (hk := ?_))
      | refine d_nil ?_
      | (refine d_o ?_; first | refine d_fl (hk := ?_) | refine d_ef (hk := ?_))
      | (refine w_o ?_; first | refine w_draw (id := 6) (fun _ => true) (fun k => [].contains k) [] 64 (by kernel_rfl) rfl (by kernel_rfl) (by simp [nm, nset, -List.map_take, -List.map_drop]) ?_)
    · refine en_one (hf := Try.results25) (h := ?_); simp only [lget]; first | refine congrArg RVb ?_ | refine congrArg RVi ?_ | skip
      grind [drop_both]
    · refine rn_mk (k + 1) ?_ (by first | omega | (dsimp only; omega)) (le_eq (by (repeat' first | exact .nil | refine .keep ?_ | refine .any ?_); first | done | fail) rfl rfl)
      grind [drop_both]
    · refine en_one (hf := Try.results25) (h := ?_); simp only [lget]; first | refine congrArg RVb ?_ | refine congrArg RVi ?_ | skip
      grind [dn]

/-- The marks from k on, n of them. -/
def fromT (k n : Nat) : List (List UInt8) := (List.range n).map fun j => mtext (k + j)
theorem fromT_length (k n : Nat) : (fromT k n).length = n := by simp [fromT]
def markT (k : Nat) (l : List (List UInt8)) (i : Nat) : List (List UInt8) := fromT k i ++ l.drop i
theorem markT_length {k : Nat} {l : List (List UInt8)} {i : Nat} (h : i ≤ l.length) : (markT k l i).length = l.length := by simp [markT, fromT_length]; omega
theorem markT_zero (k : Nat) (l : List (List UInt8)) : markT k l 0 = l := by simp [markT, fromT]
theorem markT_all (k : Nat) (l : List (List UInt8)) : markT k l l.length = fromT k l.length := by simp [markT]
theorem markT_set {k : Nat} {l : List (List UInt8)} {i : Nat} (h : i < l.length) : (markT k l i).set i (mtext (k + i)) = markT k l (i + 1) := by
  unfold markT
  rw [List.set_append_right _ _ (by simp [fromT_length]), fromT_length, Nat.sub_self, List.drop_eq_getElem_cons h, List.set_cons_zero]
  simp [fromT, List.range_succ]
theorem markStringS_ok (l : List (List UInt8)) (k : Nat) (h : k + l.length ≤ 1099511627776) : FC Try.prog 26 [.ref 1000000000000 0 l.length, RVi k] [(1000000000000, 1, l.map RV.str)]
    (fun rv O => rv = RVi ((k + l.length : Nat) : Int) ∧ O = [(1000000000000, 1, (fromT k l.length).map RV.str)]) := by
  refine (fc_in Try.func26 rfl (by simp only [Try.ntmps26, anys, List.length_cons, List.length_nil, Nat.reduceAdd, Nat.reduceSub, List.replicate_succ, List.replicate_zero, List.cons_append, List.nil_append] <;> rfl) ?_)
  repeat' first
    | refine w_seq ?_
    | refine w_block ?_
    | refine rb_n ?_
    | refine rb_ret ?_
    | refine rb_eq ?_
    | refine rb_ne (by rfl) ?_
    | refine w_exit ?_
    | refine rt_exit ?_
    | refine w_region ?_
    | refine l_nil ?_
    | refine rt_n ?_
    | refine w_ret ?_
    | refine rt_ret ?_
    | refine w_skip ?_
    | refine w_cond_t rfl ?_
    | refine w_cond_f rfl ?_
    | refine w_cnd rfl (fun hc => ?_) (fun hc => ?_)
    | refine w_cd rfl (fun hc => ?_) (fun hc => ?_)
    | refine w_cn rfl (fun hc => ?_) (fun hc => ?_)
    | refine w_cond rfl (fun hc => ?_) (fun hc => ?_)
    | (refine l_o ?_; first | refine l_op (hk := ?_))
  refine w_loopm (ι := Nat) (fun i => [(5, RVi i), (1, RVi ((k + i : Nat) : Int))]) (fun i => [(1000000000000, 1, (markT k l i).map RV.str)]) (fun i => i ≤ l.length) (fun i => l.length - i) 0 (h0 := ?_) (hs := ?_) (round := ?_)
  · omega
  · refine le_eq ?_ rfl ?_
    · (repeat' first | exact .nil | refine .keep ?_ | refine .any ?_); first | done | fail
    · rw [markT_zero]
  · intro i hi
    have hml := markT_length (k := k) hi
    by_cases hil : i < l.length
    · have ht := markText_ok (k + i) (by omega)
      repeat' first
        | refine w_seq ?_
        | refine w_block ?_
        | refine rb_n ?_
        | refine rb_ret ?_
        | refine rb_eq ?_
        | refine rb_ne (by rfl) ?_
        | refine w_exit ?_
        | refine rt_exit ?_
        | refine w_region ?_
        | refine l_nil ?_
        | refine rt_n ?_
        | refine w_ret ?_
        | refine rt_ret ?_
        | refine w_skip ?_
        | refine w_cond_t rfl ?_
        | refine w_cond_f rfl ?_
        | refine w_cnd rfl (fun hc => ?_) (fun hc => ?_)
        | refine w_cd rfl (fun hc => ?_) (fun hc => ?_)
        | refine w_cn rfl (fun hc => ?_) (fun hc => ?_)
        | refine w_cond rfl (fun hc => ?_) (fun hc => ?_)
        | (exfalso; omega)
        | (refine l_o ?_; first | refine l_op rfl (by first | (apply k_callf; first | exact ops_callf (hfc := ht) | fail) | fail) (hk := ?_) | refine l_op (hk := ?_))
      refine rn_mk (i + 1) ?_ ?_ ?_
      · first | omega | (dsimp only; omega)
      · first | omega | (dsimp only; omega)
      · refine le_eq ?_ rfl ?_
        · (repeat' first | exact .nil | refine .keep ?_ | refine .any ?_); first | done | fail
        · rw [← markT_set (by omega), List.map_set]
    · repeat' first
        | refine w_seq ?_
        | refine w_block ?_
        | refine rb_n ?_
        | refine rb_ret ?_
        | refine rb_eq ?_
        | refine rb_ne (by rfl) ?_
        | refine w_exit ?_
        | refine rt_exit ?_
        | refine w_region ?_
        | refine l_nil ?_
        | refine rt_n ?_
        | refine w_ret ?_
        | refine rt_ret ?_
        | refine w_skip ?_
        | refine w_cond_t rfl ?_
        | refine w_cond_f rfl ?_
        | refine w_cnd rfl (fun hc => ?_) (fun hc => ?_)
        | refine w_cd rfl (fun hc => ?_) (fun hc => ?_)
        | refine w_cn rfl (fun hc => ?_) (fun hc => ?_)
        | refine w_cond rfl (fun hc => ?_) (fun hc => ?_)
        | (exfalso; omega)
        | (refine l_o ?_; first | refine l_op (hk := ?_))
      obtain rfl : i = l.length := by omega
      refine en_endm [] (hf := Try.results26) (hO := ?_) (hr := ?_)
      · rw [markT_all]; rfl
      · rfl
def heldT (k : Nat) : List (List UInt8) → Bool
  | [] => true
  | x :: xs => if x ≠ mtext k then false else heldT (k + 1) xs
theorem heldStringS_ok (l : List (List UInt8)) (k : Nat) (h : k + l.length ≤ 1099511627776) : FCr Try.prog 27 [RSs l, RVi k] (RVi (if heldT k l then ((k + l.length : Nat) : Int) else -1)) := by
  refine (fcr_in Try.func27 rfl (by simp only [Try.ntmps27, anys, List.length_cons, List.length_nil, Nat.reduceAdd, Nat.reduceSub, List.replicate_succ, List.replicate_zero, List.cons_append, List.nil_append] <;> rfl) ?_)
  repeat' first
    | refine w_seq ?_
    | refine w_block ?_
    | refine rb_n ?_
    | refine rb_ret ?_
    | refine rb_eq ?_
    | refine rb_ne (by rfl) ?_
    | refine w_exit ?_
    | refine rt_exit ?_
    | refine w_region ?_
    | refine l_nil ?_
    | refine rt_n ?_
    | refine w_ret ?_
    | refine rt_ret ?_
    | refine w_skip ?_
    | refine w_cond_t rfl ?_
    | refine w_cond_f rfl ?_
    | refine w_cnd rfl (fun hc => ?_) (fun hc => ?_)
    | refine w_cd rfl (fun hc => ?_) (fun hc => ?_)
    | refine w_cn rfl (fun hc => ?_) (fun hc => ?_)
    | refine w_cond rfl (fun hc => ?_) (fun hc => ?_)
    | (refine l_o ?_; first | refine l_op (hk := ?_))
    | refine d_nil ?_
    | (refine d_o ?_; first | refine d_fl (hk := ?_) | refine d_ef (hk := ?_))
    | (refine w_o ?_; first | refine w_draw (id := 4) (fun _ => true) (fun k => [5].contains k) [[]] 64 (by kernel_rfl) rfl (by kernel_rfl) (by simp [nm, nset, -List.map_take, -List.map_drop]) ?_)
  refine w_loopm (ι := Nat) (fun i => [(5, RVi i), (1, RVi ((k + i : Nat) : Int))]) (fun _ => []) (fun i => i ≤ l.length ∧ heldT (k + i) (l.drop i) = heldT k l) (fun i => l.length - i) 0 (h0 := ?_) (hs := ?_) (round := ?_)
  · simp
  · refine le_eq (by (repeat' first | exact .nil | refine .keep ?_ | refine .any ?_); first | done | fail) rfl rfl
  · intro i ⟨hi, hg⟩
    by_cases hil : i < l.length
    · have ht := markText_ok (k + i) (by omega)
      rw [dc (by omega), heldT] at hg
      repeat' first
        | refine w_seq ?_
        | refine w_block ?_
        | refine rb_n ?_
        | refine rb_ret ?_
        | refine rb_eq ?_
        | refine rb_ne (by rfl) ?_
        | refine w_exit ?_
        | refine rt_exit ?_
        | refine w_region ?_
        | refine l_nil ?_
        | refine rt_n ?_
        | refine w_ret ?_
        | refine rt_ret ?_
        | refine w_skip ?_
        | refine w_cond_t rfl ?_
        | refine w_cond_f rfl ?_
        | refine w_cnd rfl (fun hc => ?_) (fun hc => ?_)
        | refine w_cd rfl (fun hc => ?_) (fun hc => ?_)
        | refine w_cn rfl (fun hc => ?_) (fun hc => ?_)
        | refine w_cond rfl (fun hc => ?_) (fun hc => ?_)
        | (exfalso; omega)
        | (refine l_o ?_; first | refine l_op rfl (by first | (apply k_callf; first | exact ops_callf (hfc := ht) | fail) | fail) (hk := ?_) | refine l_op (hk := ?_))
        | refine d_nil ?_
        | (refine d_o ?_; first | refine d_fl (hk := ?_) | refine d_ef rfl (by first | exact .callf (hfc := ht) | fail) (hk := ?_) | refine d_ef (hk := ?_))
        | (refine w_o ?_; first | refine w_draw (id := 4) (fun _ => true) (fun k => [5].contains k) [[]] 64 (by kernel_rfl) rfl (by kernel_rfl) (by simp [nm, nset, -List.map_take, -List.map_drop]) ?_)
      · refine en_one (hf := Try.results27) (h := ?_); simp only [lget]; first | refine congrArg RVb ?_ | refine congrArg RVi ?_ | skip
        rw [if_pos hc] at hg
        rw [← hg]; rfl
      · refine rn_mk (i + 1) ?_ (by first | omega | (dsimp only; omega)) (le_eq (by (repeat' first | exact .nil | refine .keep ?_ | refine .any ?_); first | done | fail) rfl rfl)
        rw [if_neg hc] at hg
        exact ⟨by omega, hg⟩
    · repeat' first
        | refine w_seq ?_
        | refine w_block ?_
        | refine rb_n ?_
        | refine rb_ret ?_
        | refine rb_eq ?_
        | refine rb_ne (by rfl) ?_
        | refine w_exit ?_
        | refine rt_exit ?_
        | refine w_region ?_
        | refine l_nil ?_
        | refine rt_n ?_
        | refine w_ret ?_
        | refine rt_ret ?_
        | refine w_skip ?_
        | refine w_cond_t rfl ?_
        | refine w_cond_f rfl ?_
        | refine w_cnd rfl (fun hc => ?_) (fun hc => ?_)
        | refine w_cd rfl (fun hc => ?_) (fun hc => ?_)
        | refine w_cn rfl (fun hc => ?_) (fun hc => ?_)
        | refine w_cond rfl (fun hc => ?_) (fun hc => ?_)
        | (exfalso; omega)
        | (refine l_o ?_; first | refine l_op (hk := ?_))
        | refine d_nil ?_
        | (refine d_o ?_; first | refine d_fl (hk := ?_) | refine d_ef (hk := ?_))
        | (refine w_o ?_; first | refine w_draw (id := 4) (fun _ => true) (fun k => [5].contains k) [[]] 64 (by kernel_rfl) rfl (by kernel_rfl) (by simp [nm, nset, -List.map_take, -List.map_drop]) ?_)
      rw [show l.drop i = [] from List.drop_of_length_le (by omega)] at hg
      obtain rfl : i = l.length := by omega
      refine en_one (hf := Try.results27) (h := ?_); simp only [lget]; first | refine congrArg RVb ?_ | refine congrArg RVi ?_ | skip
      rw [← hg]; rfl
theorem heldT_fromT (k n : Nat) : heldT k (fromT k n) = true := by
  induction n generalizing k with
  | zero => rfl
  | succ n ih =>
    have e : fromT k (n + 1) = mtext k :: fromT (k + 1) n := by
      simp only [fromT, List.range_succ_eq_map, List.map_cons, List.map_map]
      congr 1
      apply List.map_congr_left
      intro j _
      simp only [Function.comp, Nat.succ_eq_add_one]
      congr 1; omega
    rw [e, heldT, if_neg (by simp)]
    exact ih (k + 1)

/-- Rows of marks. -/
def fromR (k n : Nat) : List Rw := (List.range n).map fun j => (mtext (k + 2 * j), mtext (k + 2 * j + 1))
theorem fromR_length (k n : Nat) : (fromR k n).length = n := by simp [fromR]
def markRw (k : Nat) (l : List Rw) (i : Nat) : List Rw := fromR k i ++ l.drop i
theorem markRw_length {k : Nat} {l : List Rw} {i : Nat} (h : i ≤ l.length) : (markRw k l i).length = l.length := by simp [markRw, fromR_length]; omega
theorem markRw_zero (k : Nat) (l : List Rw) : markRw k l 0 = l := by simp [markRw, fromR]
theorem markRw_all (k : Nat) (l : List Rw) : markRw k l l.length = fromR k l.length := by simp [markRw]
theorem markRw_set {k : Nat} {l : List Rw} {i : Nat} (h : i < l.length) (r : Rw) : ((markRw k l i).set i r).set i (mtext (k + 2 * i), mtext (k + 2 * i + 1)) = markRw k l (i + 1) := by
  unfold markRw
  rw [List.set_set, List.set_append_right _ _ (by simp [fromR_length]), fromR_length, Nat.sub_self, List.drop_eq_getElem_cons h, List.set_cons_zero]
  simp [fromR, List.range_succ]
theorem markRowS_ok (l : List Rw) (k : Nat) (h : k + 2 * l.length ≤ 1099511627776) : FC Try.prog 21 [.ref 1000000000000 0 l.length, RVi k] [(1000000000000, 2, l.map RRw)]
    (fun rv O => rv = RVi ((k + 2 * l.length : Nat) : Int) ∧ O = [(1000000000000, 2, (fromR k l.length).map RRw)]) := by
  refine (fc_in Try.func21 rfl (by simp only [Try.ntmps21, anys, List.length_cons, List.length_nil, Nat.reduceAdd, Nat.reduceSub, List.replicate_succ, List.replicate_zero, List.cons_append, List.nil_append] <;> rfl) ?_)
  repeat' first
    | refine w_seq ?_
    | refine w_block ?_
    | refine rb_n ?_
    | refine rb_ret ?_
    | refine rb_eq ?_
    | refine rb_ne (by rfl) ?_
    | refine w_exit ?_
    | refine rt_exit ?_
    | refine w_region ?_
    | refine l_nil ?_
    | refine rt_n ?_
    | refine w_ret ?_
    | refine rt_ret ?_
    | refine w_skip ?_
    | refine w_cond_t rfl ?_
    | refine w_cond_f rfl ?_
    | refine w_cnd rfl (fun hc => ?_) (fun hc => ?_)
    | refine w_cd rfl (fun hc => ?_) (fun hc => ?_)
    | refine w_cn rfl (fun hc => ?_) (fun hc => ?_)
    | refine w_cond rfl (fun hc => ?_) (fun hc => ?_)
    | (refine l_o ?_; first | refine l_op (hk := ?_))
  refine w_loopm (ι := Nat) (fun i => [(5, RVi i), (1, RVi ((k + 2 * i : Nat) : Int))]) (fun i => [(1000000000000, 2, (markRw k l i).map RRw)]) (fun i => i ≤ l.length) (fun i => l.length - i) 0 (h0 := ?_) (hs := ?_) (round := ?_)
  · omega
  · refine le_eq ?_ rfl ?_
    · (repeat' first | exact .nil | refine .keep ?_ | refine .any ?_); first | done | fail
    · rw [markRw_zero]
  · intro i hi
    have hml := markRw_length (k := k) hi
    by_cases hil : i < l.length
    · have ht := markText_ok (k + 2 * i) (by omega)
      have ht2 := markText_ok (k + 2 * i + 1) (by omega)
      have hset : ((markRw k l i).set i (mtext (k + 2 * i), ((markRw k l i)[i]'(by omega)).2)).length = l.length := by rw [List.length_set]; exact hml
      repeat' first
        | refine w_seq ?_
        | refine w_block ?_
        | refine rb_n ?_
        | refine rb_ret ?_
        | refine rb_eq ?_
        | refine rb_ne (by rfl) ?_
        | refine w_exit ?_
        | refine rt_exit ?_
        | refine w_region ?_
        | refine l_nil ?_
        | refine rt_n ?_
        | refine w_ret ?_
        | refine rt_ret ?_
        | refine w_skip ?_
        | refine w_cond_t rfl ?_
        | refine w_cond_f rfl ?_
        | refine w_cnd rfl (fun hc => ?_) (fun hc => ?_)
        | refine w_cd rfl (fun hc => ?_) (fun hc => ?_)
        | refine w_cn rfl (fun hc => ?_) (fun hc => ?_)
        | refine w_cond rfl (fun hc => ?_) (fun hc => ?_)
        | (exfalso; omega)
        | (refine l_o ?_; first | refine l_op rfl (by first | (apply k_store; first | exact ops_store_rw0 (l := markRw k l i) rfl rfl rfl (by omega) (by kernel_rfl) | exact ops_store_rw1 (l := (markRw k l i).set i (mtext (k + 2 * i), (markRw k l i)[i].2)) rfl rfl rfl (by omega) (by kernel_rfl) | fail) | (apply k_callf; first | exact ops_callf (d := 15) (hfc := ht) | exact ops_callf (d := 23) (hfc := ht2) | fail) | fail) (hk := ?_) | refine l_op (hk := ?_))
      refine rn_mk (i + 1) ?_ ?_ ?_
      · first | omega | (dsimp only; omega)
      · first | omega | (dsimp only; omega)
      · refine le_eq ?_ rfl ?_
        · (repeat' first | exact .nil | refine .keep ?_ | refine .any ?_); first | done | fail
        · rw [← markRw_set hil (mtext (k + 2 * i), (markRw k l i)[i].2)]
          simp
    · repeat' first
        | refine w_seq ?_
        | refine w_block ?_
        | refine rb_n ?_
        | refine rb_ret ?_
        | refine rb_eq ?_
        | refine rb_ne (by rfl) ?_
        | refine w_exit ?_
        | refine rt_exit ?_
        | refine w_region ?_
        | refine l_nil ?_
        | refine rt_n ?_
        | refine w_ret ?_
        | refine rt_ret ?_
        | refine w_skip ?_
        | refine w_cond_t rfl ?_
        | refine w_cond_f rfl ?_
        | refine w_cnd rfl (fun hc => ?_) (fun hc => ?_)
        | refine w_cd rfl (fun hc => ?_) (fun hc => ?_)
        | refine w_cn rfl (fun hc => ?_) (fun hc => ?_)
        | refine w_cond rfl (fun hc => ?_) (fun hc => ?_)
        | (exfalso; omega)
        | (refine l_o ?_; first | refine l_op (hk := ?_))
      obtain rfl : i = l.length := by omega
      refine en_endm [] (hf := Try.results21) (hO := ?_) (hr := ?_)
      · rw [markRw_all]; rfl
      · rfl
def heldRw (k : Nat) : List Rw → Bool
  | [] => true
  | x :: xs => if x.1 ≠ mtext k then false else if x.2 ≠ mtext (k + 1) then false else heldRw (k + 2) xs
theorem heldRowS_ok (l : List Rw) (k : Nat) (h : k + 2 * l.length ≤ 1099511627776) : FCr Try.prog 22 [RRws l, RVi k] (RVi (if heldRw k l then ((k + 2 * l.length : Nat) : Int) else -1)) := by
  refine (fcr_in Try.func22 rfl (by simp only [Try.ntmps22, anys, List.length_cons, List.length_nil, Nat.reduceAdd, Nat.reduceSub, List.replicate_succ, List.replicate_zero, List.cons_append, List.nil_append] <;> rfl) ?_)
  repeat' first
    | refine w_seq ?_
    | refine w_block ?_
    | refine rb_n ?_
    | refine rb_ret ?_
    | refine rb_eq ?_
    | refine rb_ne (by rfl) ?_
    | refine w_exit ?_
    | refine rt_exit ?_
    | refine w_region ?_
    | refine l_nil ?_
    | refine rt_n ?_
    | refine w_ret ?_
    | refine rt_ret ?_
    | refine w_skip ?_
    | refine w_cond_t rfl ?_
    | refine w_cond_f rfl ?_
    | refine w_cnd rfl (fun hc => ?_) (fun hc => ?_)
    | refine w_cd rfl (fun hc => ?_) (fun hc => ?_)
    | refine w_cn rfl (fun hc => ?_) (fun hc => ?_)
    | refine w_cond rfl (fun hc => ?_) (fun hc => ?_)
    | (refine l_o ?_; first | refine l_op (hk := ?_))
    | refine d_nil ?_
    | (refine d_o ?_; first | refine d_fl (hk := ?_) | refine d_ef (hk := ?_))
    | (refine w_o ?_; first | refine w_draw (id := 4) (fun _ => true) (fun k => [6].contains k) [[]] 64 (by kernel_rfl) rfl (by kernel_rfl) (by simp [nm, nset, -List.map_take, -List.map_drop]) ?_ | refine w_draw (id := 7) (fun _ => true) (fun k => [6].contains k) [[]] 64 (by kernel_rfl) rfl (by kernel_rfl) (by simp [nm, nset, -List.map_take, -List.map_drop]) ?_)
  refine w_loopm (ι := Nat) (fun i => [(5, RVi i), (1, RVi ((k + 2 * i : Nat) : Int))]) (fun _ => []) (fun i => i ≤ l.length ∧ heldRw (k + 2 * i) (l.drop i) = heldRw k l) (fun i => l.length - i) 0 (h0 := ?_) (hs := ?_) (round := ?_)
  · simp
  · refine le_eq (by (repeat' first | exact .nil | refine .keep ?_ | refine .any ?_); first | done | fail) rfl rfl
  · intro i ⟨hi, hg⟩
    by_cases hil : i < l.length
    · have ht := markText_ok (k + 2 * i) (by omega)
      have ht2 := markText_ok (k + 2 * i + 1) (by omega)
      rw [dc (by omega), heldRw] at hg
      repeat' first
        | refine w_seq ?_
        | refine w_block ?_
        | refine rb_n ?_
        | refine rb_ret ?_
        | refine rb_eq ?_
        | refine rb_ne (by rfl) ?_
        | refine w_exit ?_
        | refine rt_exit ?_
        | refine w_region ?_
        | refine l_nil ?_
        | refine rt_n ?_
        | refine w_ret ?_
        | refine rt_ret ?_
        | refine w_skip ?_
        | refine w_cond_t rfl ?_
        | refine w_cond_f rfl ?_
        | refine w_cnd rfl (fun hc => ?_) (fun hc => ?_)
        | refine w_cd rfl (fun hc => ?_) (fun hc => ?_)
        | refine w_cn rfl (fun hc => ?_) (fun hc => ?_)
        | refine w_cond rfl (fun hc => ?_) (fun hc => ?_)
        | (exfalso; omega)
        | (refine l_o ?_; first | refine l_op rfl (by first | (apply k_callf; first | exact ops_callf (d := 18) (hfc := ht) | exact ops_callf (d := 28) (hfc := ht2) | fail) | fail) (hk := ?_) | refine l_op (hk := ?_))
        | refine d_nil ?_
        | (refine d_o ?_; first | refine d_fl (hk := ?_) | refine d_ef rfl (by first | exact .callf (d := 18) (hfc := ht) | exact .callf (d := 28) (hfc := ht2) | fail) (hk := ?_) | refine d_ef (hk := ?_))
        | (refine w_o ?_; first | refine w_draw (id := 4) (fun _ => true) (fun k => [6].contains k) [[]] 64 (by kernel_rfl) rfl (by kernel_rfl) (by simp [nm, nset, -List.map_take, -List.map_drop]) ?_ | refine w_draw (id := 7) (fun _ => true) (fun k => [6].contains k) [[]] 64 (by kernel_rfl) rfl (by kernel_rfl) (by simp [nm, nset, -List.map_take, -List.map_drop]) ?_)
      · refine en_one (hf := Try.results22) (h := ?_); simp only [lget]; first | refine congrArg RVb ?_ | refine congrArg RVi ?_ | skip
        rw [if_pos hc] at hg
        rw [← hg]; rfl
      · rename_i hc2
        refine en_one (hf := Try.results22) (h := ?_); simp only [lget]; first | refine congrArg RVb ?_ | refine congrArg RVi ?_ | skip
        rw [if_neg hc2, if_pos hc] at hg
        rw [← hg]; rfl
      · rename_i hc2
        refine rn_mk (i + 1) ?_ (by first | omega | (dsimp only; omega)) (le_eq (by (repeat' first | exact .nil | refine .keep ?_ | refine .any ?_); first | done | fail) rfl rfl)
        rw [if_neg hc2, if_neg hc] at hg
        exact ⟨by omega, hg⟩
    · repeat' first
        | refine w_seq ?_
        | refine w_block ?_
        | refine rb_n ?_
        | refine rb_ret ?_
        | refine rb_eq ?_
        | refine rb_ne (by rfl) ?_
        | refine w_exit ?_
        | refine rt_exit ?_
        | refine w_region ?_
        | refine l_nil ?_
        | refine rt_n ?_
        | refine w_ret ?_
        | refine rt_ret ?_
        | refine w_skip ?_
        | refine w_cond_t rfl ?_
        | refine w_cond_f rfl ?_
        | refine w_cnd rfl (fun hc => ?_) (fun hc => ?_)
        | refine w_cd rfl (fun hc => ?_) (fun hc => ?_)
        | refine w_cn rfl (fun hc => ?_) (fun hc => ?_)
        | refine w_cond rfl (fun hc => ?_) (fun hc => ?_)
        | (exfalso; omega)
        | (refine l_o ?_; first | refine l_op (hk := ?_))
        | refine d_nil ?_
        | (refine d_o ?_; first | refine d_fl (hk := ?_) | refine d_ef (hk := ?_))
        | (refine w_o ?_; first | refine w_draw (id := 4) (fun _ => true) (fun k => [6].contains k) [[]] 64 (by kernel_rfl) rfl (by kernel_rfl) (by simp [nm, nset, -List.map_take, -List.map_drop]) ?_ | refine w_draw (id := 7) (fun _ => true) (fun k => [6].contains k) [[]] 64 (by kernel_rfl) rfl (by kernel_rfl) (by simp [nm, nset, -List.map_take, -List.map_drop]) ?_)
      rw [show l.drop i = [] from List.drop_of_length_le (by omega)] at hg
      obtain rfl : i = l.length := by omega
      refine en_one (hf := Try.results22) (h := ?_); simp only [lget]; first | refine congrArg RVb ?_ | refine congrArg RVi ?_ | skip
      rw [← hg]; rfl
theorem heldRw_fromR (k n : Nat) : heldRw k (fromR k n) = true := by
  induction n generalizing k with
  | zero => rfl
  | succ n ih =>
    have e : fromR k (n + 1) = (mtext k, mtext (k + 1)) :: fromR (k + 2) n := by
      simp only [fromR, List.range_succ_eq_map, List.map_cons, List.map_map]
      congr 1
      apply List.map_congr_left
      intro j _
      simp only [Function.comp, Nat.succ_eq_add_one, Prod.mk.injEq]
      constructor <;> congr 1 <;> omega
    rw [e, heldRw, if_neg (by simp), if_neg (by simp)]
    exact ih (k + 2)
end Go.Proofs.Ytdignmbeiohhiaa
