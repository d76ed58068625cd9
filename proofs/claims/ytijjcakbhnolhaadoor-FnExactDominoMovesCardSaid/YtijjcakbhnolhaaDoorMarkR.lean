/- Texts and rows marked and looked at again, as the drawn laws do it. For all lists of the lengths that the theorems name. -/
import Derived.Test.YtijjcakbhnolhaaDoorRws
namespace Go.Proofs.YtijjcakbhnolhaaDoor
namespace Eng
open Go.RowKit
section
variable {P : Program} {s : St} {ty : TypeId} {pos : String} {after : Array Edge} {g : Option (Nat × Bool)}
end
end Eng
open Eng
attribute [local irreducible] OpS OpG FC FCr Rel Fl Ef DR Fs
set_option linter.unusedSimpArgs false
set_option maxHeartbeats 0
set_option maxRecDepth 100000

theorem eqStringS_ok (l m : List (List UInt8)) : FCr Tryd.prog 19 [RSs l, RSs m] (RVb (decide (l = m))) := by
  refine fcr_lens fun hL => ?_
  simp only [lnk] at hL
  refine (fcr_in Tryd.func19 rfl (by simp only [Tryd.ntmps19, anys, List.length_cons, List.length_nil, Nat.reduceAdd, Nat.reduceSub, List.replicate_succ, List.replicate_zero, List.cons_append, List.nil_append] <;> rfl) ?_)
  repeat' first | apply w_seq | apply w_block | apply rb_n | apply rb_ret | apply rb_eq | refine rb_ne (by rfl) ?_ | apply w_exit | apply rt_exit | apply w_region | apply l_nil | apply rt_n | apply w_ret | apply rt_ret | apply w_skip | refine w_cond_t rfl ?_ | refine w_cond_f rfl ?_ | ((first | refine w_cnd rfl ?_ ?_ | refine w_cd rfl ?_ ?_ | refine w_cn rfl ?_ ?_ | refine w_cond rfl ?_ ?_) <;> intro hc) | (refine l_o ?_; first | refine l_op (hk := ?_)) | refine d_nil ?_ | (refine d_o ?_; first | refine d_fl (hk := ?_) | refine d_ef (hk := ?_)) | (refine w_o ?_; first | refine w_draw (id := 6) (fun _ => true) (fun k => [].contains k) [] 64 (by kernel_rfl) rfl (by kernel_rfl) (by simp [nm, nset, -List.map_take, -List.map_drop]) ?_)
  · refine en_one (hf := Tryd.results19) (h := ?_); simp only [lget]; first | refine congrArg RVb ?_ | refine congrArg RVi ?_ | skip
    grind
  have hn : l.length = m.length := by omega
  clear hc
  refine w_loopm (ι := Nat) (fun k => [(5, RVi k)]) (fun _ => []) (fun k => k ≤ l.length ∧ ((l.drop k = m.drop k) ↔ l = m)) (fun k => l.length - k) 0 (h0 := ?_) (hs := ?_) (round := ?_)
  · simp
  · refine le_eq (by (repeat' first | exact .nil | refine .keep ?_ | refine .any ?_); first | done | fail) rfl rfl
  · intro k ⟨hk, hg⟩
    repeat' first | apply w_seq | apply w_block | apply rb_n | apply rb_ret | apply rb_eq | refine rb_ne (by rfl) ?_ | apply w_exit | apply rt_exit | apply w_region | apply l_nil | apply rt_n | apply w_ret | apply rt_ret | apply w_skip | refine w_cond_t rfl ?_ | refine w_cond_f rfl ?_ | ((first | refine w_cnd rfl ?_ ?_ | refine w_cd rfl ?_ ?_ | refine w_cn rfl ?_ ?_ | refine w_cond rfl ?_ ?_) <;> intro hc) | (refine l_o ?_; first | refine l_op (hk := ?_)) | refine d_nil ?_ | (refine d_o ?_; first | refine d_fl (hk := ?_) | refine d_ef (hk := ?_)) | (refine w_o ?_; first | refine w_draw (id := 6) (fun _ => true) (fun k => [].contains k) [] 64 (by kernel_rfl) rfl (by kernel_rfl) (by simp [nm, nset, -List.map_take, -List.map_drop]) ?_)
    · refine en_one (hf := Tryd.results19) (h := ?_); simp only [lget]; first | refine congrArg RVb ?_ | refine congrArg RVi ?_ | skip
      grind [drop_both]
    · refine rn_mk (k + 1) ?_ (by first | omega | (dsimp only; omega)) (le_eq (by (repeat' first | exact .nil | refine .keep ?_ | refine .any ?_); first | done | fail) rfl rfl)
      grind [drop_both]
    · refine en_one (hf := Tryd.results19) (h := ?_); simp only [lget]; first | refine congrArg RVb ?_ | refine congrArg RVi ?_ | skip
      grind [dn]

def fromT (k n : Nat) : List (List UInt8) := (List.range n).map fun j => mtext (k + j)
theorem fromT_length (k n : Nat) : (fromT k n).length = n := by simp [fromT]
def markT (k : Nat) (l : List (List UInt8)) (i : Nat) : List (List UInt8) := fromT k i ++ l.drop i
theorem markT_length {k : Nat} {l : List (List UInt8)} {i : Nat} (h : i ≤ l.length) : (markT k l i).length = l.length := by simp [markT, fromT_length]; omega
theorem markT_zero (k : Nat) (l : List (List UInt8)) : markT k l 0 = l := by simp [markT, fromT]
theorem markT_all (k : Nat) (l : List (List UInt8)) : markT k l l.length = fromT k l.length := by simp [markT]
theorem markT_set {k : Nat} {l : List (List UInt8)} {i : Nat} (h : i < l.length) : (markT k l i).set i (mtext (k + i)) = markT k l (i + 1) := by
  unfold markT
  rw [List.set_append_right _ _ (by simp [fromT_length]), fromT_length, Nat.sub_self, List.drop_eq_getElem_cons h, List.set_cons_zero]
  simp [fromT, List.range_succ]
theorem markStringS_ok (l : List (List UInt8)) (k : Nat) (h : k + l.length ≤ 1099511627776) : FC Tryd.prog 20 [.ref 1000000000000 0 l.length, RVi k] [(1000000000000, 1, l.map RV.str)]
    (fun rv O => rv = RVi ((k + l.length : Nat) : Int) ∧ O = [(1000000000000, 1, (fromT k l.length).map RV.str)]) := by
  refine (fc_in Tryd.func20 rfl (by simp only [Tryd.ntmps20, anys, List.length_cons, List.length_nil, Nat.reduceAdd, Nat.reduceSub, List.replicate_succ, List.replicate_zero, List.cons_append, List.nil_append] <;> rfl) ?_)
  repeat' first | apply w_seq | apply w_block | apply rb_n | apply rb_ret | apply rb_eq | refine rb_ne (by rfl) ?_ | apply w_exit | apply rt_exit | apply w_region | apply l_nil | apply rt_n | apply w_ret | apply rt_ret | apply w_skip | refine w_cond_t rfl ?_ | refine w_cond_f rfl ?_ | ((first | refine w_cnd rfl ?_ ?_ | refine w_cd rfl ?_ ?_ | refine w_cn rfl ?_ ?_ | refine w_cond rfl ?_ ?_) <;> intro hc) | (refine l_o ?_; first | refine l_op (hk := ?_))
  refine w_loopm (ι := Nat) (fun i => [(5, RVi i), (1, RVi ((k + i : Nat) : Int))]) (fun i => [(1000000000000, 1, (markT k l i).map RV.str)]) (fun i => i ≤ l.length) (fun i => l.length - i) 0 (h0 := ?_) (hs := ?_) (round := ?_)
  · omega
  · refine le_eq ?_ rfl ?_
    · (repeat' first | exact .nil | refine .keep ?_ | refine .any ?_); first | done | fail
    · rw [markT_zero]
  · intro i hi
    have hml := markT_length (k := k) hi
    by_cases hil : i < l.length
    · have ht := markText_ok (k + i) (by omega)
      repeat' first | apply w_seq | apply w_block | apply rb_n | apply rb_ret | apply rb_eq | refine rb_ne (by rfl) ?_ | apply w_exit | apply rt_exit | apply w_region | apply l_nil | apply rt_n | apply w_ret | apply rt_ret | apply w_skip | refine w_cond_t rfl ?_ | refine w_cond_f rfl ?_ | ((first | refine w_cnd rfl ?_ ?_ | refine w_cd rfl ?_ ?_ | refine w_cn rfl ?_ ?_ | refine w_cond rfl ?_ ?_) <;> intro hc) | (exfalso; omega) | (refine l_o ?_; first | refine l_op rfl (by first | (apply k_callf; first | exact ops_callf (hfc := ht) | fail) | fail) (hk := ?_) | refine l_op (hk := ?_))
      refine rn_mk (i + 1) ?_ ?_ ?_
      · first | omega | (dsimp only; omega)
      · first | omega | (dsimp only; omega)
      · refine le_eq ?_ rfl ?_
        · (repeat' first | exact .nil | refine .keep ?_ | refine .any ?_); first | done | fail
        · rw [← markT_set (by omega), List.map_set]
    · repeat' first | apply w_seq | apply w_block | apply rb_n | apply rb_ret | apply rb_eq | refine rb_ne (by rfl) ?_ | apply w_exit | apply rt_exit | apply w_region | apply l_nil | apply rt_n | apply w_ret | apply rt_ret | apply w_skip | refine w_cond_t rfl ?_ | refine w_cond_f rfl ?_ | ((first | refine w_cnd rfl ?_ ?_ | refine w_cd rfl ?_ ?_ | refine w_cn rfl ?_ ?_ | refine w_cond rfl ?_ ?_) <;> intro hc) | (exfalso; omega) | (refine l_o ?_; first | refine l_op (hk := ?_))
      obtain rfl : i = l.length := by omega
      refine en_endm [] (hf := Tryd.results20) (hO := ?_) (hr := ?_)
      · rw [markT_all]; rfl
      · rfl
def heldT (k : Nat) : List (List UInt8) → Bool
  | [] => true
  | x :: xs => if x ≠ mtext k then false else heldT (k + 1) xs
theorem heldStringS_ok (l : List (List UInt8)) (k : Nat) (h : k + l.length ≤ 1099511627776) : FCr Tryd.prog 21 [RSs l, RVi k] (RVi (if heldT k l then ((k + l.length : Nat) : Int) else -1)) := by
  refine (fcr_in Tryd.func21 rfl (by simp only [Tryd.ntmps21, anys, List.length_cons, List.length_nil, Nat.reduceAdd, Nat.reduceSub, List.replicate_succ, List.replicate_zero, List.cons_append, List.nil_append] <;> rfl) ?_)
  repeat' first | apply w_seq | apply w_block | apply rb_n | apply rb_ret | apply rb_eq | refine rb_ne (by rfl) ?_ | apply w_exit | apply rt_exit | apply w_region | apply l_nil | apply rt_n | apply w_ret | apply rt_ret | apply w_skip | refine w_cond_t rfl ?_ | refine w_cond_f rfl ?_ | ((first | refine w_cnd rfl ?_ ?_ | refine w_cd rfl ?_ ?_ | refine w_cn rfl ?_ ?_ | refine w_cond rfl ?_ ?_) <;> intro hc) | (refine l_o ?_; first | refine l_op (hk := ?_)) | refine d_nil ?_ | (refine d_o ?_; first | refine d_fl (hk := ?_) | refine d_ef (hk := ?_)) | (refine w_o ?_; first | refine w_draw (id := 4) (fun _ => true) (fun k => [5].contains k) [[]] 64 (by kernel_rfl) rfl (by kernel_rfl) (by simp [nm, nset, -List.map_take, -List.map_drop]) ?_)
  refine w_loopm (ι := Nat) (fun i => [(5, RVi i), (1, RVi ((k + i : Nat) : Int))]) (fun _ => []) (fun i => i ≤ l.length ∧ heldT (k + i) (l.drop i) = heldT k l) (fun i => l.length - i) 0 (h0 := ?_) (hs := ?_) (round := ?_)
  · simp
  · refine le_eq (by (repeat' first | exact .nil | refine .keep ?_ | refine .any ?_); first | done | fail) rfl rfl
  · intro i ⟨hi, hg⟩
    by_cases hil : i < l.length
    · have ht := markText_ok (k + i) (by omega)
      rw [dc (by omega), heldT] at hg
      repeat' first | apply w_seq | apply w_block | apply rb_n | apply rb_ret | apply rb_eq | refine rb_ne (by rfl) ?_ | apply w_exit | apply rt_exit | apply w_region | apply l_nil | apply rt_n | apply w_ret | apply rt_ret | apply w_skip | refine w_cond_t rfl ?_ | refine w_cond_f rfl ?_ | ((first | refine w_cnd rfl ?_ ?_ | refine w_cd rfl ?_ ?_ | refine w_cn rfl ?_ ?_ | refine w_cond rfl ?_ ?_) <;> intro hc) | (exfalso; omega) | (refine l_o ?_; first | refine l_op rfl (by first | (apply k_callf; first | exact ops_callf (hfc := ht) | fail) | fail) (hk := ?_) | refine l_op (hk := ?_)) | refine d_nil ?_ | (refine d_o ?_; first | refine d_fl (hk := ?_) | refine d_ef rfl (by first | exact .callf (hfc := ht) | fail) (hk := ?_) | refine d_ef (hk := ?_)) | (refine w_o ?_; first | refine w_draw (id := 4) (fun _ => true) (fun k => [5].contains k) [[]] 64 (by kernel_rfl) rfl (by kernel_rfl) (by simp [nm, nset, -List.map_take, -List.map_drop]) ?_)
      · refine en_one (hf := Tryd.results21) (h := ?_); simp only [lget]; first | refine congrArg RVb ?_ | refine congrArg RVi ?_ | skip
        rw [if_pos hc] at hg
        rw [← hg]; rfl
      · refine rn_mk (i + 1) ?_ (by first | omega | (dsimp only; omega)) (le_eq (by (repeat' first | exact .nil | refine .keep ?_ | refine .any ?_); first | done | fail) rfl rfl)
        rw [if_neg hc] at hg
        exact ⟨by omega, hg⟩
    · repeat' first | apply w_seq | apply w_block | apply rb_n | apply rb_ret | apply rb_eq | refine rb_ne (by rfl) ?_ | apply w_exit | apply rt_exit | apply w_region | apply l_nil | apply rt_n | apply w_ret | apply rt_ret | apply w_skip | refine w_cond_t rfl ?_ | refine w_cond_f rfl ?_ | ((first | refine w_cnd rfl ?_ ?_ | refine w_cd rfl ?_ ?_ | refine w_cn rfl ?_ ?_ | refine w_cond rfl ?_ ?_) <;> intro hc) | (exfalso; omega) | (refine l_o ?_; first | refine l_op (hk := ?_)) | refine d_nil ?_ | (refine d_o ?_; first | refine d_fl (hk := ?_) | refine d_ef (hk := ?_)) | (refine w_o ?_; first | refine w_draw (id := 4) (fun _ => true) (fun k => [5].contains k) [[]] 64 (by kernel_rfl) rfl (by kernel_rfl) (by simp [nm, nset, -List.map_take, -List.map_drop]) ?_)
      rw [show l.drop i = [] from List.drop_of_length_le (by omega)] at hg
      obtain rfl : i = l.length := by omega
      refine en_one (hf := Tryd.results21) (h := ?_); simp only [lget]; first | refine congrArg RVb ?_ | refine congrArg RVi ?_ | skip
      rw [← hg]; rfl
theorem heldT_fromT (k n : Nat) : heldT k (fromT k n) = true := by
  induction n generalizing k with
  | zero => rfl
  | succ n ih =>
    have e : fromT k (n + 1) = mtext k :: fromT (k + 1) n := by
      simp only [fromT, List.range_succ_eq_map, List.map_cons, List.map_map]
      congr 1
      apply List.map_congr_left
      intro j _
      simp only [Function.comp, Nat.succ_eq_add_one]
      congr 1; omega
    rw [e, heldT, if_neg (by simp)]
    exact ih (k + 1)

end Go.Proofs.YtijjcakbhnolhaaDoor
