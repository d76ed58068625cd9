/- A text cut at a byte: the library's Cut. For all texts. -/
import Derived.Test.YtpcckakchpblcaaGreatDoorExt
import Derived.Test.YtpcckakchpblcaaGreatDoorText
namespace Go.Proofs.YtpcckakchpblcaaGreatDoor
open Eng
attribute [local irreducible] OpS OpG FC FCr Rel Fl Ef DR Fs
set_option linter.unusedSimpArgs false
set_option maxHeartbeats 0
set_option maxRecDepth 100000

/-- How many bytes stand ahead of a byte (all, if it doesn't occur). -/
def posB (b : UInt8) : List UInt8 → Nat
  | [] => 0
  | c :: cs => if c = b then 0 else posB b cs + 1
theorem posB_le (b : UInt8) (s : List UInt8) : posB b s ≤ s.length := by
  induction s with
  | nil => simp [posB]
  | cons c s ih => rw [posB]; split <;> simp; omega
theorem indexByte_pos (b : UInt8) (s : List UInt8) : Lib.indexByte s b = if posB b s < s.length then ((posB b s : Nat) : Int) else -1 := by
  induction s with
  | nil => rfl
  | cons c s ih =>
    rw [Lib.indexByte, posB]
    by_cases h : c = b
    · rw [if_pos (by simpa using h), if_pos h, if_pos (by simp)]
      try rfl
    · rw [if_neg (by simpa using h), if_neg h, ih]
      by_cases h2 : posB b s < s.length
      · rw [if_pos h2, if_neg (by simp only [beq_iff_eq]; omega), if_pos (by simp only [List.length_cons]; omega)]; simp
      · rw [if_neg h2, if_pos (by simp), if_neg (by simp only [List.length_cons]; omega)]
theorem sIndex_ok (s : List UInt8) (b : UInt8) (hs : s.length ≤ 9223372036854775807) : FCr Tryz.prog 76 [RV.str s, RV.str [b]] (RVi (Lib.indexByte s b)) := by
  have h1 : FCr Tryz.prog 89 [RV.str s, RVy b] (RVi (Lib.indexByte s b)) := by
    refine (fcr_in Tryz.func89 rfl (by simp only [Tryz.ntmps89, anys, List.length_cons, List.length_nil, Nat.reduceAdd, Nat.reduceSub, List.replicate_succ, List.replicate_zero, List.cons_append, List.nil_append] <;> rfl) ?_)
    repeat' first
      | refine w_seq ?_
      | refine w_region ?_
      | refine l_nil ?_
      | refine rt_n ?_
      | refine w_ret ?_
      | refine rt_ret ?_
      | refine w_skip ?_
      | (refine l_o ?_; first | refine l_op rfl (by first | (apply k_callf; first | exact ops_indexByte rfl rfl Tryz.func117 (by kernel_rfl) (by kernel_rfl) (by kernel_rfl) (by kernel_rfl) | fail) | fail) (hk := ?_) | refine l_op (hk := ?_))
    refine en_one (hf := Tryz.results89) (h := ?_); simp only [lget]; first | refine congrArg RVb ?_ | refine congrArg RVi ?_ | skip
  by_cases he : [b] = s
  · subst he
    have h0 : Lib.indexByte [b] b = 0 := by simp [Lib.indexByte]
    rw [h0] at h1 ⊢
    refine (fcr_in Tryz.func76 rfl (by simp only [Tryz.ntmps76, anys, List.length_cons, List.length_nil, Nat.reduceAdd, Nat.reduceSub, List.replicate_succ, List.replicate_zero, List.cons_append, List.nil_append] <;> rfl) ?_)
    repeat' first
      | refine w_seq ?_
      | refine w_block ?_
      | refine rb_n ?_
      | refine rb_ret ?_
      | refine rb_eq ?_
      | refine rb_ne (by rfl) ?_
      | refine w_exit ?_
      | refine rt_exit ?_
      | refine w_region ?_
      | refine l_nil ?_
      | refine rt_n ?_
      | refine w_ret ?_
      | refine rt_ret ?_
      | refine w_skip ?_
      | refine w_cond_t rfl ?_
      | refine w_cond_f rfl ?_
      | refine w_cnd rfl (fun hc => ?_) (fun hc => ?_)
      | refine w_cd rfl (fun hc => ?_) (fun hc => ?_)
      | refine w_cn rfl (fun hc => ?_) (fun hc => ?_)
      | refine w_cond rfl (fun hc => ?_) (fun hc => ?_)
      | (refine l_o ?_; first | refine l_eqnil rfl (by kernel_rfl) (by intro b; simp only [nz]; rfl) (fun b hb => ?_) | refine l_op rfl (by first | (apply k_index; first | exact ops_byte (p := [b]) (i := 0) rfl rfl rfl (by kernel_rfl) | fail) | (apply k_callf; first | exact ops_callf (hfc := h1) | fail) | fail) (hk := ?_) | refine l_op (hk := ?_) | (refine l_g ?_; first | refine l_y rfl rfl rfl ?_ | refine l_n rfl rfl rfl rfl (hk := ?_) | refine l_n' rfl rfl rfl (hk := ?_) | refine l_spnd rfl rfl rfl (h1 := fun hc => ?_) (h2 := fun hc => ?_) | refine l_spd rfl rfl rfl (h1 := fun hc => ?_) (h2 := fun hc => ?_) | refine l_spn rfl rfl rfl (h1 := fun hc => ?_) (h2 := fun hc => ?_) | refine l_sp rfl rfl rfl (h1 := fun hc => ?_) (h2 := fun hc => ?_)))
    all_goals first
      | ((refine en_one (hf := Tryz.results76) (h := ?_); simp only [lget]; first | refine congrArg RVb ?_ | refine congrArg RVi ?_ | skip); done)
      | (exfalso; simp at hc; done)
      | trace_state
  · refine (fcr_in Tryz.func76 rfl (by simp only [Tryz.ntmps76, anys, List.length_cons, List.length_nil, Nat.reduceAdd, Nat.reduceSub, List.replicate_succ, List.replicate_zero, List.cons_append, List.nil_append] <;> rfl) ?_)
    repeat' first
      | refine w_seq ?_
      | refine w_block ?_
      | refine rb_n ?_
      | refine rb_ret ?_
      | refine rb_eq ?_
      | refine rb_ne (by rfl) ?_
      | refine w_exit ?_
      | refine rt_exit ?_
      | refine w_region ?_
      | refine l_nil ?_
      | refine rt_n ?_
      | refine w_ret ?_
      | refine rt_ret ?_
      | refine w_skip ?_
      | refine w_cond_t rfl ?_
      | refine w_cond_f rfl ?_
      | refine w_cnd rfl (fun hc => ?_) (fun hc => ?_)
      | refine w_cd rfl (fun hc => ?_) (fun hc => ?_)
      | refine w_cn rfl (fun hc => ?_) (fun hc => ?_)
      | refine w_cond rfl (fun hc => ?_) (fun hc => ?_)
      | (exfalso; exact absurd hc he)
      | (exfalso; simp at hc; done)
      | (refine l_o ?_; first | refine l_eqnil rfl (by kernel_rfl) (by intro b; simp only [nz]; rfl) (fun b hb => ?_) | refine l_op rfl (by first | (apply k_index; first | exact ops_byte (p := [b]) (i := 0) rfl rfl rfl (by kernel_rfl) | fail) | (apply k_callf; first | exact ops_callf (hfc := h1) | fail) | fail) (hk := ?_) | refine l_op (hk := ?_) | (refine l_g ?_; first | refine l_y rfl rfl rfl ?_ | refine l_n rfl rfl rfl rfl (hk := ?_) | refine l_n' rfl rfl rfl (hk := ?_) | refine l_spnd rfl rfl rfl (h1 := fun hc => ?_) (h2 := fun hc => ?_) | refine l_spd rfl rfl rfl (h1 := fun hc => ?_) (h2 := fun hc => ?_) | refine l_spn rfl rfl rfl (h1 := fun hc => ?_) (h2 := fun hc => ?_) | refine l_sp rfl rfl rfl (h1 := fun hc => ?_) (h2 := fun hc => ?_)))
    all_goals first
      | ((refine en_one (hf := Tryz.results76) (h := ?_); simp only [lget]; first | refine congrArg RVb ?_ | refine congrArg RVi ?_ | skip); done)
      | (exfalso; simp at hc; done)
      | trace_state
/-- Cut where the byte occurs. -/
theorem cut_some (s : List UInt8) (b : UInt8) (h : posB b s < s.length) (hs : s.length ≤ 9223372036854775807) : FCr Tryz.prog 27 [RV.str s, RV.str [b]] (.tup [RV.str (s.take (posB b s)), RV.str (s.drop (posB b s + 1)), RVb true]) := by
  have h1 := sIndex_ok s b hs
  rw [indexByte_pos, if_pos h] at h1
  have h2 : FCr Tryz.prog 51 [RV.str s, RV.str [b]] (.tup [RV.str (s.take (posB b s)), RV.str (s.drop (posB b s + 1)), RVb true]) := by
    refine (fcr_in Tryz.func51 rfl (by simp only [Tryz.ntmps51, anys, List.length_cons, List.length_nil, Nat.reduceAdd, Nat.reduceSub, List.replicate_succ, List.replicate_zero, List.cons_append, List.nil_append] <;> rfl) ?_)
    repeat' first
      | refine w_seq ?_
      | refine w_region ?_
      | refine l_nil ?_
      | refine rt_n ?_
      | refine w_ret ?_
      | refine rt_ret ?_
      | refine w_skip ?_
      | refine w_cond_t rfl ?_
      | refine w_cond_f rfl ?_
      | refine w_cnd rfl (fun hc => ?_) (fun hc => ?_)
      | refine w_cd rfl (fun hc => ?_) (fun hc => ?_)
      | refine w_cn rfl (fun hc => ?_) (fun hc => ?_)
      | refine w_cond rfl (fun hc => ?_) (fun hc => ?_)
      | (exfalso; omega)
      | (refine l_o ?_; first | refine l_op rfl (by first | (apply k_add; first | exact ops_addn (a := posB b s) (b := 1) rfl rfl (by omega) | fail) | (apply k_slice; first | exact ops_scuth (h := posB b s) rfl rfl (by omega) (by kernel_rfl) | exact ops_scutl (l := posB b s + 1) rfl rfl (by omega) (by kernel_rfl) | fail) | (apply k_callf; first | exact ops_callf (hfc := h1) | fail) | fail) (hk := ?_) | refine l_op (hk := ?_))
      | refine d_nil ?_
      | (refine d_o ?_; first | refine d_fl rfl (by first | exact .pl (by first | (apply q_add; first | exact fs_addn (a := posB b s) (b := 1) rfl rfl (by omega) | fail) | (apply q_slice; first | exact fs_scuth (h := posB b s) rfl rfl (by omega) (by kernel_rfl) | exact fs_scutl (l := posB b s + 1) rfl rfl (by omega) (by kernel_rfl) | fail) | fail) | fail) (hk := ?_) | refine d_fl (hk := ?_) | refine d_ef rfl (by first | exact .callf (hfc := h1) | fail) (hk := ?_) | refine d_ef (hk := ?_))
      | (refine w_o ?_; first | refine w_draw (id := 3) (fun _ => true) (fun k => [].contains k) [] 64 (by kernel_rfl) rfl (by kernel_rfl) (by simp [nm, nset, -List.map_take, -List.map_drop]) ?_)
    refine en_end (hf := Tryz.results51) (hr := ?_); simp only [ne, nf, nl, nr, lget, reduceIte, Nat.reduceEqDiff]; first | rfl | refine congrArg RVb ?_ | refine congrArg RVi ?_ | skip
  refine (fcr_in Tryz.func27 rfl (by simp only [Tryz.ntmps27, anys, List.length_cons, List.length_nil, Nat.reduceAdd, Nat.reduceSub, List.replicate_succ, List.replicate_zero, List.cons_append, List.nil_append] <;> rfl) ?_)
  repeat' first
    | refine w_seq ?_
    | refine w_region ?_
    | refine l_nil ?_
    | refine rt_n ?_
    | refine w_ret ?_
    | refine rt_ret ?_
    | refine w_skip ?_
    | (refine l_o ?_; first | refine l_op rfl (by first | (apply k_callf; first | exact ops_callf (hfc := h2) | fail) | fail) (hk := ?_) | refine l_op (hk := ?_))
  refine en_end (hf := Tryz.results27) (hr := ?_); simp only [ne, nf, nl, nr, lget, reduceIte, Nat.reduceEqDiff]; first | rfl | refine congrArg RVb ?_ | refine congrArg RVi ?_ | skip
theorem cut_none (s : List UInt8) (b : UInt8) (h : ¬ posB b s < s.length) (hs : s.length ≤ 9223372036854775807) : FCr Tryz.prog 27 [RV.str s, RV.str [b]] (.tup [RV.str s, RV.str [], RVb false]) := by
  have h1 := sIndex_ok s b hs
  rw [indexByte_pos, if_neg h] at h1
  have h2 : FCr Tryz.prog 51 [RV.str s, RV.str [b]] (.tup [RV.str s, RV.str [], RVb false]) := by
    refine (fcr_in Tryz.func51 rfl (by simp only [Tryz.ntmps51, anys, List.length_cons, List.length_nil, Nat.reduceAdd, Nat.reduceSub, List.replicate_succ, List.replicate_zero, List.cons_append, List.nil_append] <;> rfl) ?_)
    repeat' first
      | refine w_seq ?_
      | refine w_region ?_
      | refine l_nil ?_
      | refine rt_n ?_
      | refine w_ret ?_
      | refine rt_ret ?_
      | refine w_skip ?_
      | refine w_cond_t rfl ?_
      | refine w_cond_f rfl ?_
      | refine w_cnd rfl (fun hc => ?_) (fun hc => ?_)
      | refine w_cd rfl (fun hc => ?_) (fun hc => ?_)
      | refine w_cn rfl (fun hc => ?_) (fun hc => ?_)
      | refine w_cond rfl (fun hc => ?_) (fun hc => ?_)
      | (exfalso; omega)
      | (refine l_o ?_; first | refine l_op rfl (by first | (apply k_callf; first | exact ops_callf (hfc := h1) | fail) | fail) (hk := ?_) | refine l_op (hk := ?_))
      | refine d_nil ?_
      | (refine d_o ?_; first | refine d_fl (hk := ?_) | refine d_ef rfl (by first | exact .callf (hfc := h1) | fail) (hk := ?_) | refine d_ef (hk := ?_))
      | (refine w_o ?_; first | refine w_draw (id := 3) (fun _ => true) (fun k => [].contains k) [] 64 (by kernel_rfl) rfl (by kernel_rfl) (by simp [nm, nset, -List.map_take, -List.map_drop]) ?_)
    refine en_end (hf := Tryz.results51) (hr := ?_); simp only [ne, nf, nl, nr, lget, reduceIte, Nat.reduceEqDiff]; first | rfl | refine congrArg RVb ?_ | refine congrArg RVi ?_ | skip
  refine (fcr_in Tryz.func27 rfl (by simp only [Tryz.ntmps27, anys, List.length_cons, List.length_nil, Nat.reduceAdd, Nat.reduceSub, List.replicate_succ, List.replicate_zero, List.cons_append, List.nil_append] <;> rfl) ?_)
  repeat' first
    | refine w_seq ?_
    | refine w_region ?_
    | refine l_nil ?_
    | refine rt_n ?_
    | refine w_ret ?_
    | refine rt_ret ?_
    | refine w_skip ?_
    | (refine l_o ?_; first | refine l_op rfl (by first | (apply k_callf; first | exact ops_callf (hfc := h2) | fail) | fail) (hk := ?_) | refine l_op (hk := ?_))
  refine en_end (hf := Tryz.results27) (hr := ?_); simp only [ne, nf, nl, nr, lget, reduceIte, Nat.reduceEqDiff]; first | rfl | refine congrArg RVb ?_ | refine congrArg RVi ?_ | skip
end Go.Proofs.YtpcckakchpblcaaGreatDoor
