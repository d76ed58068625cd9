/- The draws' reader of bytes: what it gives and how it goes on. For all bytes, as long as it has not read more than 2^40 of them. -/
import Derived.Test.YtmfbcipjknjicaaGreatDoorEf
import Derived.Test.YtmfbcipjknjicaaGreatDoorJ8
namespace Go.Proofs.YtmfbcipjknjicaaGreatDoor
set_option linter.unusedSectionVars false
variable [One Bool]
open Eng
attribute [local irreducible] OpS OpG FC FCr Rel Fl Ef DR Fs
set_option linter.unusedSimpArgs false
set_option maxHeartbeats 0
set_option maxRecDepth 100000

theorem gdI {α : Type} {l : List α} {k : Nat} {d : α} (h : k < l.length) : l.getD k d = l[k] := by simp [h]
structure Cur where
  code : List UInt8
  at_ : Nat
  seed : Nat
abbrev RCur (c : Cur) : RV := .agg [RYs c.code, RVn c.at_, RVu c.seed]
def curByte (c : Cur) : Nat := if h : c.at_ < c.code.length then c.code[c.at_].toNat else 0
def seedOn (s b : Nat) : Nat := addW (addW (mulW s 6364136223846793005) b) 868868
def curOn (c : Cur) : Cur := ⟨c.code, c.at_ + 1, seedOn c.seed (curByte c)⟩
def curVal (c : Cur) : Nat := if c.at_ + 1 ≤ c.code.length then curByte c else andW (shrW (seedOn c.seed (curByte c)) 40) 255
theorem curByte_lt (c : Cur) : curByte c < 256 := by
  unfold curByte
  split
  · have := c.code[c.at_].toNat_lt; omega
  · omega
theorem seedOn_lt (s b : Nat) : seedOn s b < 18446744073709551616 := addW_lt _ _
theorem curVal_lt (c : Cur) : curVal c < 256 := by
  unfold curVal
  split
  · exact curByte_lt c
  · have := andW_le (shrW (seedOn c.seed (curByte c)) 40) 255
    omega

theorem next_ok (c : Cur) (h : c.at_ ≤ 1099511627776) : FC Tryz.prog 99 [.ptr 1000000000000 0 0] [(1000000000000, 3, [RCur c])]
    (fun rv O => rv = RVn (curVal c) ∧ O = [(1000000000000, 3, [RCur (curOn c)])]) := by
  have hb := curByte_lt c
  have hs := seedOn_lt c.seed (curByte c)
  have hd : shrW (seedOn c.seed (curByte c)) 40 < 18446744073709551616 := Nat.lt_of_le_of_lt (shrW_le _ _) hs
  have ha := andW_le (shrW (seedOn c.seed (curByte c)) 40) 255
  by_cases hl : c.at_ < c.code.length
  · have e : curByte c = c.code[c.at_].toNat := by simp [curByte, hl]
    have e1 : curVal c = curByte c := by rw [curVal, if_pos (by omega)]
    rw [e1]
    rw [e] at hb
    unfold curOn seedOn
    rw [e]
    refine (fc_in Tryz.func99 rfl (by simp only [Tryz.ntmps99, anys, List.length_cons, List.length_nil, Nat.reduceAdd, Nat.reduceSub, List.replicate_succ, List.replicate_zero, List.cons_append, List.nil_append] <;> rfl) ?_)
    repeat' first | apply w_seq | apply w_region | apply l_nil | apply rt_n | apply w_ret | apply rt_ret | apply w_skip | refine w_cond_t rfl ?_ | refine w_cond_f rfl ?_ | ((first | refine w_cnd rfl ?_ ?_ | refine w_cd rfl ?_ ?_ | refine w_cn rfl ?_ ?_ | refine w_cond rfl ?_ ?_) <;> intro hc) | (exfalso; omega) | (refine l_o ?_; first | refine l_op rfl (by first | (apply k_mul; first | exact ops_mulu rfl rfl | fail) | (apply k_add; first | exact ops_addu rfl rfl | fail) | (apply k_convert; first | exact ops_convu rfl (by kernel_rfl) (by kernel_rfl) (by omega) | fail) | fail) (hk := ?_) | refine l_op (hk := ?_)) | refine d_nil ?_ | (refine d_o ?_; first | refine d_fl rfl (by first | exact .pl (by first | (apply q_mul; first | exact fs_mulu rfl rfl | fail) | (apply q_add; first | exact fs_addu rfl rfl | fail) | (apply q_convert; first | exact fs_convu rfl (by kernel_rfl) (by kernel_rfl) (by omega) | fail) | fail) | fail) (hk := ?_) | refine d_fl (hk := ?_) | refine d_ef (hk := ?_)) | (refine w_o ?_; first | refine w_draw (id := 2) (fun _ => true) (fun k => [].contains k) [] 64 (by kernel_rfl) rfl (by kernel_rfl) (by simp [nm, nset, -List.map_take, -List.map_drop]) ?_ | refine w_draw (id := 3) (fun _ => true) (fun k => [].contains k) [] 64 (by kernel_rfl) rfl (by kernel_rfl) (by simp [nm, nset, -List.map_take, -List.map_drop]) ?_ | refine w_draw (id := 6) (fun _ => true) (fun k => [].contains k) [] 64 (by kernel_rfl) rfl (by kernel_rfl) (by simp [nm, nset, -List.map_take, -List.map_drop]) ?_)
    refine en_endm [] (hf := Tryz.results99) (hO := ?_) (hr := ?_)
    · rfl
    · rfl
  · have e : curByte c = 0 := by simp [curByte, hl]
    have e1 : curVal c = andW (shrW (seedOn c.seed (curByte c)) 40) 255 := by rw [curVal, if_neg (by omega)]
    rw [e1]
    rw [e] at hd ha ⊢
    unfold curOn
    rw [e]
    unfold seedOn at *
    refine (fc_in Tryz.func99 rfl (by simp only [Tryz.ntmps99, anys, List.length_cons, List.length_nil, Nat.reduceAdd, Nat.reduceSub, List.replicate_succ, List.replicate_zero, List.cons_append, List.nil_append] <;> rfl) ?_)
    repeat' first | apply w_seq | apply w_region | apply l_nil | apply rt_n | apply w_ret | apply rt_ret | apply w_skip | refine w_cond_t rfl ?_ | refine w_cond_f rfl ?_ | ((first | refine w_cnd rfl ?_ ?_ | refine w_cd rfl ?_ ?_ | refine w_cn rfl ?_ ?_ | refine w_cond rfl ?_ ?_) <;> intro hc) | (exfalso; omega) | (refine l_o ?_; first | refine l_op rfl (by first | (apply k_mul; first | exact ops_mulu rfl rfl | fail) | (apply k_add; first | exact ops_addu rfl rfl | fail) | (apply k_convert; first | exact ops_convu (m := 0) rfl (by kernel_rfl) (by kernel_rfl) (by omega) | fail) | (apply k_shr; first | exact ops_shru (n := 40) rfl rfl (by omega) | fail) | (apply k_and; first | exact ops_andu (n := 255) rfl rfl (by omega) (by omega) | fail) | (apply k_conv; first | exact ops_conv64 rfl (by kernel_rfl) (by kernel_rfl) (by omega) (by omega) | fail) | fail) (hk := ?_) | refine l_op (hk := ?_)) | refine d_nil ?_ | (refine d_o ?_; first | refine d_fl rfl (by first | exact .pl (by first | (apply q_mul; first | exact fs_mulu rfl rfl | fail) | (apply q_add; first | exact fs_addu rfl rfl | fail) | (apply q_convert; first | exact fs_convu (m := 0) rfl (by kernel_rfl) (by kernel_rfl) (by omega) | fail) | (apply q_shr; first | exact fs_shru (n := 40) rfl rfl (by omega) | fail) | (apply q_and; first | exact fs_andu (n := 255) rfl rfl (by omega) (by omega) | fail) | (apply q_conv; first | exact fs_conv64 rfl (by kernel_rfl) (by kernel_rfl) (by omega) (by omega) | fail) | fail) | fail) (hk := ?_) | refine d_fl (hk := ?_) | refine d_ef (hk := ?_)) | (refine w_o ?_; first | refine w_draw (id := 2) (fun _ => true) (fun k => [].contains k) [] 64 (by kernel_rfl) rfl (by kernel_rfl) (by simp [nm, nset, -List.map_take, -List.map_drop]) ?_ | refine w_draw (id := 3) (fun _ => true) (fun k => [].contains k) [] 64 (by kernel_rfl) rfl (by kernel_rfl) (by simp [nm, nset, -List.map_take, -List.map_drop]) ?_ | refine w_draw (id := 6) (fun _ => true) (fun k => [].contains k) [] 64 (by kernel_rfl) rfl (by kernel_rfl) (by simp [nm, nset, -List.map_take, -List.map_drop]) ?_)
    refine en_endm [] (hf := Tryz.results99) (hO := ?_) (hr := ?_)
    · rfl
    · rfl

def pickV (c : Cur) (n : Nat) : Nat := if n ≤ 1 then 0 else if 200 < n then (curVal c * 256 + curVal (curOn c)) % n else curVal c % n
def pickC (c : Cur) (n : Nat) : Cur := if n ≤ 1 then c else if 200 < n then curOn (curOn c) else curOn c
theorem pickC_at (c n) : (pickC c n).at_ ≤ c.at_ + 2 := by
  unfold pickC
  split
  · omega
  · split
    · show c.at_ + 1 + 1 ≤ _; omega
    · show c.at_ + 1 ≤ _; omega
theorem pickV_lt (c : Cur) (n : Nat) (h : 0 < n) : pickV c n < n := by
  unfold pickV
  split
  · exact h
  · split
    · exact Nat.mod_lt _ h
    · exact Nat.mod_lt _ h
theorem pick_ok (c : Cur) (n : Nat) (h : c.at_ ≤ 1099511627775) (hn : n ≤ 1099511627776) : FC Tryz.prog 76 [.ptr 1000000000000 0 0, RVn n] [(1000000000000, 3, [RCur c])]
    (fun rv O => rv = RVn (pickV c n) ∧ O = [(1000000000000, 3, [RCur (pickC c n)])]) := by
  have hb := curVal_lt c
  have hb2 := curVal_lt (curOn c)
  have h1 := next_ok c (by omega)
  have h2 := next_ok (curOn c) (by show c.at_ + 1 ≤ _; omega)
  unfold pickV pickC
  by_cases c1 : n ≤ 1
  · simp only [if_pos c1]
    refine (fc_in Tryz.func76 rfl (by simp only [Tryz.ntmps76, anys, List.length_cons, List.length_nil, Nat.reduceAdd, Nat.reduceSub, List.replicate_succ, List.replicate_zero, List.cons_append, List.nil_append] <;> rfl) ?_)
    repeat' first | apply w_seq | apply w_region | apply l_nil | apply rt_n | apply w_ret | apply rt_ret | apply w_skip | refine w_cond_t rfl ?_ | refine w_cond_f rfl ?_ | ((first | refine w_cnd rfl ?_ ?_ | refine w_cd rfl ?_ ?_ | refine w_cn rfl ?_ ?_ | refine w_cond rfl ?_ ?_) <;> intro hc) | (exfalso; omega) | (refine l_o ?_; first | refine l_op (hk := ?_))
    refine en_endm [] (hf := Tryz.results76) (hO := ?_) (hr := ?_)
    · rfl
    · rfl
  · simp only [if_neg c1]
    by_cases c2 : 200 < n
    · simp only [if_pos c2]
      refine (fc_in Tryz.func76 rfl (by simp only [Tryz.ntmps76, anys, List.length_cons, List.length_nil, Nat.reduceAdd, Nat.reduceSub, List.replicate_succ, List.replicate_zero, List.cons_append, List.nil_append] <;> rfl) ?_)
      repeat' first | apply w_seq | apply w_region | apply l_nil | apply rt_n | apply w_ret | apply rt_ret | apply w_skip | refine w_cond_t rfl ?_ | refine w_cond_f rfl ?_ | ((first | refine w_cnd rfl ?_ ?_ | refine w_cd rfl ?_ ?_ | refine w_cn rfl ?_ ?_ | refine w_cond rfl ?_ ?_) <;> intro hc) | (exfalso; omega) | (refine l_o ?_; first | refine l_op rfl (by first | (apply k_mul; first | exact Eng.ops_muln (b := 256) rfl rfl (by omega) | fail) | (apply k_add; first | exact ops_addn rfl rfl (by omega) | fail) | (apply k_rem; first | exact ops_remn rfl rfl (by omega) | fail) | (apply k_callf; first | exact ops_callP (d := 9) 1000000000000 [RCur (curOn c)] (hfc := h1) | exact ops_callP (d := 15) 1000000000000 [RCur (curOn (curOn c))] (hfc := h2) | fail) | fail) (hk := ?_) | refine l_op (hk := ?_))
      refine en_endm [] (hf := Tryz.results76) (hO := ?_) (hr := ?_)
      · rfl
      · rfl
    · simp only [if_neg c2]
      refine (fc_in Tryz.func76 rfl (by simp only [Tryz.ntmps76, anys, List.length_cons, List.length_nil, Nat.reduceAdd, Nat.reduceSub, List.replicate_succ, List.replicate_zero, List.cons_append, List.nil_append] <;> rfl) ?_)
      repeat' first | apply w_seq | apply w_region | apply l_nil | apply rt_n | apply w_ret | apply rt_ret | apply w_skip | refine w_cond_t rfl ?_ | refine w_cond_f rfl ?_ | ((first | refine w_cnd rfl ?_ ?_ | refine w_cd rfl ?_ ?_ | refine w_cn rfl ?_ ?_ | refine w_cond rfl ?_ ?_) <;> intro hc) | (exfalso; omega) | (refine l_o ?_; first | refine l_op rfl (by first | (apply k_rem; first | exact ops_remn rfl rfl (by omega) | fail) | (apply k_callf; first | exact ops_callP (d := 9) 1000000000000 [RCur (curOn c)] (hfc := h1) | fail) | fail) (hk := ?_) | refine l_op (hk := ?_))
      refine en_endm [] (hf := Tryz.results76) (hO := ?_) (hr := ?_)
      · rfl
      · rfl

theorem one_ok (c : Cur) (n : Nat) (h : c.at_ ≤ 1099511627775) (hn : n ≤ 1099511627776) : FC Tryz.prog 77 [.ptr 1000000000000 0 0, RVn n] [(1000000000000, 3, [RCur c])]
    (fun rv O => rv = RVb (decide (((pickV c n : Nat) : Int) = 0)) ∧ O = [(1000000000000, 3, [RCur (pickC c n)])]) := by
  refine (fc_in Tryz.func77 rfl (by simp only [Tryz.ntmps77, anys, List.length_cons, List.length_nil, Nat.reduceAdd, Nat.reduceSub, List.replicate_succ, List.replicate_zero, List.cons_append, List.nil_append] <;> rfl) ?_)
  repeat' first | apply w_seq | apply w_region | apply l_nil | apply rt_n | apply w_ret | apply rt_ret | apply w_skip | (refine l_o ?_; first | refine l_eqnil rfl (by kernel_rfl) (by intro b; simp only [nz]; rfl) (fun b hb => ?_) | refine l_op rfl (by first | (apply k_callf; first | exact ops_callP 1000000000000 [RCur (pickC c n)] (hfc := pick_ok c n h hn) | fail) | fail) (hk := ?_) | refine l_op (hk := ?_))
  refine en_endm [] (hf := Tryz.results77) (hO := ?_) (hr := ?_)
  · rfl
  · rfl
theorem among_ok (c : Cur) (l : List Int) (h : c.at_ ≤ 1099511627775) (hl : l ≠ []) (hl2 : l.length ≤ 1099511627776) : FC Tryz.prog 49 [.ptr 1000000000000 0 0, RIs l] [(1000000000000, 3, [RCur c])]
    (fun rv O => rv = RVi (l.getD (pickV c l.length) 0) ∧ O = [(1000000000000, 3, [RCur (pickC c l.length)])]) := by
  have h0 : 0 < l.length := List.length_pos_iff.2 hl
  have hp := pickV_lt c l.length h0
  rw [gdI hp]
  refine (fc_in Tryz.func49 rfl (by simp only [Tryz.ntmps49, anys, List.length_cons, List.length_nil, Nat.reduceAdd, Nat.reduceSub, List.replicate_succ, List.replicate_zero, List.cons_append, List.nil_append] <;> rfl) ?_)
  repeat' first | apply w_seq | apply w_region | apply l_nil | apply rt_n | apply w_ret | apply rt_ret | apply w_skip | (refine l_o ?_; first | refine l_op rfl (by first | (apply k_callf; first | exact ops_callP 1000000000000 [RCur (pickC c l.length)] (hfc := pick_ok c l.length h hl2) | fail) | fail) (hk := ?_) | refine l_op (hk := ?_))
  refine en_endm [] (hf := Tryz.results49) (hO := ?_) (hr := ?_)
  · rfl
  · rfl
end Go.Proofs.YtmfbcipjknjicaaGreatDoor
