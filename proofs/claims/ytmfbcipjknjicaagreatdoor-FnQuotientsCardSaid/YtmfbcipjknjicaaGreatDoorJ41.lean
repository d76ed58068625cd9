/- The library's Join and Itoa, as the shelf's contracts lay them at this program. No condition. -/
import Derived.Shelf.Strings.OnBuilder
import Derived.Shelf.LaysM
import Derived.Shelf.Strconv.Itoa3
import Derived.Test.YtmfbcipjknjicaaGreatDoorJ15
import Derived.Test.YtmfbcipjknjicaaGreatDoorJ6
namespace Go.Proofs.YtmfbcipjknjicaaGreatDoor
set_option maxHeartbeats 0
set_option maxRecDepth 100000
open Go.Shelf
def shelf_lays171_ren : Go.Shelf.Ren := ⟨fun | 171 => 43 | 243 => 75 | 246 => 98 | 283 => 112 | 284 => 113 | 285 => 114 | 286 => 115 | 129 => 134 | 317 => 135 | 318 => 136 | 319 => 137 | 320 => 138 | 337 => 149 | 338 => 150 | n => n, fun | 3 => 3 | 9 => 9 | 2 => 2 | 4 => 4 | 171 => 127 | 0 => 0 | 53 => 70 | 37 => 22 | 5 => 5 | 173 => 130 | 212 => 147 | 51 => 145 | 20 => 20 | 213 => 148 | 46 => 126 | 232 => 165 | 233 => 166 | n => n, fun | 17 => 0 | 18 => 2 | 19 => 3 | n => n⟩
theorem shelf_lays171 : Go.Proofs.Lays.n171 Tryz.prog shelf_lays171_ren := {
  mixed := by kernel_rfl
  f129 := Tryz.func134.trans (congrArg some (by kernel_rfl))
  f171 := Tryz.func43.trans (congrArg some (by kernel_rfl))
  f243 := Tryz.func75.trans (congrArg some (by kernel_rfl))
  f246 := Tryz.func98.trans (congrArg some (by kernel_rfl))
  f283 := Tryz.func112.trans (congrArg some (by kernel_rfl))
  f284 := Tryz.func113.trans (congrArg some (by kernel_rfl))
  f285 := Tryz.func114.trans (congrArg some (by kernel_rfl))
  f286 := Tryz.func115.trans (congrArg some (by kernel_rfl))
  f317 := Tryz.func135.trans (congrArg some (by kernel_rfl))
  f318 := Tryz.func136.trans (congrArg some (by kernel_rfl))
  f319 := Tryz.func137.trans (congrArg some (by kernel_rfl))
  f320 := Tryz.func138.trans (congrArg some (by kernel_rfl))
  f337 := Tryz.func149.trans (congrArg some (by kernel_rfl))
  f338 := Tryz.func150.trans (congrArg some (by kernel_rfl))
  t0 := Tryz.underlying0
  a0 := Tryz.isAgg0
  z0 := Tryz.sizeOf0
  v0 := Tryz.zeroValue0
  t2 := Tryz.underlying2
  a2 := Tryz.isAgg2
  z2 := Tryz.sizeOf2
  v2 := Tryz.zeroValue2
  t3 := Tryz.underlying3
  a3 := Tryz.isAgg3
  z3 := Tryz.sizeOf3
  v3 := Tryz.zeroValue3
  t4 := Tryz.underlying4
  a4 := Tryz.isAgg4
  z4 := Tryz.sizeOf4
  v4 := Tryz.zeroValue4
  t5 := Tryz.underlying5
  a5 := Tryz.isAgg5
  z5 := Tryz.sizeOf5
  v5 := Tryz.zeroValue5
  t9 := Tryz.underlying9
  a9 := Tryz.isAgg9
  z9 := Tryz.sizeOf9
  v9 := Tryz.zeroValue9
  t20 := Tryz.underlying20
  a20 := Tryz.isAgg20
  z20 := Tryz.sizeOf20
  v20 := Tryz.zeroValue20
  t37 := Tryz.underlying22
  a37 := Tryz.isAgg22
  z37 := Tryz.sizeOf22
  v37 := Tryz.zeroValue22
  t46 := Tryz.underlying126
  a46 := Tryz.isAgg126
  z46 := Tryz.sizeOf126
  v46 := Tryz.zeroValue126
  t51 := Tryz.underlying145
  a51 := Tryz.isAgg145
  z51 := Tryz.sizeOf145
  v51 := Tryz.zeroValue145
  t53 := Tryz.underlying70
  a53 := Tryz.isAgg70
  z53 := Tryz.sizeOf70
  v53 := Tryz.zeroValue70
  t171 := Tryz.underlying127
  a171 := Tryz.isAgg127
  z171 := Tryz.sizeOf127
  v171 := Tryz.zeroValue127
  t173 := Tryz.underlying130
  a173 := Tryz.isAgg130
  z173 := Tryz.sizeOf130
  v173 := Tryz.zeroValue130
  t212 := Tryz.underlying147
  a212 := Tryz.isAgg147
  z212 := Tryz.sizeOf147
  v212 := Tryz.zeroValue147
  t213 := Tryz.underlying148
  a213 := Tryz.isAgg148
  z213 := Tryz.sizeOf148
  t232 := Tryz.underlying165
  a232 := Tryz.isAgg165
  z232 := Tryz.sizeOf165
  v232 := Tryz.zeroValue165
  t233 := Tryz.underlying166
  a233 := Tryz.isAgg166
  z233 := Tryz.sizeOf166
  v233 := Tryz.zeroValue166
  g17 := by kernel_rfl
  g18 := by kernel_rfl
  g19 := by kernel_rfl }
end Go.Proofs.YtmfbcipjknjicaaGreatDoor
/- The reference's readers of texts. For all texts. -/
namespace Go.Proofs.YtmfbcipjknjicaaGreatDoor
open Eng
attribute [local irreducible] OpS OpG FC FCr Rel Fl Ef DR Fs
set_option linter.unusedSimpArgs false
set_option maxHeartbeats 0
set_option maxRecDepth 100000

def dgs : List UInt8 := [48, 49, 50, 51, 52, 53, 54, 55, 56, 57]
def dg (k : Nat) : List UInt8 := (dgs.drop k).take 1
def num (n : Nat) : List UInt8 := if n < 10 then dg n else num (n / 10) ++ dg (n % 10)
theorem num_len (n : Nat) : (num n).length ≤ n + 1 := by
  induction n using Nat.strongRecOn with
  | ind n ih =>
    rw [num]
    split
    · simp [dg]
      omega
    · have := ih (n / 10) (by omega)
      simp [dg]
      omega
theorem l1Num_nat (n : Nat) (h : n ≤ 1000000000000) : FCr Tryz.prog 45 [RVn n] (RV.str (num n)) := by
  induction n using Nat.strongRecOn with
  | ind n ih =>
    rw [num]
    by_cases c : n < 10
    · rw [if_pos c]
      refine (fcr_in Tryz.func45 rfl (by simp only [Tryz.ntmps45, anys, List.length_cons, List.length_nil, Nat.reduceAdd, Nat.reduceSub, List.replicate_succ, List.replicate_zero, List.cons_append, List.nil_append] <;> rfl) ?_)
      repeat' first | apply w_seq | apply w_region | apply l_nil | apply rt_n | apply w_ret | apply rt_ret | apply w_skip | refine w_cond_t rfl ?_ | refine w_cond_f rfl ?_ | ((first | refine w_cnd rfl ?_ ?_ | refine w_cd rfl ?_ ?_ | refine w_cn rfl ?_ ?_ | refine w_cond rfl ?_ ?_) <;> intro hc) | (exfalso; omega) | (refine l_o ?_; first | refine l_op rfl (by first | (apply k_add; first | exact ops_addn (b := 1) rfl rfl (by omega) | fail) | (apply k_slice; first | exact ops_scut (p := dgs) rfl rfl rfl (by omega) (by show _ ≤ 10; omega) (by kernel_rfl) | fail) | fail) (hk := ?_) | refine l_op (hk := ?_)) | refine d_nil ?_ | (refine d_o ?_; first | refine d_fl rfl (by first | exact .pl (by first | (apply q_add; first | exact fs_addn (b := 1) rfl rfl (by omega) | fail) | (apply q_slice; first | exact fs_scut (p := dgs) rfl rfl rfl (by omega) (by show _ ≤ 10; omega) (by kernel_rfl) | fail) | fail) | fail) (hk := ?_) | refine d_fl (hk := ?_) | refine d_ef (hk := ?_)) | (refine w_o ?_; first | refine w_draw (id := 5) (fun _ => true) (fun k => [2].contains k) [[]] 64 (by kernel_rfl) rfl (by kernel_rfl) (by simp [nm, nset, -List.map_take, -List.map_drop]) ?_)
      refine en_one (hf := Tryz.results45) (h := ?_); simp only [lget]; first | refine congrArg RVb ?_ | refine congrArg RVi ?_ | skip
      rw [show n + 1 - n = 1 by omega]; rfl
    · rw [if_neg c]
      have hv := ih (n / 10) (by omega) (by omega)
      have hl := num_len (n / 10)
      have hq : ∀ a b, (List.take a (List.drop b dgs)).length ≤ 10 := fun a b => by rw [List.length_take, List.length_drop]; have : dgs.length = 10 := rfl; omega
      refine (fcr_in Tryz.func45 rfl (by simp only [Tryz.ntmps45, anys, List.length_cons, List.length_nil, Nat.reduceAdd, Nat.reduceSub, List.replicate_succ, List.replicate_zero, List.cons_append, List.nil_append] <;> rfl) ?_)
      repeat' first | apply w_seq | apply w_region | apply l_nil | apply rt_n | apply w_ret | apply rt_ret | apply w_skip | refine w_cond_t rfl ?_ | refine w_cond_f rfl ?_ | ((first | refine w_cnd rfl ?_ ?_ | refine w_cd rfl ?_ ?_ | refine w_cn rfl ?_ ?_ | refine w_cond rfl ?_ ?_) <;> intro hc) | (exfalso; omega) | (refine l_o ?_; first | refine l_op rfl (by first | (apply k_rem; first | exact ops_remn (n := 10) rfl rfl (by omega) | fail) | (apply k_quo; first | exact ops_quon (n := 10) rfl rfl (by omega) (by omega) | fail) | (apply k_add; first | exact ops_addn (b := 1) rfl rfl (by omega) | exact ops_cat (p := num (n / 10)) rfl rfl (by have := hq (n % 10 + 1 - n % 10) (n % 10); omega) | fail) | (apply k_slice; first | exact ops_scut (p := dgs) rfl rfl rfl (by omega) (by show _ ≤ 10; omega) (by kernel_rfl) | fail) | (apply k_callf; first | exact ops_callf (hfc := hv) | fail) | fail) (hk := ?_) | refine l_op (hk := ?_)) | refine d_nil ?_ | (refine d_o ?_; first | refine d_fl rfl (by first | exact .pl (by first | (apply q_rem; first | exact fs_remn (n := 10) rfl rfl (by omega) | fail) | (apply q_quo; first | exact fs_quon (n := 10) rfl rfl (by omega) (by omega) | fail) | (apply q_add; first | exact fs_addn (b := 1) rfl rfl (by omega) | exact fs_cat (p := num (n / 10)) rfl rfl (by have := hq (n % 10 + 1 - n % 10) (n % 10); omega) | fail) | (apply q_slice; first | exact fs_scut (p := dgs) rfl rfl rfl (by omega) (by show _ ≤ 10; omega) (by kernel_rfl) | fail) | fail) | fail) (hk := ?_) | refine d_fl (hk := ?_) | refine d_ef rfl (by first | exact .callf (hfc := hv) | fail) (hk := ?_) | refine d_ef (hk := ?_)) | (refine w_o ?_; first | refine w_draw (id := 5) (fun _ => true) (fun k => [2].contains k) [[]] 64 (by kernel_rfl) rfl (by kernel_rfl) (by simp [nm, nset, -List.map_take, -List.map_drop]) ?_)
      refine en_one (hf := Tryz.results45) (h := ?_); simp only [lget]; first | refine congrArg RVb ?_ | refine congrArg RVi ?_ | skip
      rw [show n % 10 + 1 - n % 10 = 1 by omega]; rfl
end Go.Proofs.YtmfbcipjknjicaaGreatDoor
/- The library's Itoa as a contract of the logic, for 0 to 99. -/
namespace Go.Proofs.YtmfbcipjknjicaaGreatDoor
open Eng Go.RowKit
set_option linter.unusedSimpArgs false
set_option linter.unusedVariables false
set_option maxHeartbeats 0
set_option maxRecDepth 100000

theorem dg_at (k : Nat) (h : k < 10) : dg k = [UInt8.ofNat (48 + k)] := by
  have : ∀ k : Fin 10, dg k.val = [UInt8.ofNat (48 + k.val)] := by decide
  exact this ⟨k, h⟩
theorem decDigits_num (n : Nat) : Lib.decDigits n = num n := by
  induction n using Nat.strongRecOn with
  | ind n ih =>
    rw [num, Lib.decDigits]
    by_cases c : n < 10
    · rw [if_pos c, dif_pos c, dg_at n c]
    · rw [if_neg c, dif_neg c, ih (n / 10) (by omega), dg_at (n % 10) (by omega)]
theorem itoa_ok (n : Nat) (hn : n < 100) : FCr Tryz.prog 43 [RVn n] (RV.str (num n)) := by
  intro w F ρ vals fp hv hO hnd hfF hFs
  have hgk := hO.gok
  cases hO
  have hvl := hv.length
  obtain ⟨x, rfl⟩ : ∃ x, vals = [x] := by
    match vals, hvl with
    | [x], _ => exact ⟨x, rfl⟩
  have hx := hv.get 0
  simp only [lget, List.getD_cons_zero] at hx
  obtain rfl := hx.exact
  refine (Any.strconv_Itoa_small shelf_lays171 n hn w).mono ?_
  rintro e w' ⟨rfl, rfl⟩
  rw [decDigits_num]
  exact ⟨_, _, _, F, ρ, [], [], rfl, ⟨rfl, rfl⟩, .one (.v _), .nil hgk, by simp, fun b hb => by simp at hb, fun b hb => hb, fun b hb => ⟨.inl hb, hFs b hb⟩, fun _ _ _ => rfl, Nat.le_refl _, rfl, TW.refl _, rfl, fun _ _ => rfl⟩
end Go.Proofs.YtmfbcipjknjicaaGreatDoor
