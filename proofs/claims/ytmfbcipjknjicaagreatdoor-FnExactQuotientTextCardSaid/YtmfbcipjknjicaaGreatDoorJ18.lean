/- The library's Concat, Index and Contains at whole numbers. For all lists of the lengths that the theorem names. -/
import Derived.Shelf.Sort.Plain
import Derived.Shelf.Slices.In.SortNone
import Derived.Test.YtmfbcipjknjicaaGreatDoorJ17
import Derived.Test.YtmfbcipjknjicaaGreatDoorJ6
import Derived.Test.YtmfbcipjknjicaaGreatDoorJ7
namespace Go.Proofs.YtmfbcipjknjicaaGreatDoor
open Eng
attribute [local irreducible] OpS OpG FC FCr Rel Fl Ef DR Fs
set_option linter.unusedSimpArgs false
set_option maxHeartbeats 0
set_option maxRecDepth 100000

theorem flat_take {Ls : List (List Int)} {i : Nat} (h : i < Ls.length) : (Ls.take (i + 1)).flatten = (Ls.take i).flatten ++ Ls[i] := by
  rw [List.take_succ_eq_append_getElem h, List.flatten_append]; simp
theorem flat_le (Ls : List (List Int)) (i : Nat) : (Ls.take i).flatten.length ≤ Ls.flatten.length := by
  have h : Ls.flatten = (Ls.take i).flatten ++ (Ls.drop i).flatten := by rw [← List.flatten_append, List.take_append_drop]
  rw [h, List.length_append]; omega
theorem concat_ok (Ls : List (List Int)) (hl : Ls.length ≤ 1099511627776) (h : Ls.flatten.length ≤ 1099511627776) : FCr Tryz.prog 96 [RIss Ls] (OIs Ls.flatten) := by
  refine (fcr_in Tryz.func96 rfl (by simp only [Tryz.ntmps96, anys, List.length_cons, List.length_nil, Nat.reduceAdd, Nat.reduceSub, List.replicate_succ, List.replicate_zero, List.cons_append, List.nil_append] <;> rfl) ?_)
  repeat' first
    | refine w_seq ?_
    | refine w_block ?_
    | refine rb_n ?_
    | refine rb_ret ?_
    | refine rb_eq ?_
    | refine rb_ne (by rfl) ?_
    | refine w_exit ?_
    | refine rt_exit ?_
    | refine w_region ?_
    | refine l_nil ?_
    | refine rt_n ?_
    | refine w_ret ?_
    | refine rt_ret ?_
    | refine w_skip ?_
    | refine w_cond_t rfl ?_
    | refine w_cond_f rfl ?_
    | refine w_cnd rfl (fun hc => ?_) (fun hc => ?_)
    | refine w_cd rfl (fun hc => ?_) (fun hc => ?_)
    | refine w_cn rfl (fun hc => ?_) (fun hc => ?_)
    | refine w_cond rfl (fun hc => ?_) (fun hc => ?_)
    | (refine l_o ?_; first | refine l_op (hk := ?_))
  refine w_loopm (ι := Nat) (fun q => [(11, RVn q), (3, RVn (Ls.take q).flatten.length), (5, .any)]) (fun _ => []) (fun q => q ≤ Ls.length) (fun q => Ls.length - q) 0 (h0 := ?_) (hs := ?_) (round := ?_)
  · omega
  · refine le_eq (by (repeat' first | exact .nil | refine .keep ?_ | refine .any ?_); first | done | fail) rfl rfl
  · intro i hi
    by_cases hil : i < Ls.length
    · have e1 := flat_take hil
      have e2 := flat_le Ls (i + 1)
      have e3 : (Ls.take (i + 1)).flatten.length = (Ls.take i).flatten.length + Ls[i].length := by rw [e1, List.length_append]
      repeat' first
        | refine w_seq ?_
        | refine w_block ?_
        | refine rb_n ?_
        | refine rb_ret ?_
        | refine rb_eq ?_
        | refine rb_ne (by rfl) ?_
        | refine w_exit ?_
        | refine rt_exit ?_
        | refine w_region ?_
        | refine l_nil ?_
        | refine rt_n ?_
        | refine w_ret ?_
        | refine rt_ret ?_
        | refine w_skip ?_
        | refine w_cond_t rfl ?_
        | refine w_cond_f rfl ?_
        | refine w_cnd rfl (fun hc => ?_) (fun hc => ?_)
        | refine w_cd rfl (fun hc => ?_) (fun hc => ?_)
        | refine w_cn rfl (fun hc => ?_) (fun hc => ?_)
        | refine w_cond rfl (fun hc => ?_) (fun hc => ?_)
        | (exfalso; omega)
        | (refine l_o ?_; first | refine l_op rfl (by first | (apply k_add; first | exact ops_addn (a := (Ls.take i).flatten.length) (b := Ls[i].length) rfl rfl (by omega) | fail) | fail) (hk := ?_) | refine l_op (hk := ?_))
      refine rn_mk (i + 1) (by omega) (by omega) ?_
      rw [e3]
      refine le_eq (by (repeat' first | exact .nil | refine .keep ?_ | refine .any ?_); first | done | fail) rfl rfl
    · obtain rfl : i = Ls.length := by omega
      rw [List.take_length]
      have hG := grow_ok Ls.flatten.length h
      repeat' first
        | refine w_seq ?_
        | refine w_block ?_
        | refine rb_n ?_
        | refine rb_ret ?_
        | refine rb_eq ?_
        | refine rb_ne (by rfl) ?_
        | refine w_exit ?_
        | refine rt_exit ?_
        | refine w_region ?_
        | refine l_nil ?_
        | refine rt_n ?_
        | refine w_ret ?_
        | refine rt_ret ?_
        | refine w_skip ?_
        | refine w_cond_t rfl ?_
        | refine w_cond_f rfl ?_
        | refine w_cnd rfl (fun hc => ?_) (fun hc => ?_)
        | refine w_cd rfl (fun hc => ?_) (fun hc => ?_)
        | refine w_cn rfl (fun hc => ?_) (fun hc => ?_)
        | refine w_cond rfl (fun hc => ?_) (fun hc => ?_)
        | (exfalso; omega)
        | (refine l_o ?_; first | refine l_op rfl (by first | (apply k_callf; first | exact ops_callv (hfc := hG) | fail) | fail) (hk := ?_) | refine l_op (hk := ?_))
      refine w_loopm (ι := Nat × List Int) (fun q => [(27, RVn q.1), (6, .ref 24 0 q.2.length), (24, .any), (8, .any)]) (fun q => [(24, 1, q.2.map RVi)]) (fun q => q.1 ≤ Ls.length ∧ q.2 = (Ls.take q.1).flatten) (fun q => Ls.length - q.1) (0, []) (h0 := ?_) (hs := ?_) (round := ?_)
      · exact ⟨by omega, rfl⟩
      · refine le_eq (by (repeat' first | exact .nil | refine .keep ?_ | refine .any ?_); first | done | fail) rfl rfl
      · intro ⟨i, out⟩ ⟨hi, ho⟩
        dsimp only at hi ho ⊢
        by_cases hil : i < Ls.length
        · have e1 := flat_take hil
          have e2 := flat_le Ls (i + 1)
          have e3 : (Ls.take (i + 1)).flatten.length = out.length + Ls[i].length := by rw [e1, List.length_append, ho]
          repeat' first
            | refine w_seq ?_
            | refine w_block ?_
            | refine rb_n ?_
            | refine rb_ret ?_
            | refine rb_eq ?_
            | refine rb_ne (by rfl) ?_
            | refine w_exit ?_
            | refine rt_exit ?_
            | refine w_region ?_
            | refine l_nil ?_
            | refine rt_n ?_
            | refine w_ret ?_
            | refine rt_ret ?_
            | refine w_skip ?_
            | refine w_cond_t rfl ?_
            | refine w_cond_f rfl ?_
            | refine w_cnd rfl (fun hc => ?_) (fun hc => ?_)
            | refine w_cd rfl (fun hc => ?_) (fun hc => ?_)
            | refine w_cn rfl (fun hc => ?_) (fun hc => ?_)
            | refine w_cond rfl (fun hc => ?_) (fun hc => ?_)
            | (exfalso; omega)
            | (refine l_o ?_; first | refine l_op (hk := ?_))
          refine rn_mk (i + 1, out ++ Ls[i]) ?_ (by first | omega | (dsimp only; omega)) (le_eq (by (repeat' first | exact .nil | refine .keep ?_ | refine .any ?_); first | done | fail) rfl rfl)
          exact ⟨by dsimp only; omega, by dsimp only; rw [e1, ho]⟩
        · obtain rfl : i = Ls.length := by omega
          rw [List.take_length] at ho
          rw [← ho]
          repeat' first
            | refine w_seq ?_
            | refine w_block ?_
            | refine rb_n ?_
            | refine rb_ret ?_
            | refine rb_eq ?_
            | refine rb_ne (by rfl) ?_
            | refine w_exit ?_
            | refine rt_exit ?_
            | refine w_region ?_
            | refine l_nil ?_
            | refine rt_n ?_
            | refine w_ret ?_
            | refine rt_ret ?_
            | refine w_skip ?_
            | refine w_cond_t rfl ?_
            | refine w_cond_f rfl ?_
            | refine w_cnd rfl (fun hc => ?_) (fun hc => ?_)
            | refine w_cd rfl (fun hc => ?_) (fun hc => ?_)
            | refine w_cn rfl (fun hc => ?_) (fun hc => ?_)
            | refine w_cond rfl (fun hc => ?_) (fun hc => ?_)
            | (exfalso; omega)
            | (refine l_o ?_; first | refine l_op (hk := ?_))
          refine en_end (hf := Tryz.results96) (hr := ?_); simp only [ne, nf, nl, nr, lget, reduceIte, Nat.reduceEqDiff]; first | rfl | refine congrArg RVb ?_ | refine congrArg RVi ?_ | skip
end Go.Proofs.YtmfbcipjknjicaaGreatDoor
/- The library's sort of whole numbers, as the shelf's contracts lay it at this program. No condition. -/
namespace Go.Proofs.YtmfbcipjknjicaaGreatDoor
set_option maxHeartbeats 0
set_option maxRecDepth 100000
open Go.Shelf
def shelf_lays189_ren : Go.Shelf.Ren := ⟨fun | 189 => 97 | 125 => 111 | 257 => 110 | 128 => 133 | 129 => 134 | 294 => 124 | 295 => 125 | 296 => 126 | 297 => 127 | 298 => 128 | 299 => 129 | 216 => 130 | 300 => 131 | 301 => 132 | 328 => 143 | 329 => 144 | 330 => 145 | 331 => 146 | 332 => 147 | 215 => 148 | 343 => 159 | n => n, fun | 28 => 24 | 3 => 3 | 46 => 126 | 0 => 0 | 51 => 145 | 53 => 70 | 4 => 4 | 183 => 139 | 182 => 138 | 131 => 45 | 5 => 5 | 9 => 9 | 218 => 151 | 222 => 155 | 228 => 162 | 229 => 163 | n => n, fun | n => n⟩
theorem shelf_lays189 : Go.Proofs.Lays.n189 Tryz.prog shelf_lays189_ren := {
  mixed := by kernel_rfl
  f125 := Tryz.func111.trans (congrArg some (by kernel_rfl))
  f128 := Tryz.func133.trans (congrArg some (by kernel_rfl))
  f129 := Tryz.func134.trans (congrArg some (by kernel_rfl))
  f189 := Tryz.func97.trans (congrArg some (by kernel_rfl))
  f215 := Tryz.func148.trans (congrArg some (by kernel_rfl))
  f216 := Tryz.func130.trans (congrArg some (by kernel_rfl))
  f257 := Tryz.func110.trans (congrArg some (by kernel_rfl))
  f294 := Tryz.func124.trans (congrArg some (by kernel_rfl))
  f295 := Tryz.func125.trans (congrArg some (by kernel_rfl))
  f296 := Tryz.func126.trans (congrArg some (by kernel_rfl))
  f297 := Tryz.func127.trans (congrArg some (by kernel_rfl))
  f298 := Tryz.func128.trans (congrArg some (by kernel_rfl))
  f299 := Tryz.func129.trans (congrArg some (by kernel_rfl))
  f300 := Tryz.func131.trans (congrArg some (by kernel_rfl))
  f301 := Tryz.func132.trans (congrArg some (by kernel_rfl))
  f328 := Tryz.func143.trans (congrArg some (by kernel_rfl))
  f329 := Tryz.func144.trans (congrArg some (by kernel_rfl))
  f330 := Tryz.func145.trans (congrArg some (by kernel_rfl))
  f331 := Tryz.func146.trans (congrArg some (by kernel_rfl))
  f332 := Tryz.func147.trans (congrArg some (by kernel_rfl))
  f343 := Tryz.func159.trans (congrArg some (by kernel_rfl))
  t0 := Tryz.underlying0
  a0 := Tryz.isAgg0
  z0 := Tryz.sizeOf0
  v0 := Tryz.zeroValue0
  t3 := Tryz.underlying3
  a3 := Tryz.isAgg3
  z3 := Tryz.sizeOf3
  v3 := Tryz.zeroValue3
  t4 := Tryz.underlying4
  a4 := Tryz.isAgg4
  z4 := Tryz.sizeOf4
  v4 := Tryz.zeroValue4
  t5 := Tryz.underlying5
  a5 := Tryz.isAgg5
  z5 := Tryz.sizeOf5
  v5 := Tryz.zeroValue5
  t9 := Tryz.underlying9
  a9 := Tryz.isAgg9
  z9 := Tryz.sizeOf9
  v9 := Tryz.zeroValue9
  t28 := Tryz.underlying24
  a28 := Tryz.isAgg24
  z28 := Tryz.sizeOf24
  v28 := Tryz.zeroValue24
  t46 := Tryz.underlying126
  a46 := Tryz.isAgg126
  z46 := Tryz.sizeOf126
  v46 := Tryz.zeroValue126
  t51 := Tryz.underlying145
  a51 := Tryz.isAgg145
  z51 := Tryz.sizeOf145
  v51 := Tryz.zeroValue145
  t53 := Tryz.underlying70
  a53 := Tryz.isAgg70
  z53 := Tryz.sizeOf70
  v53 := Tryz.zeroValue70
  t131 := Tryz.underlying45
  a131 := Tryz.isAgg45
  z131 := Tryz.sizeOf45
  v131 := Tryz.zeroValue45
  t182 := Tryz.underlying138
  a182 := Tryz.isAgg138
  z182 := Tryz.sizeOf138
  v182 := Tryz.zeroValue138
  t183 := Tryz.underlying139
  a183 := Tryz.isAgg139
  z183 := Tryz.sizeOf139
  v183 := Tryz.zeroValue139
  t218 := Tryz.underlying151
  a218 := Tryz.isAgg151
  z218 := Tryz.sizeOf151
  v218 := Tryz.zeroValue151
  t222 := Tryz.underlying155
  a222 := Tryz.isAgg155
  z222 := Tryz.sizeOf155
  v222 := Tryz.zeroValue155
  t228 := Tryz.underlying162
  a228 := Tryz.isAgg162
  z228 := Tryz.sizeOf162
  v228 := Tryz.zeroValue162
  t229 := Tryz.underlying163
  a229 := Tryz.isAgg163
  z229 := Tryz.sizeOf163
  v229 := Tryz.zeroValue163 }
open Go.Sort Go.RowKit in
theorem shelf_slices_Sort_int (blk off cap : Nat) (zs : List Int) (w : World) (hH : Holds (Value.int .i64) w blk off zs.toArray) (hblk : blk < w.heap.size) (hsz : zs.length < 4611686018427387904) :
    Calls Tryz.prog 97 #[.slice (some ⟨blk, off, none⟩) zs.length cap] w fun e w' =>
      e = .returned (.tuple #[]) ∧ ∃ n os, w' = grow (putRow (Value.int .i64) (Sort.ahead w n) blk off (zs.mergeSort fun x y => decide (x ≤ y)).toArray) os := Any.slices_Sort_int shelf_lays189 blk off cap zs w hH hblk hsz
open Go.RowKit Go.Sort in
/-- .. and plain. (LAID: no walk: one application.) -/
theorem shelf_slices_Sort_int_none (p : Option Addr) (cap : Nat) (w : World) :
    Calls Tryz.prog 97 #[.slice p 0 cap] w fun e w' => e = .returned (.tuple #[]) ∧ w' = w := Any.slices_Sort_int_none shelf_lays189 p cap w
end Go.Proofs.YtmfbcipjknjicaaGreatDoor
/- The library's sort of whole numbers. For all lists of the lengths that the theorem names. -/
namespace Go.Proofs.YtmfbcipjknjicaaGreatDoor
open Eng Go.Sort
attribute [local irreducible] OpS OpG FC FCr Rel Fl Ef DR Fs
set_option linter.unusedSimpArgs false
set_option maxHeartbeats 0
set_option maxRecDepth 100000

theorem sortI_ok (l : List Int) (hlen : l.length ≤ 1099511627776) : FC Tryz.prog 97 [.ref 1000000000000 0 l.length] [(1000000000000, 1, l.map RVi)] (fun rv O => rv = .tup [] ∧ O = [(1000000000000, 1, (srtI l).map RVi)]) := by
  cases l with
  | nil =>
    have e : srtI [] = [] := List.eq_nil_of_length_eq_zero (srtI_len [])
    rw [e]
    exact fc_of_sort0 (fun p cap w => shelf_slices_Sort_int_none p cap w)
  | cons x l => exact fc_of_sort RVi (Value.int .i64) (fun _ => rfl) (fun _ => rfl) srtI srtI_len (fun blk off cap ss w h1 h2 h3 => shelf_slices_Sort_int blk off cap ss w h1 h2 h3) (x :: l) (by simp) (by simp only [List.length_cons] at hlen ⊢; omega)
end Go.Proofs.YtmfbcipjknjicaaGreatDoor
