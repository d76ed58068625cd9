/- The library's Grow of the nil list of whole numbers: an owned list without elements. -/
import Derived.Shelf.Spec.SlicesGrow
import Derived.Shelf.Sort.Plain
import Derived.Shelf.Slices.In.SortNone
import Derived.Test.YtmfbcipjknjicaaGreatDoorJ11
import Derived.Test.YtmfbcipjknjicaaGreatDoorJ6
namespace Go.Proofs.YtmfbcipjknjicaaGreatDoor
set_option linter.unusedSectionVars false
variable [One Bool]
open Eng Go.Shelf
set_option linter.unusedSimpArgs false
set_option maxHeartbeats 0
set_option maxRecDepth 100000

def growRen : Ren := ⟨fun | 4 => 109 | n => n, fun | 0 => 0 | 3 => 3 | 4 => 4 | 9 => 9 | 20 => 20 | 22 => 24 | 25 => 3 | n => n, fun | n => n⟩
theorem growLays : Go.Proofs.Lays8.n4 Tryz.prog growRen := {
  mixed := by kernel_rfl
  f4 := ⟨"slices.Grow[[]int,int]", by decide, Tryz.func109.trans (congrArg some (by kernel_rfl))⟩
  t0 := Tryz.underlying0
  a0 := Tryz.isAgg0
  z0 := Tryz.sizeOf0
  v0 := Tryz.zeroValue0
  t3 := Tryz.underlying3
  a3 := Tryz.isAgg3
  z3 := Tryz.sizeOf3
  v3 := Tryz.zeroValue3
  t4 := Tryz.underlying4
  a4 := Tryz.isAgg4
  z4 := Tryz.sizeOf4
  v4 := Tryz.zeroValue4
  t9 := Tryz.underlying9
  a9 := Tryz.isAgg9
  z9 := Tryz.sizeOf9
  v9 := Tryz.zeroValue9
  t20 := Tryz.underlying20
  a20 := Tryz.isAgg20
  z20 := Tryz.sizeOf20
  v20 := Tryz.zeroValue20
  t22 := Tryz.underlying24
  a22 := Tryz.isAgg24
  z22 := Tryz.sizeOf24
  v22 := Tryz.zeroValue24 }
theorem grow_ok (n : Nat) (hn : n ≤ 1099511627776) : FCr Tryz.prog 109 [.v (.slice none 0 0), RVn n] (.ow 1 []) := by
  intro w F ρ vals fp hv hO hnd hfF hFs
  have hgk := hO.gok
  cases hO
  have hvl := hv.length
  obtain ⟨x, y, rfl⟩ : ∃ x y, vals = [x, y] := by
    match vals, hvl with
    | [x, y], _ => exact ⟨x, y, rfl⟩
  have hx := hv.get 0
  have hy := hv.get 1
  simp only [lget, List.getD_cons_zero, List.getD_cons_succ] at hx hy
  obtain rfl := hx.exact
  obtain rfl := hy.exact
  rcases Nat.eq_zero_or_pos n with h0 | h0
  · subst h0
    refine (Any8.slices_Grow_room growLays none 0 0 0 w (by omega) (by omega) (by omega) (by omega)).mono ?_
    rintro e w' ⟨rfl, rfl⟩
    refine ⟨.slice none 0 0, .ow 1 [], [], F, ρ, [], [], rfl, ⟨rfl, rfl⟩, .one (.cell rfl (.ownil 1 (by omega) (.nil _ _))), .nil hgk, by simp, fun b hb => by simp at hb, fun b hb => hb, fun b hb => ⟨.inl hb, hFs b hb⟩, fun _ _ _ => rfl, Nat.le_refl _, rfl, TW.refl _, rfl, fun _ _ => rfl⟩
  · have hz : zeroOf Tryz.prog 3 = some (.int .i64 0) := by kernel_rfl
    have hc1 : Tryz.prog.cellsOf 3 = 1 := by kernel_rfl
    have hby : (Tryz.prog.info? 3).map (fun i => decide (i.bytes ≤ 64)) = some true := by kernel_rfl
    cases hi : Tryz.prog.info? 3 with
    | none => simp [hi] at hby
    | some i0 =>
      simp only [hi, Option.map_some, Option.some.injEq, decide_eq_true_eq] at hby
      have hz' : i0.zero = some (.int .i64 0) := by simpa [zeroOf, hi] using hz
      have hs' : i0.size = 1 := by simpa [Program.cellsOf, hi] using hc1
      have hby2 : (0 + n) * i0.bytes ≤ 140737488355328 := by
        have : n * i0.bytes ≤ n * 64 := Nat.mul_le_mul_left _ hby
        rw [Nat.zero_add]; omega
      refine (Any8.slices_Grow_grow growLays i0 (.int .i64 0) hi hz' (by omega) none 0 0 n [] w (by omega) (by omega) hby2 (by omega) (by simp) (fun _ => rfl) (fun a ha => by cases ha)).mono ?_
      have hG1 := grownCap_ge w (0 + n) 0 (growRen.t 25)
      have hG2 := grownCap_le_maxLen w (0 + n) 0 (growRen.t 25) (by unfold maxLen; omega)
      generalize grownCap w (0 + n) 0 (growRen.t 25) = G at *
      rintro e w' ⟨rfl, rfl⟩
      refine ⟨_, .ow 1 [], [], F, ρ, [w.heap.size], [], rfl, ⟨rfl, rfl⟩, .one (.cell rfl (.ow w.heap.size G _ _ (k := 1) (els := []) (cells := []) (fp1 := []) (fp2 := []) (by omega) (_root_.Go.heap_alloc_new w.drew _) ?_ (by simp) hG2 (by simp) rfl (.nil _ _) (.nil _ _))), .nil (hgk.mono fun b hb => ⟨hb, _root_.Go.heap_alloc_old w.drew _ (hFs b hb)⟩), by simp, ?_, fun b hb => hb, fun b hb => ⟨.inl hb, ?_⟩, fun b hb _ => _root_.Go.heap_alloc_old w.drew _ hb, by simp, rfl, ⟨rfl, .inl (Nat.le_succ _)⟩, rfl, fun _ _ => rfl⟩
      · simp [Builtin.zeroCells, Value.cells]; omega
      · intro b hb
        simp at hb
        subst hb
        exact ⟨fun h => absurd (hFs _ h) (by omega), .inr (Nat.le_refl _)⟩
      · have := hFs b hb
        simp; omega
end Go.Proofs.YtmfbcipjknjicaaGreatDoor
/- The library's Concat, Index and Contains at whole numbers. For all lists of the lengths that the theorem names. -/
namespace Go.Proofs.YtmfbcipjknjicaaGreatDoor
set_option linter.unusedSectionVars false
variable [One Bool]
open Eng
attribute [local irreducible] OpS OpG FC FCr Rel Fl Ef DR Fs
set_option linter.unusedSimpArgs false
set_option maxHeartbeats 0
set_option maxRecDepth 100000

theorem flat_take {Ls : List (List Int)} {i : Nat} (h : i < Ls.length) : (Ls.take (i + 1)).flatten = (Ls.take i).flatten ++ Ls[i] := by
  rw [List.take_succ_eq_append_getElem h, List.flatten_append]; simp
theorem flat_le (Ls : List (List Int)) (i : Nat) : (Ls.take i).flatten.length ≤ Ls.flatten.length := by
  have h : Ls.flatten = (Ls.take i).flatten ++ (Ls.drop i).flatten := by rw [← List.flatten_append, List.take_append_drop]
  rw [h, List.length_append]; omega
theorem concat_ok (Ls : List (List Int)) (hl : Ls.length ≤ 1099511627776) (h : Ls.flatten.length ≤ 1099511627776) : FCr Tryz.prog 96 [RIss Ls] (OIs Ls.flatten) := by
  refine (fcr_in Tryz.func96 rfl (by simp only [Tryz.ntmps96, anys, List.length_cons, List.length_nil, Nat.reduceAdd, Nat.reduceSub, List.replicate_succ, List.replicate_zero, List.cons_append, List.nil_append] <;> rfl) ?_)
  repeat' first | apply w_seq | apply w_block | apply rb_n | apply rb_ret | apply rb_eq | refine rb_ne (by rfl) ?_ | apply w_exit | apply rt_exit | apply w_region | apply l_nil | apply rt_n | apply w_ret | apply rt_ret | apply w_skip | refine w_cond_t rfl ?_ | refine w_cond_f rfl ?_ | ((first | refine w_cnd rfl ?_ ?_ | refine w_cd rfl ?_ ?_ | refine w_cn rfl ?_ ?_ | refine w_cond rfl ?_ ?_) <;> intro hc) | (refine l_o ?_; first | refine l_op (hk := ?_))
  refine w_loopm (ι := Nat) (fun q => [(11, RVn q), (3, RVn (Ls.take q).flatten.length), (5, .any)]) (fun _ => []) (fun q => q ≤ Ls.length) (fun q => Ls.length - q) 0 (h0 := ?_) (hs := ?_) (round := ?_)
  · omega
  · refine le_eq (by (repeat' first | exact .nil | refine .keep ?_ | refine .any ?_); first | done | fail) rfl rfl
  · intro i hi
    by_cases hil : i < Ls.length
    · have e1 := flat_take hil
      have e2 := flat_le Ls (i + 1)
      have e3 : (Ls.take (i + 1)).flatten.length = (Ls.take i).flatten.length + Ls[i].length := by rw [e1, List.length_append]
      repeat' first | apply w_seq | apply w_block | apply rb_n | apply rb_ret | apply rb_eq | refine rb_ne (by rfl) ?_ | apply w_exit | apply rt_exit | apply w_region | apply l_nil | apply rt_n | apply w_ret | apply rt_ret | apply w_skip | refine w_cond_t rfl ?_ | refine w_cond_f rfl ?_ | ((first | refine w_cnd rfl ?_ ?_ | refine w_cd rfl ?_ ?_ | refine w_cn rfl ?_ ?_ | refine w_cond rfl ?_ ?_) <;> intro hc) | (exfalso; omega) | (refine l_o ?_; first | refine l_op rfl (by first | (apply k_add; first | exact ops_addn (a := (Ls.take i).flatten.length) (b := Ls[i].length) rfl rfl (by omega) | fail) | fail) (hk := ?_) | refine l_op (hk := ?_))
      refine rn_mk (i + 1) (by omega) (by omega) ?_
      rw [e3]
      refine le_eq (by (repeat' first | exact .nil | refine .keep ?_ | refine .any ?_); first | done | fail) rfl rfl
    · obtain rfl : i = Ls.length := by omega
      rw [List.take_length]
      have hG := grow_ok Ls.flatten.length h
      repeat' first | apply w_seq | apply w_block | apply rb_n | apply rb_ret | apply rb_eq | refine rb_ne (by rfl) ?_ | apply w_exit | apply rt_exit | apply w_region | apply l_nil | apply rt_n | apply w_ret | apply rt_ret | apply w_skip | refine w_cond_t rfl ?_ | refine w_cond_f rfl ?_ | ((first | refine w_cnd rfl ?_ ?_ | refine w_cd rfl ?_ ?_ | refine w_cn rfl ?_ ?_ | refine w_cond rfl ?_ ?_) <;> intro hc) | (exfalso; omega) | (refine l_o ?_; first | refine l_op rfl (by first | (apply k_callf; first | exact ops_callv (hfc := hG) | fail) | fail) (hk := ?_) | refine l_op (hk := ?_))
      refine w_loopm (ι := Nat × List Int) (fun q => [(27, RVn q.1), (6, .ref 24 0 q.2.length), (24, .any), (8, .any)]) (fun q => [(24, 1, q.2.map RVi)]) (fun q => q.1 ≤ Ls.length ∧ q.2 = (Ls.take q.1).flatten) (fun q => Ls.length - q.1) (0, []) (h0 := ?_) (hs := ?_) (round := ?_)
      · exact ⟨by omega, rfl⟩
      · refine le_eq (by (repeat' first | exact .nil | refine .keep ?_ | refine .any ?_); first | done | fail) rfl rfl
      · intro ⟨i, out⟩ ⟨hi, ho⟩
        dsimp only at hi ho ⊢
        by_cases hil : i < Ls.length
        · have e1 := flat_take hil
          have e2 := flat_le Ls (i + 1)
          have e3 : (Ls.take (i + 1)).flatten.length = out.length + Ls[i].length := by rw [e1, List.length_append, ho]
          repeat' first | apply w_seq | apply w_block | apply rb_n | apply rb_ret | apply rb_eq | refine rb_ne (by rfl) ?_ | apply w_exit | apply rt_exit | apply w_region | apply l_nil | apply rt_n | apply w_ret | apply rt_ret | apply w_skip | refine w_cond_t rfl ?_ | refine w_cond_f rfl ?_ | ((first | refine w_cnd rfl ?_ ?_ | refine w_cd rfl ?_ ?_ | refine w_cn rfl ?_ ?_ | refine w_cond rfl ?_ ?_) <;> intro hc) | (exfalso; omega) | (refine l_o ?_; first | refine l_op (hk := ?_))
          refine rn_mk (i + 1, out ++ Ls[i]) ?_ (by first | omega | (dsimp only; omega)) (le_eq (by (repeat' first | exact .nil | refine .keep ?_ | refine .any ?_); first | done | fail) rfl rfl)
          exact ⟨by dsimp only; omega, by dsimp only; rw [e1, ho]⟩
        · obtain rfl : i = Ls.length := by omega
          rw [List.take_length] at ho
          rw [← ho]
          repeat' first | apply w_seq | apply w_block | apply rb_n | apply rb_ret | apply rb_eq | refine rb_ne (by rfl) ?_ | apply w_exit | apply rt_exit | apply w_region | apply l_nil | apply rt_n | apply w_ret | apply rt_ret | apply w_skip | refine w_cond_t rfl ?_ | refine w_cond_f rfl ?_ | ((first | refine w_cnd rfl ?_ ?_ | refine w_cd rfl ?_ ?_ | refine w_cn rfl ?_ ?_ | refine w_cond rfl ?_ ?_) <;> intro hc) | (exfalso; omega) | (refine l_o ?_; first | refine l_op (hk := ?_))
          refine en_end (hf := Tryz.results96) (hr := ?_); simp only [ne, nf, nl, nr, lget, reduceIte, Nat.reduceEqDiff]; first | rfl | refine congrArg RVb ?_ | refine congrArg RVi ?_ | skip
end Go.Proofs.YtmfbcipjknjicaaGreatDoor
/- The library's sort of whole numbers, as the shelf's contracts lay it at this program. No condition. -/
namespace Go.Proofs.YtmfbcipjknjicaaGreatDoor
set_option linter.unusedSectionVars false
variable [One Bool]
set_option maxHeartbeats 0
set_option maxRecDepth 100000
open Go.Shelf
def shelf_lays189_ren : Go.Shelf.Ren := ⟨fun | 189 => 97 | 125 => 111 | 257 => 110 | 128 => 133 | 129 => 134 | 294 => 124 | 295 => 125 | 296 => 126 | 297 => 127 | 298 => 128 | 299 => 129 | 216 => 130 | 300 => 131 | 301 => 132 | 328 => 143 | 329 => 144 | 330 => 145 | 331 => 146 | 332 => 147 | 215 => 148 | 343 => 159 | n => n, fun | 28 => 24 | 3 => 3 | 46 => 126 | 0 => 0 | 51 => 145 | 53 => 70 | 4 => 4 | 183 => 139 | 182 => 138 | 131 => 45 | 5 => 5 | 9 => 9 | 218 => 151 | 222 => 155 | 228 => 162 | 229 => 163 | n => n, fun | n => n⟩
theorem shelf_lays189 : Go.Proofs.Lays.n189 Tryz.prog shelf_lays189_ren := {
  mixed := by kernel_rfl
  f125 := Tryz.func111.trans (congrArg some (by kernel_rfl))
  f128 := Tryz.func133.trans (congrArg some (by kernel_rfl))
  f129 := Tryz.func134.trans (congrArg some (by kernel_rfl))
  f189 := Tryz.func97.trans (congrArg some (by kernel_rfl))
  f215 := Tryz.func148.trans (congrArg some (by kernel_rfl))
  f216 := Tryz.func130.trans (congrArg some (by kernel_rfl))
  f257 := Tryz.func110.trans (congrArg some (by kernel_rfl))
  f294 := Tryz.func124.trans (congrArg some (by kernel_rfl))
  f295 := Tryz.func125.trans (congrArg some (by kernel_rfl))
  f296 := Tryz.func126.trans (congrArg some (by kernel_rfl))
  f297 := Tryz.func127.trans (congrArg some (by kernel_rfl))
  f298 := Tryz.func128.trans (congrArg some (by kernel_rfl))
  f299 := Tryz.func129.trans (congrArg some (by kernel_rfl))
  f300 := Tryz.func131.trans (congrArg some (by kernel_rfl))
  f301 := Tryz.func132.trans (congrArg some (by kernel_rfl))
  f328 := Tryz.func143.trans (congrArg some (by kernel_rfl))
  f329 := Tryz.func144.trans (congrArg some (by kernel_rfl))
  f330 := Tryz.func145.trans (congrArg some (by kernel_rfl))
  f331 := Tryz.func146.trans (congrArg some (by kernel_rfl))
  f332 := Tryz.func147.trans (congrArg some (by kernel_rfl))
  f343 := Tryz.func159.trans (congrArg some (by kernel_rfl))
  t0 := Tryz.underlying0
  a0 := Tryz.isAgg0
  z0 := Tryz.sizeOf0
  v0 := Tryz.zeroValue0
  t3 := Tryz.underlying3
  a3 := Tryz.isAgg3
  z3 := Tryz.sizeOf3
  v3 := Tryz.zeroValue3
  t4 := Tryz.underlying4
  a4 := Tryz.isAgg4
  z4 := Tryz.sizeOf4
  v4 := Tryz.zeroValue4
  t5 := Tryz.underlying5
  a5 := Tryz.isAgg5
  z5 := Tryz.sizeOf5
  v5 := Tryz.zeroValue5
  t9 := Tryz.underlying9
  a9 := Tryz.isAgg9
  z9 := Tryz.sizeOf9
  v9 := Tryz.zeroValue9
  t28 := Tryz.underlying24
  a28 := Tryz.isAgg24
  z28 := Tryz.sizeOf24
  v28 := Tryz.zeroValue24
  t46 := Tryz.underlying126
  a46 := Tryz.isAgg126
  z46 := Tryz.sizeOf126
  v46 := Tryz.zeroValue126
  t51 := Tryz.underlying145
  a51 := Tryz.isAgg145
  z51 := Tryz.sizeOf145
  v51 := Tryz.zeroValue145
  t53 := Tryz.underlying70
  a53 := Tryz.isAgg70
  z53 := Tryz.sizeOf70
  v53 := Tryz.zeroValue70
  t131 := Tryz.underlying45
  a131 := Tryz.isAgg45
  z131 := Tryz.sizeOf45
  v131 := Tryz.zeroValue45
  t182 := Tryz.underlying138
  a182 := Tryz.isAgg138
  z182 := Tryz.sizeOf138
  v182 := Tryz.zeroValue138
  t183 := Tryz.underlying139
  a183 := Tryz.isAgg139
  z183 := Tryz.sizeOf139
  v183 := Tryz.zeroValue139
  t218 := Tryz.underlying151
  a218 := Tryz.isAgg151
  z218 := Tryz.sizeOf151
  v218 := Tryz.zeroValue151
  t222 := Tryz.underlying155
  a222 := Tryz.isAgg155
  z222 := Tryz.sizeOf155
  v222 := Tryz.zeroValue155
  t228 := Tryz.underlying162
  a228 := Tryz.isAgg162
  z228 := Tryz.sizeOf162
  v228 := Tryz.zeroValue162
  t229 := Tryz.underlying163
  a229 := Tryz.isAgg163
  z229 := Tryz.sizeOf163
  v229 := Tryz.zeroValue163 }
open Go.Sort Go.RowKit in
theorem shelf_slices_Sort_int (blk off cap : Nat) (zs : List Int) (w : World) (hH : Holds (Value.int .i64) w blk off zs.toArray) (hblk : blk < w.heap.size) (hsz : zs.length < 4611686018427387904) :
    Calls Tryz.prog 97 #[.slice (some ⟨blk, off, none⟩) zs.length cap] w fun e w' =>
      e = .returned (.tuple #[]) ∧ ∃ n os, w' = grow (putRow (Value.int .i64) (Sort.ahead w n) blk off (zs.mergeSort fun x y => decide (x ≤ y)).toArray) os := Any.slices_Sort_int shelf_lays189 blk off cap zs w hH hblk hsz
open Go.RowKit Go.Sort in
theorem shelf_slices_Sort_int_none (p : Option Addr) (cap : Nat) (w : World) :
    Calls Tryz.prog 97 #[.slice p 0 cap] w fun e w' => e = .returned (.tuple #[]) ∧ w' = w := Any.slices_Sort_int_none shelf_lays189 p cap w
end Go.Proofs.YtmfbcipjknjicaaGreatDoor
/- The library's sort of whole numbers. For all lists of the lengths that the theorem names. -/
namespace Go.Proofs.YtmfbcipjknjicaaGreatDoor
set_option linter.unusedSectionVars false
variable [One Bool]
open Eng Go.Sort
attribute [local irreducible] OpS OpG FC FCr Rel Fl Ef DR Fs
set_option linter.unusedSimpArgs false
set_option maxHeartbeats 0
set_option maxRecDepth 100000

theorem sortI_ok (l : List Int) (hlen : l.length ≤ 1099511627776) : FC Tryz.prog 97 [.ref 1000000000000 0 l.length] [(1000000000000, 1, l.map RVi)] (fun rv O => rv = .tup [] ∧ O = [(1000000000000, 1, (srtI l).map RVi)]) := by
  cases l with
  | nil =>
    have e : srtI [] = [] := List.eq_nil_of_length_eq_zero (srtI_len [])
    rw [e]
    exact fc_of_sort0 (fun p cap w => shelf_slices_Sort_int_none p cap w)
  | cons x l => exact fc_of_sort RVi (Value.int .i64) (fun _ => rfl) (fun _ => rfl) srtI srtI_len (fun blk off cap ss w h1 h2 h3 => shelf_slices_Sort_int blk off cap ss w h1 h2 h3) (x :: l) (by simp) (by simp only [List.length_cons] at hlen ⊢; omega)
end Go.Proofs.YtmfbcipjknjicaaGreatDoor
