/- The draws of the loops' laws. For all bytes. -/
import Derived.Sort.Grow
import Derived.Shelf.Sort.Plain
import Derived.Shelf.Slices.In.SortNone
import Derived.Test.YtpcckakchpblcaaGreatDoorDraw
import Derived.Test.YtpcckakchpblcaaGreatDoorJ8
import Derived.Test.YtpcckakchpblcaaGreatDoorJ9
import Derived.Test.YtpcckakchpblcaaGreatDoorStp
namespace Go.Proofs.YtpcckakchpblcaaGreatDoor
open Eng
attribute [local irreducible] OpS OpG FC FCr Rel Fl Ef DR Fs
set_option linter.unusedSimpArgs false
set_option maxHeartbeats 0
set_option maxRecDepth 100000

theorem rBig_ok (l : List UInt8) : FCr Tryz.prog 5 [RYs l] (RVb (decide ((65536 : Int) < (l.length : Nat)))) := by
  refine (fcr_in Tryz.func5 rfl (by simp only [Tryz.ntmps5, anys, List.length_cons, List.length_nil, Nat.reduceAdd, Nat.reduceSub, List.replicate_succ, List.replicate_zero, List.cons_append, List.nil_append] <;> rfl) ?_)
  repeat' first
    | refine w_seq ?_
    | refine w_region ?_
    | refine l_nil ?_
    | refine rt_n ?_
    | refine w_ret ?_
    | refine rt_ret ?_
    | refine w_skip ?_
    | (refine l_o ?_; first | refine l_op (hk := ?_))
  refine en_one (hf := Tryz.results5) (h := ?_); simp only [lget]; first | refine congrArg RVb ?_ | refine congrArg RVi ?_ | skip
theorem rInts_ok (l m : List Int) : FCr Tryz.prog 22 [RIs l, RIs m] (RVb (decide (l = m))) := by
  refine fcr_lens fun hL => ?_
  simp only [lnk] at hL
  refine (fcr_in Tryz.func22 rfl (by simp only [Tryz.ntmps22, anys, List.length_cons, List.length_nil, Nat.reduceAdd, Nat.reduceSub, List.replicate_succ, List.replicate_zero, List.cons_append, List.nil_append] <;> rfl) ?_)
  repeat' first
    | refine w_seq ?_
    | refine w_block ?_
    | refine rb_n ?_
    | refine rb_ret ?_
    | refine rb_eq ?_
    | refine rb_ne (by rfl) ?_
    | refine w_exit ?_
    | refine rt_exit ?_
    | refine w_region ?_
    | refine l_nil ?_
    | refine rt_n ?_
    | refine w_ret ?_
    | refine rt_ret ?_
    | refine w_skip ?_
    | refine w_cond_t rfl ?_
    | refine w_cond_f rfl ?_
    | refine w_cnd rfl (fun hc => ?_) (fun hc => ?_)
    | refine w_cd rfl (fun hc => ?_) (fun hc => ?_)
    | refine w_cn rfl (fun hc => ?_) (fun hc => ?_)
    | refine w_cond rfl (fun hc => ?_) (fun hc => ?_)
    | (refine l_o ?_; first | refine l_op (hk := ?_))
    | refine d_nil ?_
    | (refine d_o ?_; first | refine d_fl (hk := ?_) | refine d_ef (hk := ?_))
    | (refine w_o ?_; first | refine w_draw (id := 6) (fun _ => true) (fun k => [].contains k) [] 64 (by kernel_rfl) rfl (by kernel_rfl) (by simp [nm, nset, -List.map_take, -List.map_drop]) ?_)
  · refine en_one (hf := Tryz.results22) (h := ?_); simp only [lget]; first | refine congrArg RVb ?_ | refine congrArg RVi ?_ | skip
    grind
  have hn : l.length = m.length := by omega
  clear hc
  refine w_loopm (ι := Nat) (fun k => [(5, RVi k)]) (fun _ => []) (fun k => k ≤ l.length ∧ ((l.drop k = m.drop k) ↔ l = m)) (fun k => l.length - k) 0 (h0 := ?_) (hs := ?_) (round := ?_)
  · simp
  · refine le_eq (by (repeat' first | exact .nil | refine .keep ?_ | refine .any ?_); first | done | fail) rfl rfl
  · intro k ⟨hk, hg⟩
    repeat' first
      | refine w_seq ?_
      | refine w_block ?_
      | refine rb_n ?_
      | refine rb_ret ?_
      | refine rb_eq ?_
      | refine rb_ne (by rfl) ?_
      | refine w_exit ?_
      | refine rt_exit ?_
      | refine w_region ?_
      | refine l_nil ?_
      | refine rt_n ?_
      | refine w_ret ?_
      | refine rt_ret ?_
      | refine w_skip ?_
      | refine w_cond_t rfl ?_
      | refine w_cond_f rfl ?_
      | refine w_cnd rfl (fun hc => ?_) (fun hc => ?_)
      | refine w_cd rfl (fun hc => ?_) (fun hc => ?_)
      | refine w_cn rfl (fun hc => ?_) (fun hc => ?_)
      | refine w_cond rfl (fun hc => ?_) (fun hc => ?_)
      | (refine l_o ?_; first | refine l_op (hk := ?_))
      | refine d_nil ?_
      | (refine d_o ?_; first | refine d_fl (hk := ?_) | refine d_ef (hk := ?_))
      | (refine w_o ?_; first | refine w_draw (id := 6) (fun _ => true) (fun k => [].contains k) [] 64 (by kernel_rfl) rfl (by kernel_rfl) (by simp [nm, nset, -List.map_take, -List.map_drop]) ?_)
    · refine en_one (hf := Tryz.results22) (h := ?_); simp only [lget]; first | refine congrArg RVb ?_ | refine congrArg RVi ?_ | skip
      grind [drop_both]
    · refine rn_mk (k + 1) ?_ (by first | omega | (dsimp only; omega)) (le_eq (by (repeat' first | exact .nil | refine .keep ?_ | refine .any ?_); first | done | fail) rfl rfl)
      grind [drop_both]
    · refine en_one (hf := Tryz.results22) (h := ?_); simp only [lget]; first | refine congrArg RVb ?_ | refine congrArg RVi ?_ | skip
      grind [dn]
/-- The reader at the beginning. -/
abbrev cur0 (code : List UInt8) : Cur := ⟨code, 0, 0⟩
end Go.Proofs.YtpcckakchpblcaaGreatDoor
/- How far the reader goes when a stopper is drawn. For all bytes. -/
namespace Go.Proofs.YtpcckakchpblcaaGreatDoor
open Eng
attribute [local irreducible] OpS OpG FC FCr Rel Fl Ef DR Fs
attribute [local simp] RV.fzR_names
set_option linter.unusedSimpArgs false
set_option maxHeartbeats 0
set_option maxRecDepth 100000

end Go.Proofs.YtpcckakchpblcaaGreatDoor
/- The library's sorts as contracts of the logic: a block that holds a list is left holding the list in order. For all lists that are not empty. -/
namespace Go.Proofs.YtpcckakchpblcaaGreatDoor
namespace Eng
open Go.RowKit Go.Sort
set_option maxHeartbeats 0
set_option maxRecDepth 100000

theorem OE.of_enc {α : Type} {w F ρ} (f : α → RV) (enc : α → Value) (hf : ∀ x, f x = .v (enc x)) (h1 : ∀ x, (enc x).oneCell' = true) : ∀ l : List α, OE w F ρ 1 (l.map f) (l.map enc) []
  | [] => .nil _ _
  | x :: l => by
    rw [List.map_cons, List.map_cons, hf]
    exact OE.fz (c := [enc x]) (.v _ (h1 x) (.nil _)) (OE.of_enc f enc hf h1 l)
theorem OE.enc_inv {α : Type} {w F ρ} (f : α → RV) (enc : α → Value) (hf : ∀ x, f x = .v (enc x)) : ∀ {l : List α} {cells fp}, OE w F ρ 1 (l.map f) cells fp → cells = l.map enc ∧ fp = []
  | [], cells, fp, h => by cases h; exact ⟨rfl, rfl⟩
  | x :: l, cells, fp, h => by
    rw [List.map_cons, hf] at h
    cases h with
    | fz h1 h =>
      obtain ⟨rfl, rfl⟩ := OE.enc_inv f enc hf h
      cases h1 with
      | v _ _ h2 => cases h2; exact ⟨rfl, rfl⟩

theorem fc_of_sort {α : Type} [Inhabited α] {P : Program} {g : FuncId} (f : α → RV) (enc : α → Value) (hf : ∀ x, f x = .v (enc x)) (h1 : ∀ x, (enc x).oneCell' = true) (srt : List α → List α) (hsl : ∀ l, (srt l).length = l.length)
    (h : ∀ (blk off cap : Nat) (l : List α) (w : World), Holds enc w blk off l.toArray → blk < w.heap.size → l.length < 4611686018427387904 →
      Calls P g #[.slice (some ⟨blk, off, none⟩) l.length cap] w fun e w' => e = .returned (.tuple #[]) ∧ ∃ n os, w' = grow (putRow enc (Sort.ahead w n) blk off (srt l).toArray) os)
    (l : List α) (h0 : l ≠ []) (hlen : l.length < 4611686018427387904) :
    FC P g [.ref 1000000000000 0 l.length] [(1000000000000, 1, l.map f)] fun rv O => rv = .tup [] ∧ O = [(1000000000000, 1, (srt l).map f)] := by
  intro w F ρ vals fp hv hO hnd hfF hFs
  have hvl := hv.length
  have hv0 := hv.get 0
  simp only [lget] at hv0
  have hy := hv0.ref_inv
  obtain ⟨y, rfl⟩ : ∃ y, vals = [y] := by
    match vals, hvl with
    | [y], _ => exact ⟨y, rfl⟩
  simp only [List.getD_cons_zero] at hy
  generalize he : l.map f = els at hO
  cases hO with
  | nilb _ _ _ => exact absurd (List.map_eq_nil_iff.1 he) h0
  | cons hk hρ hρb hb hs hl hm hc heo hrest =>
    rename_i b ty c cells fp1 fp2
    have hgk := hrest.gok
    cases hrest
    subst he
    obtain ⟨hcl, rfl⟩ := OE.enc_inv f enc hf heo
    rw [hcl] at hc
    simp only [List.length_map, Nat.mul_one] at hc hs hl
    rw [hρb, hρ] at hy
    simp only [Option.map_some, Nat.zero_mul, Nat.sub_zero] at hy
    subst hy
    have hlc : l.length ≤ c.size := by omega
    have hcell : ∀ j, (hj : j < l.length) → c[j]? = some (enc l[j]) := by
      intro j hj
      have h2 : (c.toList.take l.length)[j]? = some (enc l[j]) := by rw [hc]; simp [hj]
      rw [List.getElem?_take_of_lt hj] at h2
      simpa using h2
    have hH : Holds enc w b 0 l.toArray := by
      intro j hj
      have hj' : j < l.length := by simpa using hj
      refine ⟨?_, ?_⟩
      · rw [Nat.zero_add]
        have e1 : w.cell? ⟨b, j, none⟩ = c[j]? := by simp [World.cell?, hb]
        rw [e1, hcell j hj']
        simp [hj']
      · simp [World.frozen?, hb]
    have hbs : b < w.heap.size := (Array.getElem?_eq_some_iff.1 hb).1
    refine (h b 0 (ρ 1000000000000).2.2 l w hH hbs hlen).mono ?_
    rintro e w' ⟨rfl, n, os, rfl⟩
    have hput : (grow (putRow enc (Sort.ahead w n) b 0 (srt l).toArray) os).heap[b]? = some (.cells (putCells enc 0 (srt l).toArray c) ty (0, 0)) := by
      simp only [grow, putRow, mapBlock, Sort.ahead]
      rw [Array.getElem?_append_left (by simp; exact hbs), Array.getElem?_modify, if_pos rfl, hb]
      rfl
    have hoth : ∀ q, q < w.heap.size → q ≠ b → (grow (putRow enc (Sort.ahead w n) b 0 (srt l).toArray) os).heap[q]? = w.heap[q]? := by
      intro q hq hqb
      simp only [grow, putRow, mapBlock, Sort.ahead]
      rw [Array.getElem?_append_left (by simp; exact hq), Array.getElem?_modify, if_neg (fun e => hqb e.symm)]
    have hsz : w.heap.size ≤ (grow (putRow enc (Sort.ahead w n) b 0 (srt l).toArray) os).heap.size := by
      simp only [grow, putRow, mapBlock, Sort.ahead, Array.size_append, Array.size_modify]; omega
    have hpc : (putCells enc 0 (srt l).toArray c).toList.take l.length = (srt l).map enc := by
      apply List.ext_getElem?
      intro j
      by_cases hj : j < l.length
      · rw [List.getElem?_take_of_lt hj]
        have hj2 : j < (srt l).length := by rw [hsl]; exact hj
        have hjc : j < c.size := by omega
        simp [putCells, hj2, hjc]
      · rw [List.getElem?_eq_none (by simp; omega), List.getElem?_eq_none (by simp [hsl]; omega)]
    refine ⟨.tuple #[], .tup [], [(1000000000000, 1, (srt l).map f)], F, ρ, [], [b], rfl, ⟨rfl, rfl⟩, .tup .nil, ?_, by simp, ?_, fun b hb => hb, ?_, ?_, hsz, rfl, rfl, rfl, fun _ _ => rfl⟩
    · have : OL (grow (putRow enc (Sort.ahead w n) b 0 (srt l).toArray) os) F ρ [(1000000000000, 1, (srt l).map f)] (b :: ([] ++ [])) :=
        .cons (cells := (srt l).map enc) (by omega) hρ hρb hput (by simp [putCells]; omega) (by simp [hsl]; omega) hm (by simpa [hsl] using hpc) (OE.of_enc f enc hf h1 (srt l)) (.nil (hgk.mono fun q hq => ⟨hq, hoth q (hFs q hq) (fun e => hfF b (by simp) (by rw [← e]; exact hq))⟩))
      simpa using this
    · intro q hq
      have : q = b := by simpa using hq
      subst this
      exact ⟨hfF q (by simp), .inl (by simp)⟩
    · intro q hq
      exact ⟨.inl hq, Nat.lt_of_lt_of_le (hFs q hq) hsz⟩
    · intro q hq hqf
      exact hoth q hq (fun e => hqf (by simp [e]))
/-- .. of the list without elements. -/
theorem fc_of_sort0 {P : Program} {g : FuncId} (h : ∀ (p : Option Addr) (cap : Nat) (w : World), Calls P g #[.slice p 0 cap] w fun e w' => e = .returned (.tuple #[]) ∧ w' = w) :
    FC P g [.ref 1000000000000 0 0] [(1000000000000, 1, [])] fun rv O => rv = .tup [] ∧ O = [(1000000000000, 1, [])] := by
  intro w F ρ vals fp hv hO hnd hfF hFs
  have hvl := hv.length
  have hv0 := hv.get 0
  simp only [lget] at hv0
  have hy := hv0.ref_inv
  obtain ⟨y, rfl⟩ : ∃ y, vals = [y] := by
    match vals, hvl with
    | [y], _ => exact ⟨y, rfl⟩
  simp only [List.getD_cons_zero] at hy
  subst hy
  refine (h _ _ w).mono ?_
  rintro e w' ⟨rfl, rfl⟩
  refine ⟨.tuple #[], .tup [], [(1000000000000, 1, [])], F, ρ, [], fp, rfl, ⟨rfl, rfl⟩, .tup .nil, hO, by simpa using hnd, ?_, fun b hb => hb, ?_, fun _ _ _ => rfl, Nat.le_refl _, rfl, rfl, rfl, fun _ _ => rfl⟩
  · intro q hq
    exact ⟨hfF q (by simpa using hq), .inl (by simpa using hq)⟩
  · intro q hq
    exact ⟨.inl hq, hFs q hq⟩
end Eng
end Go.Proofs.YtpcckakchpblcaaGreatDoor
/- The library's sort of whole numbers, as the shelf's contracts lay it at this program. No condition. -/
namespace Go.Proofs.YtpcckakchpblcaaGreatDoor
set_option maxHeartbeats 0
set_option maxRecDepth 100000
open Go.Shelf
def shelf_lays189_ren : Go.Shelf.Ren := ⟨fun | 189 => 56 | 125 => 80 | 257 => 79 | 128 => 107 | 129 => 108 | 294 => 98 | 295 => 99 | 296 => 100 | 297 => 101 | 298 => 102 | 299 => 103 | 216 => 104 | 300 => 105 | 301 => 106 | 328 => 122 | 329 => 123 | 330 => 124 | 331 => 125 | 332 => 126 | 215 => 127 | 343 => 135 | n => n, fun | 28 => 42 | 3 => 3 | 46 => 107 | 0 => 0 | 51 => 131 | 53 => 47 | 4 => 4 | 183 => 124 | 182 => 123 | 131 => 128 | 5 => 5 | 9 => 9 | 218 => 148 | 222 => 152 | 228 => 167 | 229 => 168 | n => n, fun | n => n⟩
theorem shelf_lays189 : Go.Proofs.Lays.n189 Tryz.prog shelf_lays189_ren := {
  mixed := by kernel_rfl
  f125 := Tryz.func80.trans (congrArg some (by kernel_rfl))
  f128 := Tryz.func107.trans (congrArg some (by kernel_rfl))
  f129 := Tryz.func108.trans (congrArg some (by kernel_rfl))
  f189 := Tryz.func56.trans (congrArg some (by kernel_rfl))
  f215 := Tryz.func127.trans (congrArg some (by kernel_rfl))
  f216 := Tryz.func104.trans (congrArg some (by kernel_rfl))
  f257 := Tryz.func79.trans (congrArg some (by kernel_rfl))
  f294 := Tryz.func98.trans (congrArg some (by kernel_rfl))
  f295 := Tryz.func99.trans (congrArg some (by kernel_rfl))
  f296 := Tryz.func100.trans (congrArg some (by kernel_rfl))
  f297 := Tryz.func101.trans (congrArg some (by kernel_rfl))
  f298 := Tryz.func102.trans (congrArg some (by kernel_rfl))
  f299 := Tryz.func103.trans (congrArg some (by kernel_rfl))
  f300 := Tryz.func105.trans (congrArg some (by kernel_rfl))
  f301 := Tryz.func106.trans (congrArg some (by kernel_rfl))
  f328 := Tryz.func122.trans (congrArg some (by kernel_rfl))
  f329 := Tryz.func123.trans (congrArg some (by kernel_rfl))
  f330 := Tryz.func124.trans (congrArg some (by kernel_rfl))
  f331 := Tryz.func125.trans (congrArg some (by kernel_rfl))
  f332 := Tryz.func126.trans (congrArg some (by kernel_rfl))
  f343 := Tryz.func135.trans (congrArg some (by kernel_rfl))
  t0 := Tryz.underlying0
  a0 := Tryz.isAgg0
  z0 := Tryz.sizeOf0
  v0 := Tryz.zeroValue0
  t3 := Tryz.underlying3
  a3 := Tryz.isAgg3
  z3 := Tryz.sizeOf3
  v3 := Tryz.zeroValue3
  t4 := Tryz.underlying4
  a4 := Tryz.isAgg4
  z4 := Tryz.sizeOf4
  v4 := Tryz.zeroValue4
  t5 := Tryz.underlying5
  a5 := Tryz.isAgg5
  z5 := Tryz.sizeOf5
  v5 := Tryz.zeroValue5
  t9 := Tryz.underlying9
  a9 := Tryz.isAgg9
  z9 := Tryz.sizeOf9
  v9 := Tryz.zeroValue9
  t28 := Tryz.underlying42
  a28 := Tryz.isAgg42
  z28 := Tryz.sizeOf42
  v28 := Tryz.zeroValue42
  t46 := Tryz.underlying107
  a46 := Tryz.isAgg107
  z46 := Tryz.sizeOf107
  v46 := Tryz.zeroValue107
  t51 := Tryz.underlying131
  a51 := Tryz.isAgg131
  z51 := Tryz.sizeOf131
  v51 := Tryz.zeroValue131
  t53 := Tryz.underlying47
  a53 := Tryz.isAgg47
  z53 := Tryz.sizeOf47
  v53 := Tryz.zeroValue47
  t131 := Tryz.underlying128
  a131 := Tryz.isAgg128
  z131 := Tryz.sizeOf128
  v131 := Tryz.zeroValue128
  t182 := Tryz.underlying123
  a182 := Tryz.isAgg123
  z182 := Tryz.sizeOf123
  v182 := Tryz.zeroValue123
  t183 := Tryz.underlying124
  a183 := Tryz.isAgg124
  z183 := Tryz.sizeOf124
  v183 := Tryz.zeroValue124
  t218 := Tryz.underlying148
  a218 := Tryz.isAgg148
  z218 := Tryz.sizeOf148
  v218 := Tryz.zeroValue148
  t222 := Tryz.underlying152
  a222 := Tryz.isAgg152
  z222 := Tryz.sizeOf152
  v222 := Tryz.zeroValue152
  t228 := Tryz.underlying167
  a228 := Tryz.isAgg167
  z228 := Tryz.sizeOf167
  v228 := Tryz.zeroValue167
  t229 := Tryz.underlying168
  a229 := Tryz.isAgg168
  z229 := Tryz.sizeOf168
  v229 := Tryz.zeroValue168 }
open Go.Sort Go.RowKit in
theorem shelf_slices_Sort_int (blk off cap : Nat) (zs : List Int) (w : World) (hH : Holds (Value.int .i64) w blk off zs.toArray) (hblk : blk < w.heap.size) (hsz : zs.length < 4611686018427387904) :
    Calls Tryz.prog 56 #[.slice (some ⟨blk, off, none⟩) zs.length cap] w fun e w' =>
      e = .returned (.tuple #[]) ∧ ∃ n os, w' = grow (putRow (Value.int .i64) (Sort.ahead w n) blk off (zs.mergeSort fun x y => decide (x ≤ y)).toArray) os := Any.slices_Sort_int shelf_lays189 blk off cap zs w hH hblk hsz
open Go.RowKit Go.Sort in
/-- .. and plain. (LAID: no walk: one application.) -/
theorem shelf_slices_Sort_int_none (p : Option Addr) (cap : Nat) (w : World) :
    Calls Tryz.prog 56 #[.slice p 0 cap] w fun e w' => e = .returned (.tuple #[]) ∧ w' = w := Any.slices_Sort_int_none shelf_lays189 p cap w
end Go.Proofs.YtpcckakchpblcaaGreatDoor
/- The library's sort of whole numbers. For all lists of the lengths that the theorem names. -/
namespace Go.Proofs.YtpcckakchpblcaaGreatDoor
open Eng Go.Sort
attribute [local irreducible] OpS OpG FC FCr Rel Fl Ef DR Fs
set_option linter.unusedSimpArgs false
set_option maxHeartbeats 0
set_option maxRecDepth 100000

theorem sortI_ok (l : List Int) (hlen : l.length ≤ 1099511627776) : FC Tryz.prog 56 [.ref 1000000000000 0 l.length] [(1000000000000, 1, l.map RVi)] (fun rv O => rv = .tup [] ∧ O = [(1000000000000, 1, (srtI l).map RVi)]) := by
  cases l with
  | nil =>
    have e : srtI [] = [] := List.eq_nil_of_length_eq_zero (srtI_len [])
    rw [e]
    exact fc_of_sort0 (fun p cap w => shelf_slices_Sort_int_none p cap w)
  | cons x l => exact fc_of_sort RVi (Value.int .i64) (fun _ => rfl) (fun _ => rfl) srtI srtI_len (fun blk off cap ss w h1 h2 h3 => shelf_slices_Sort_int blk off cap ss w h1 h2 h3) (x :: l) (by simp) (by simp only [List.length_cons] at hlen ⊢; omega)
end Go.Proofs.YtpcckakchpblcaaGreatDoor
