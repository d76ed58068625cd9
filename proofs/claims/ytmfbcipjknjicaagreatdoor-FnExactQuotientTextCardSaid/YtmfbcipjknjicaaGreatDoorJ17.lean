/- The library's sorts as contracts of the logic: a block that holds a list is left holding the list in order. For all lists that are not empty. -/
import Derived.Sort.Grow
import Derived.Shelf.Spec.SlicesGrow
import Derived.Test.YtmfbcipjknjicaaGreatDoorJ6
namespace Go.Proofs.YtmfbcipjknjicaaGreatDoor
namespace Eng
open Go.RowKit Go.Sort
set_option maxHeartbeats 0
set_option maxRecDepth 100000

theorem OE.of_enc {α : Type} {w F ρ} (f : α → RV) (enc : α → Value) (hf : ∀ x, f x = .v (enc x)) (h1 : ∀ x, (enc x).oneCell' = true) : ∀ l : List α, OE w F ρ 1 (l.map f) (l.map enc) []
  | [] => .nil _ _
  | x :: l => by
    rw [List.map_cons, List.map_cons, hf]
    exact OE.fz (c := [enc x]) (.v _ (h1 x) (.nil _)) (OE.of_enc f enc hf h1 l)
theorem OE.enc_inv {α : Type} {w F ρ} (f : α → RV) (enc : α → Value) (hf : ∀ x, f x = .v (enc x)) : ∀ {l : List α} {cells fp}, OE w F ρ 1 (l.map f) cells fp → cells = l.map enc ∧ fp = []
  | [], cells, fp, h => by cases h; exact ⟨rfl, rfl⟩
  | x :: l, cells, fp, h => by
    rw [List.map_cons, hf] at h
    cases h with
    | fz h1 h =>
      obtain ⟨rfl, rfl⟩ := OE.enc_inv f enc hf h
      cases h1 with
      | v _ _ h2 => cases h2; exact ⟨rfl, rfl⟩

theorem fc_of_sort {α : Type} [Inhabited α] {P : Program} {g : FuncId} (f : α → RV) (enc : α → Value) (hf : ∀ x, f x = .v (enc x)) (h1 : ∀ x, (enc x).oneCell' = true) (srt : List α → List α) (hsl : ∀ l, (srt l).length = l.length)
    (h : ∀ (blk off cap : Nat) (l : List α) (w : World), Holds enc w blk off l.toArray → blk < w.heap.size → l.length < 4611686018427387904 →
      Calls P g #[.slice (some ⟨blk, off, none⟩) l.length cap] w fun e w' => e = .returned (.tuple #[]) ∧ ∃ n os, w' = grow (putRow enc (Sort.ahead w n) blk off (srt l).toArray) os)
    (l : List α) (h0 : l ≠ []) (hlen : l.length < 4611686018427387904) :
    FC P g [.ref 1000000000000 0 l.length] [(1000000000000, 1, l.map f)] fun rv O => rv = .tup [] ∧ O = [(1000000000000, 1, (srt l).map f)] := by
  intro w F ρ vals fp hv hO hnd hfF hFs
  have hvl := hv.length
  have hv0 := hv.get 0
  simp only [lget] at hv0
  have hy := hv0.ref_inv
  obtain ⟨y, rfl⟩ : ∃ y, vals = [y] := by
    match vals, hvl with
    | [y], _ => exact ⟨y, rfl⟩
  simp only [List.getD_cons_zero] at hy
  generalize he : l.map f = els at hO
  cases hO with
  | nilb _ _ _ => exact absurd (List.map_eq_nil_iff.1 he) h0
  | cons hk hρ hρb hb hs hl hm hc heo hrest =>
    rename_i b ty c cells fp1 fp2
    have hgk := hrest.gok
    cases hrest
    subst he
    obtain ⟨hcl, rfl⟩ := OE.enc_inv f enc hf heo
    rw [hcl] at hc
    simp only [List.length_map, Nat.mul_one] at hc hs hl
    rw [hρb, hρ] at hy
    simp only [Option.map_some, Nat.zero_mul, Nat.sub_zero] at hy
    subst hy
    have hlc : l.length ≤ c.size := by omega
    have hcell : ∀ j, (hj : j < l.length) → c[j]? = some (enc l[j]) := by
      intro j hj
      have h2 : (c.toList.take l.length)[j]? = some (enc l[j]) := by rw [hc]; simp [hj]
      rw [List.getElem?_take_of_lt hj] at h2
      simpa using h2
    have hH : Holds enc w b 0 l.toArray := by
      intro j hj
      have hj' : j < l.length := by simpa using hj
      refine ⟨?_, ?_⟩
      · rw [Nat.zero_add]
        have e1 : w.cell? ⟨b, j, none⟩ = c[j]? := by simp [World.cell?, hb]
        rw [e1, hcell j hj']
        simp [hj']
      · simp [World.frozen?, hb]
    have hbs : b < w.heap.size := (Array.getElem?_eq_some_iff.1 hb).1
    refine (h b 0 (ρ 1000000000000).2.2 l w hH hbs hlen).mono ?_
    rintro e w' ⟨rfl, n, os, rfl⟩
    have hput : (grow (putRow enc (Sort.ahead w n) b 0 (srt l).toArray) os).heap[b]? = some (.cells (putCells enc 0 (srt l).toArray c) ty (0, 0)) := by
      simp only [grow, putRow, mapBlock, Sort.ahead]
      rw [Array.getElem?_append_left (by simp; exact hbs), Array.getElem?_modify, if_pos rfl, hb]
      rfl
    have hoth : ∀ q, q < w.heap.size → q ≠ b → (grow (putRow enc (Sort.ahead w n) b 0 (srt l).toArray) os).heap[q]? = w.heap[q]? := by
      intro q hq hqb
      simp only [grow, putRow, mapBlock, Sort.ahead]
      rw [Array.getElem?_append_left (by simp; exact hq), Array.getElem?_modify, if_neg (fun e => hqb e.symm)]
    have hsz : w.heap.size ≤ (grow (putRow enc (Sort.ahead w n) b 0 (srt l).toArray) os).heap.size := by
      simp only [grow, putRow, mapBlock, Sort.ahead, Array.size_append, Array.size_modify]; omega
    have hpc : (putCells enc 0 (srt l).toArray c).toList.take l.length = (srt l).map enc := by
      apply List.ext_getElem?
      intro j
      by_cases hj : j < l.length
      · rw [List.getElem?_take_of_lt hj]
        have hj2 : j < (srt l).length := by rw [hsl]; exact hj
        have hjc : j < c.size := by omega
        simp [putCells, hj2, hjc]
      · rw [List.getElem?_eq_none (by simp; omega), List.getElem?_eq_none (by simp [hsl]; omega)]
    refine ⟨.tuple #[], .tup [], [(1000000000000, 1, (srt l).map f)], F, ρ, [], [b], rfl, ⟨rfl, rfl⟩, .tup .nil, ?_, by simp, ?_, fun b hb => hb, ?_, ?_, hsz, rfl, ⟨rfl, by simp [grow, putRow, mapBlock, Sort.ahead]⟩, rfl, fun _ _ => rfl⟩
    · have : OL (grow (putRow enc (Sort.ahead w n) b 0 (srt l).toArray) os) F ρ [(1000000000000, 1, (srt l).map f)] (b :: ([] ++ [])) :=
        .cons (cells := (srt l).map enc) (by omega) hρ hρb hput (by simp [putCells]; omega) (by simp [hsl]; omega) hm (by simpa [hsl] using hpc) (OE.of_enc f enc hf h1 (srt l)) (.nil (hgk.mono fun q hq => ⟨hq, hoth q (hFs q hq) (fun e => hfF b (by simp) (by rw [← e]; exact hq))⟩))
      simpa using this
    · intro q hq
      have : q = b := by simpa using hq
      subst this
      exact ⟨hfF q (by simp), .inl (by simp)⟩
    · intro q hq
      exact ⟨.inl hq, Nat.lt_of_lt_of_le (hFs q hq) hsz⟩
    · intro q hq hqf
      exact hoth q hq (fun e => hqf (by simp [e]))
/-- .. of the list without elements. -/
theorem fc_of_sort0 {P : Program} {g : FuncId} (h : ∀ (p : Option Addr) (cap : Nat) (w : World), Calls P g #[.slice p 0 cap] w fun e w' => e = .returned (.tuple #[]) ∧ w' = w) :
    FC P g [.ref 1000000000000 0 0] [(1000000000000, 1, [])] fun rv O => rv = .tup [] ∧ O = [(1000000000000, 1, [])] := by
  intro w F ρ vals fp hv hO hnd hfF hFs
  have hvl := hv.length
  have hv0 := hv.get 0
  simp only [lget] at hv0
  have hy := hv0.ref_inv
  obtain ⟨y, rfl⟩ : ∃ y, vals = [y] := by
    match vals, hvl with
    | [y], _ => exact ⟨y, rfl⟩
  simp only [List.getD_cons_zero] at hy
  subst hy
  refine (h _ _ w).mono ?_
  rintro e w' ⟨rfl, rfl⟩
  refine ⟨.tuple #[], .tup [], [(1000000000000, 1, [])], F, ρ, [], fp, rfl, ⟨rfl, rfl⟩, .tup .nil, hO, by simpa using hnd, ?_, fun b hb => hb, ?_, fun _ _ _ => rfl, Nat.le_refl _, rfl, TW.refl _, rfl, fun _ _ => rfl⟩
  · intro q hq
    exact ⟨hfF q (by simpa using hq), .inl (by simpa using hq)⟩
  · intro q hq
    exact ⟨.inl hq, hFs q hq⟩
end Eng
end Go.Proofs.YtmfbcipjknjicaaGreatDoor
/- The library's Grow of the nil list of whole numbers: an owned list without elements. -/
namespace Go.Proofs.YtmfbcipjknjicaaGreatDoor
open Eng Go.Shelf
set_option linter.unusedSimpArgs false
set_option maxHeartbeats 0
set_option maxRecDepth 100000

def growRen : Ren := ⟨fun | 4 => 109 | n => n, fun | 0 => 0 | 3 => 3 | 4 => 4 | 9 => 9 | 20 => 20 | 22 => 24 | 25 => 3 | n => n, fun | n => n⟩
theorem growLays : Go.Proofs.Lays8.n4 Tryz.prog growRen := {
  mixed := by kernel_rfl
  f4 := ⟨"slices.Grow[[]int,int]", by decide, Tryz.func109.trans (congrArg some (by kernel_rfl))⟩
  t0 := Tryz.underlying0
  a0 := Tryz.isAgg0
  z0 := Tryz.sizeOf0
  v0 := Tryz.zeroValue0
  t3 := Tryz.underlying3
  a3 := Tryz.isAgg3
  z3 := Tryz.sizeOf3
  v3 := Tryz.zeroValue3
  t4 := Tryz.underlying4
  a4 := Tryz.isAgg4
  z4 := Tryz.sizeOf4
  v4 := Tryz.zeroValue4
  t9 := Tryz.underlying9
  a9 := Tryz.isAgg9
  z9 := Tryz.sizeOf9
  v9 := Tryz.zeroValue9
  t20 := Tryz.underlying20
  a20 := Tryz.isAgg20
  z20 := Tryz.sizeOf20
  v20 := Tryz.zeroValue20
  t22 := Tryz.underlying24
  a22 := Tryz.isAgg24
  z22 := Tryz.sizeOf24
  v22 := Tryz.zeroValue24 }
theorem grow_ok (n : Nat) (hn : n ≤ 1099511627776) : FCr Tryz.prog 109 [.v (.slice none 0 0), RVn n] (.ow 1 []) := by
  intro w F ρ vals fp hv hO hnd hfF hFs
  have hgk := hO.gok
  cases hO
  have hvl := hv.length
  obtain ⟨x, y, rfl⟩ : ∃ x y, vals = [x, y] := by
    match vals, hvl with
    | [x, y], _ => exact ⟨x, y, rfl⟩
  have hx := hv.get 0
  have hy := hv.get 1
  simp only [lget, List.getD_cons_zero, List.getD_cons_succ] at hx hy
  obtain rfl := hx.exact
  obtain rfl := hy.exact
  rcases Nat.eq_zero_or_pos n with h0 | h0
  · subst h0
    refine (Any8.slices_Grow_room growLays none 0 0 0 w (by omega) (by omega) (by omega) (by omega)).mono ?_
    rintro e w' ⟨rfl, rfl⟩
    refine ⟨.slice none 0 0, .ow 1 [], [], F, ρ, [], [], rfl, ⟨rfl, rfl⟩, .one (.cell rfl (.ownil 1 (by omega) (.nil _ _))), .nil hgk, by simp, fun b hb => by simp at hb, fun b hb => hb, fun b hb => ⟨.inl hb, hFs b hb⟩, fun _ _ _ => rfl, Nat.le_refl _, rfl, TW.refl _, rfl, fun _ _ => rfl⟩
  · have hz : zeroOf Tryz.prog 3 = some (.int .i64 0) := by kernel_rfl
    have hc1 : Tryz.prog.cellsOf 3 = 1 := by kernel_rfl
    have hby : (Tryz.prog.info? 3).map (fun i => decide (i.bytes ≤ 64)) = some true := by kernel_rfl
    cases hi : Tryz.prog.info? 3 with
    | none => simp [hi] at hby
    | some i0 =>
      simp only [hi, Option.map_some, Option.some.injEq, decide_eq_true_eq] at hby
      have hz' : i0.zero = some (.int .i64 0) := by simpa [zeroOf, hi] using hz
      have hs' : i0.size = 1 := by simpa [Program.cellsOf, hi] using hc1
      have hby2 : (0 + n) * i0.bytes ≤ 140737488355328 := by
        have : n * i0.bytes ≤ n * 64 := Nat.mul_le_mul_left _ hby
        rw [Nat.zero_add]; omega
      refine (Any8.slices_Grow_grow growLays i0 (.int .i64 0) hi hz' (by omega) none 0 0 n [] w (by omega) (by omega) hby2 (by omega) (by simp) (fun _ => rfl) (fun a ha => by cases ha)).mono ?_
      have hG1 := grownCap_ge w (0 + n) 0 (growRen.t 25)
      have hG2 := grownCap_le_maxLen w (0 + n) 0 (growRen.t 25) (by unfold maxLen; omega)
      generalize grownCap w (0 + n) 0 (growRen.t 25) = G at *
      rintro e w' ⟨rfl, rfl⟩
      refine ⟨_, .ow 1 [], [], F, ρ, [w.heap.size], [], rfl, ⟨rfl, rfl⟩, .one (.cell rfl (.ow w.heap.size G _ _ (k := 1) (els := []) (cells := []) (fp1 := []) (fp2 := []) (by omega) (_root_.Go.heap_alloc_new w.drew _) ?_ (by simp) hG2 (by simp) rfl (.nil _ _) (.nil _ _))), .nil (hgk.mono fun b hb => ⟨hb, _root_.Go.heap_alloc_old w.drew _ (hFs b hb)⟩), by simp, ?_, fun b hb => hb, fun b hb => ⟨.inl hb, ?_⟩, fun b hb _ => _root_.Go.heap_alloc_old w.drew _ hb, by simp, rfl, ⟨rfl, Nat.le_succ _⟩, rfl, fun _ _ => rfl⟩
      · simp [Builtin.zeroCells, Value.cells]; omega
      · intro b hb
        simp at hb
        subst hb
        exact ⟨fun h => absurd (hFs _ h) (by omega), .inr (Nat.le_refl _)⟩
      · have := hFs b hb
        simp; omega
end Go.Proofs.YtmfbcipjknjicaaGreatDoor
