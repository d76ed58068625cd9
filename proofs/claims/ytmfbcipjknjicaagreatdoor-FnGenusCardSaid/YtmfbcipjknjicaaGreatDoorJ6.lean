/- Lists of ints and lists of such lists: measured, copied, compared, as the drawn laws do it. Each for all lists. -/
import Derived.Test.YtmfbcipjknjicaaGreatDoorRows
import Derived.Shelf.Strings.OnBuilder
import Derived.Shelf.LaysM
import Derived.Shelf.Strconv.Itoa3
import Derived.Sort.Grow
import Derived.Test.YtmfbcipjknjicaaGreatDoorEf
namespace Go.Proofs.YtmfbcipjknjicaaGreatDoor
set_option linter.unusedSectionVars false
variable [One Bool]
open Eng
attribute [local irreducible] OpS OpG FC FCr Rel Fl Ef DR Fs
set_option linter.unusedSimpArgs false
set_option maxHeartbeats 0
set_option maxRecDepth 100000

theorem dn {α : Type} {l : List α} {k : Nat} (h : ¬ (k : Int) < (l.length : Int)) : l.drop k = [] := List.drop_of_length_le (by omega)
theorem drop_both {α : Type} {l m : List α} {k : Nat} (h : k < l.length) (h2 : k < m.length) : (l.drop k = m.drop k) ↔ l[k] = m[k] ∧ l.drop (k + 1) = m.drop (k + 1) := by
  rw [List.drop_eq_getElem_cons h, List.drop_eq_getElem_cons h2, List.cons.injEq]

theorem l1In_ok (x a b : Int) : FCr Tryz.prog 69 [RVi x, RVi a, RVi b] (RVb (decide (a ≤ x) && decide (x ≤ b))) := by
  refine (fcr_in Tryz.func69 rfl (by simp only [Tryz.ntmps69, anys, List.length_cons, List.length_nil, Nat.reduceAdd, Nat.reduceSub, List.replicate_succ, List.replicate_zero, List.cons_append, List.nil_append] <;> rfl) ?_)
  repeat' first | apply w_seq | apply w_region | apply l_nil | apply rt_n | apply w_ret | apply rt_ret | apply w_skip | (refine l_o ?_; first | refine l_op (hk := ?_) | (refine l_g ?_; first | refine l_y rfl rfl rfl ?_ | refine l_n rfl rfl rfl rfl (hk := ?_) | refine l_n' rfl rfl rfl (hk := ?_) | refine l_spnd rfl rfl rfl (h1 := fun hc => ?_) (h2 := fun hc => ?_) | refine l_spd rfl rfl rfl (h1 := fun hc => ?_) (h2 := fun hc => ?_) | refine l_spn rfl rfl rfl (h1 := fun hc => ?_) (h2 := fun hc => ?_) | refine l_sp rfl rfl rfl (h1 := fun hc => ?_) (h2 := fun hc => ?_)))
  all_goals
    refine en_one (hf := Tryz.results69) (h := ?_); simp only [lget]; first | refine congrArg RVb ?_ | refine congrArg RVi ?_ | skip
    simp [*]
end Go.Proofs.YtmfbcipjknjicaaGreatDoor
/- The library's Join and Itoa, as the shelf's contracts lay them at this program. No condition. -/
namespace Go.Proofs.YtmfbcipjknjicaaGreatDoor
set_option linter.unusedSectionVars false
variable [One Bool]
set_option maxHeartbeats 0
set_option maxRecDepth 100000
open Go.Shelf
def shelf_lays156_ren : Go.Shelf.Ren := ⟨fun | 156 => 62 | 165 => 90 | 166 => 91 | 169 => 92 | 240 => 107 | 241 => 108 | 276 => 122 | 277 => 123 | n => n, fun | 31 => 81 | 9 => 9 | 3 => 3 | 4 => 4 | 0 => 0 | 20 => 20 | 72 => 105 | 76 => 109 | 70 => 103 | 37 => 22 | 75 => 108 | 127 => 123 | 164 => 134 | 5 => 5 | 80 => 111 | n => n, fun | n => n⟩
theorem shelf_lays156 : Go.Proofs.Lays.n156 Tryz.prog shelf_lays156_ren := {
  mixed := by kernel_rfl
  f156 := Tryz.func62.trans (congrArg some (by kernel_rfl))
  f165 := Tryz.func90.trans (congrArg some (by kernel_rfl))
  f166 := Tryz.func91.trans (congrArg some (by kernel_rfl))
  f169 := Tryz.func92.trans (congrArg some (by kernel_rfl))
  f240 := Tryz.func107.trans (congrArg some (by kernel_rfl))
  f241 := Tryz.func108.trans (congrArg some (by kernel_rfl))
  f276 := Tryz.func122.trans (congrArg some (by kernel_rfl))
  f277 := Tryz.func123.trans (congrArg some (by kernel_rfl))
  t0 := Tryz.underlying0
  a0 := Tryz.isAgg0
  z0 := Tryz.sizeOf0
  v0 := Tryz.zeroValue0
  t3 := Tryz.underlying3
  a3 := Tryz.isAgg3
  z3 := Tryz.sizeOf3
  v3 := Tryz.zeroValue3
  t4 := Tryz.underlying4
  a4 := Tryz.isAgg4
  z4 := Tryz.sizeOf4
  v4 := Tryz.zeroValue4
  t9 := Tryz.underlying9
  a9 := Tryz.isAgg9
  z9 := Tryz.sizeOf9
  v9 := Tryz.zeroValue9
  t20 := Tryz.underlying20
  a20 := Tryz.isAgg20
  z20 := Tryz.sizeOf20
  v20 := Tryz.zeroValue20
  t31 := Tryz.underlying81
  a31 := Tryz.isAgg81
  z31 := Tryz.sizeOf81
  v31 := Tryz.zeroValue81
  t37 := Tryz.underlying22
  a37 := Tryz.isAgg22
  z37 := Tryz.sizeOf22
  v37 := Tryz.zeroValue22
  t70 := Tryz.underlying103
  a70 := Tryz.isAgg103
  z70 := Tryz.sizeOf103
  v70 := Tryz.zeroValue103
  t72 := Tryz.underlying105
  a72 := Tryz.isAgg105
  z72 := Tryz.sizeOf105
  v72 := Tryz.zeroValue105
  t75 := Tryz.underlying108
  a75 := Tryz.isAgg108
  z75 := Tryz.sizeOf108
  v75 := Tryz.zeroValue108
  t76 := Tryz.underlying109
  a76 := Tryz.isAgg109
  z76 := Tryz.sizeOf109
  v76 := Tryz.zeroValue109
  t127 := Tryz.underlying123
  a127 := Tryz.isAgg123
  z127 := Tryz.sizeOf123
  v127 := Tryz.zeroValue123
  t164 := Tryz.underlying134
  a164 := Tryz.isAgg134
  z164 := Tryz.sizeOf134
  v164 := Tryz.zeroValue134 }
theorem shelf_Builder_Extra_156 : Builder.Extra Tryz.prog shelf_lays156_ren := {
  sizeBuilder := by kernel_rfl
  liesBuilder := by kernel_rfl
  t5 := Tryz.underlying5
  a5 := Tryz.isAgg5
  z5 := Tryz.sizeOf5
  v5 := Tryz.zeroValue5
  infoByte := by kernel_rfl
  cellsByte := by kernel_rfl
  sizeByte := by kernel_rfl
  neB5 := by decide }
def shelf_lays171_ren : Go.Shelf.Ren := ⟨fun | 171 => 43 | 243 => 75 | 246 => 98 | 283 => 112 | 284 => 113 | 285 => 114 | 286 => 115 | 129 => 134 | 317 => 135 | 318 => 136 | 319 => 137 | 320 => 138 | 337 => 149 | 338 => 150 | n => n, fun | 3 => 3 | 9 => 9 | 2 => 2 | 4 => 4 | 171 => 127 | 0 => 0 | 53 => 70 | 37 => 22 | 5 => 5 | 173 => 130 | 212 => 147 | 51 => 145 | 20 => 20 | 213 => 148 | 46 => 126 | 232 => 165 | 233 => 166 | n => n, fun | 17 => 0 | 18 => 2 | 19 => 3 | n => n⟩
theorem shelf_lays171 : Go.Proofs.Lays.n171 Tryz.prog shelf_lays171_ren := {
  mixed := by kernel_rfl
  f129 := Tryz.func134.trans (congrArg some (by kernel_rfl))
  f171 := Tryz.func43.trans (congrArg some (by kernel_rfl))
  f243 := Tryz.func75.trans (congrArg some (by kernel_rfl))
  f246 := Tryz.func98.trans (congrArg some (by kernel_rfl))
  f283 := Tryz.func112.trans (congrArg some (by kernel_rfl))
  f284 := Tryz.func113.trans (congrArg some (by kernel_rfl))
  f285 := Tryz.func114.trans (congrArg some (by kernel_rfl))
  f286 := Tryz.func115.trans (congrArg some (by kernel_rfl))
  f317 := Tryz.func135.trans (congrArg some (by kernel_rfl))
  f318 := Tryz.func136.trans (congrArg some (by kernel_rfl))
  f319 := Tryz.func137.trans (congrArg some (by kernel_rfl))
  f320 := Tryz.func138.trans (congrArg some (by kernel_rfl))
  f337 := Tryz.func149.trans (congrArg some (by kernel_rfl))
  f338 := Tryz.func150.trans (congrArg some (by kernel_rfl))
  t0 := Tryz.underlying0
  a0 := Tryz.isAgg0
  z0 := Tryz.sizeOf0
  v0 := Tryz.zeroValue0
  t2 := Tryz.underlying2
  a2 := Tryz.isAgg2
  z2 := Tryz.sizeOf2
  v2 := Tryz.zeroValue2
  t3 := Tryz.underlying3
  a3 := Tryz.isAgg3
  z3 := Tryz.sizeOf3
  v3 := Tryz.zeroValue3
  t4 := Tryz.underlying4
  a4 := Tryz.isAgg4
  z4 := Tryz.sizeOf4
  v4 := Tryz.zeroValue4
  t5 := Tryz.underlying5
  a5 := Tryz.isAgg5
  z5 := Tryz.sizeOf5
  v5 := Tryz.zeroValue5
  t9 := Tryz.underlying9
  a9 := Tryz.isAgg9
  z9 := Tryz.sizeOf9
  v9 := Tryz.zeroValue9
  t20 := Tryz.underlying20
  a20 := Tryz.isAgg20
  z20 := Tryz.sizeOf20
  v20 := Tryz.zeroValue20
  t37 := Tryz.underlying22
  a37 := Tryz.isAgg22
  z37 := Tryz.sizeOf22
  v37 := Tryz.zeroValue22
  t46 := Tryz.underlying126
  a46 := Tryz.isAgg126
  z46 := Tryz.sizeOf126
  v46 := Tryz.zeroValue126
  t51 := Tryz.underlying145
  a51 := Tryz.isAgg145
  z51 := Tryz.sizeOf145
  v51 := Tryz.zeroValue145
  t53 := Tryz.underlying70
  a53 := Tryz.isAgg70
  z53 := Tryz.sizeOf70
  v53 := Tryz.zeroValue70
  t171 := Tryz.underlying127
  a171 := Tryz.isAgg127
  z171 := Tryz.sizeOf127
  v171 := Tryz.zeroValue127
  t173 := Tryz.underlying130
  a173 := Tryz.isAgg130
  z173 := Tryz.sizeOf130
  v173 := Tryz.zeroValue130
  t212 := Tryz.underlying147
  a212 := Tryz.isAgg147
  z212 := Tryz.sizeOf147
  v212 := Tryz.zeroValue147
  t213 := Tryz.underlying148
  a213 := Tryz.isAgg148
  z213 := Tryz.sizeOf148
  t232 := Tryz.underlying165
  a232 := Tryz.isAgg165
  z232 := Tryz.sizeOf165
  v232 := Tryz.zeroValue165
  t233 := Tryz.underlying166
  a233 := Tryz.isAgg166
  z233 := Tryz.sizeOf166
  v233 := Tryz.zeroValue166
  g17 := by kernel_rfl
  g18 := by kernel_rfl
  g19 := by kernel_rfl }
end Go.Proofs.YtmfbcipjknjicaaGreatDoor
/- The library's sorts as contracts of the logic: a block that holds a list is left holding the list in order. For all lists that are not empty. -/
namespace Go.Proofs.YtmfbcipjknjicaaGreatDoor
set_option linter.unusedSectionVars false
variable [One Bool]
namespace Eng
open Go.RowKit Go.Sort
set_option maxHeartbeats 0
set_option maxRecDepth 100000

theorem OE.of_enc {α : Type} {w F ρ} (f : α → RV) (enc : α → Value) (hf : ∀ x, f x = .v (enc x)) (h1 : ∀ x, (enc x).oneCell' = true) : ∀ l : List α, OE w F ρ 1 (l.map f) (l.map enc) []
  | [] => .nil _ _
  | x :: l => by
    rw [List.map_cons, List.map_cons, hf]
    exact OE.fz (c := [enc x]) (.v _ (h1 x) (.nil _)) (OE.of_enc f enc hf h1 l)
theorem OE.enc_inv {α : Type} {w F ρ} (f : α → RV) (enc : α → Value) (hf : ∀ x, f x = .v (enc x)) : ∀ {l : List α} {cells fp}, OE w F ρ 1 (l.map f) cells fp → cells = l.map enc ∧ fp = []
  | [], cells, fp, h => by cases h; exact ⟨rfl, rfl⟩
  | x :: l, cells, fp, h => by
    rw [List.map_cons, hf] at h
    cases h with
    | fz h1 h =>
      obtain ⟨rfl, rfl⟩ := OE.enc_inv f enc hf h
      cases h1 with
      | v _ _ h2 => cases h2; exact ⟨rfl, rfl⟩

theorem fc_of_sort {α : Type} [Inhabited α] {P : Program} {g : FuncId} (f : α → RV) (enc : α → Value) (hf : ∀ x, f x = .v (enc x)) (h1 : ∀ x, (enc x).oneCell' = true) (srt : List α → List α) (hsl : ∀ l, (srt l).length = l.length)
    (h : ∀ (blk off cap : Nat) (l : List α) (w : World), Holds enc w blk off l.toArray → blk < w.heap.size → l.length < 4611686018427387904 →
      Calls P g #[.slice (some ⟨blk, off, none⟩) l.length cap] w fun e w' => e = .returned (.tuple #[]) ∧ ∃ n os, w' = grow (putRow enc (Sort.ahead w n) blk off (srt l).toArray) os)
    (l : List α) (h0 : l ≠ []) (hlen : l.length < 4611686018427387904) :
    FC P g [.ref 1000000000000 0 l.length] [(1000000000000, 1, l.map f)] fun rv O => rv = .tup [] ∧ O = [(1000000000000, 1, (srt l).map f)] := by
  intro w F ρ vals fp hv hO hnd hfF hFs
  have hvl := hv.length
  have hv0 := hv.get 0
  simp only [lget] at hv0
  have hy := hv0.ref_inv
  obtain ⟨y, rfl⟩ : ∃ y, vals = [y] := by
    match vals, hvl with
    | [y], _ => exact ⟨y, rfl⟩
  simp only [List.getD_cons_zero] at hy
  generalize he : l.map f = els at hO
  cases hO with
  | nilb _ _ _ => exact absurd (List.map_eq_nil_iff.1 he) h0
  | cons hk hρ hρb hb hs hl hm hc heo hrest =>
    rename_i b ty c cells fp1 fp2
    have hgk := hrest.gok
    cases hrest
    subst he
    obtain ⟨hcl, rfl⟩ := OE.enc_inv f enc hf heo
    rw [hcl] at hc
    simp only [List.length_map, Nat.mul_one] at hc hs hl
    rw [hρb, hρ] at hy
    simp only [Option.map_some, Nat.zero_mul, Nat.sub_zero] at hy
    subst hy
    have hlc : l.length ≤ c.size := by omega
    have hcell : ∀ j, (hj : j < l.length) → c[j]? = some (enc l[j]) := by
      intro j hj
      have h2 : (c.toList.take l.length)[j]? = some (enc l[j]) := by rw [hc]; simp [hj]
      rw [List.getElem?_take_of_lt hj] at h2
      simpa using h2
    have hH : Holds enc w b 0 l.toArray := by
      intro j hj
      have hj' : j < l.length := by simpa using hj
      refine ⟨?_, ?_⟩
      · rw [Nat.zero_add]
        have e1 : w.cell? ⟨b, j, none⟩ = c[j]? := by simp [World.cell?, hb]
        rw [e1, hcell j hj']
        simp [hj']
      · simp [World.frozen?, hb]
    have hbs : b < w.heap.size := (Array.getElem?_eq_some_iff.1 hb).1
    refine (h b 0 (ρ 1000000000000).2.2 l w hH hbs hlen).mono ?_
    rintro e w' ⟨rfl, n, os, rfl⟩
    have hput : (grow (putRow enc (Sort.ahead w n) b 0 (srt l).toArray) os).heap[b]? = some (.cells (putCells enc 0 (srt l).toArray c) ty (0, 0)) := by
      simp only [grow, putRow, mapBlock, Sort.ahead]
      rw [Array.getElem?_append_left (by simp; exact hbs), Array.getElem?_modify, if_pos rfl, hb]
      rfl
    have hoth : ∀ q, q < w.heap.size → q ≠ b → (grow (putRow enc (Sort.ahead w n) b 0 (srt l).toArray) os).heap[q]? = w.heap[q]? := by
      intro q hq hqb
      simp only [grow, putRow, mapBlock, Sort.ahead]
      rw [Array.getElem?_append_left (by simp; exact hq), Array.getElem?_modify, if_neg (fun e => hqb e.symm)]
    have hsz : w.heap.size ≤ (grow (putRow enc (Sort.ahead w n) b 0 (srt l).toArray) os).heap.size := by
      simp only [grow, putRow, mapBlock, Sort.ahead, Array.size_append, Array.size_modify]; omega
    have hpc : (putCells enc 0 (srt l).toArray c).toList.take l.length = (srt l).map enc := by
      apply List.ext_getElem?
      intro j
      by_cases hj : j < l.length
      · rw [List.getElem?_take_of_lt hj]
        have hj2 : j < (srt l).length := by rw [hsl]; exact hj
        have hjc : j < c.size := by omega
        simp [putCells, hj2, hjc]
      · rw [List.getElem?_eq_none (by simp; omega), List.getElem?_eq_none (by simp [hsl]; omega)]
    refine ⟨.tuple #[], .tup [], [(1000000000000, 1, (srt l).map f)], F, ρ, [], [b], rfl, ⟨rfl, rfl⟩, .tup .nil, ?_, by simp, ?_, fun b hb => hb, ?_, ?_, hsz, rfl, ⟨rfl, by simp [grow, putRow, mapBlock, Sort.ahead]⟩, rfl, fun _ _ => rfl⟩
    · have : OL (grow (putRow enc (Sort.ahead w n) b 0 (srt l).toArray) os) F ρ [(1000000000000, 1, (srt l).map f)] (b :: ([] ++ [])) :=
        .cons (cells := (srt l).map enc) (by omega) hρ hρb hput (by simp [putCells]; omega) (by simp [hsl]; omega) hm (by simpa [hsl] using hpc) (OE.of_enc f enc hf h1 (srt l)) (.nil (hgk.mono fun q hq => ⟨hq, hoth q (hFs q hq) (fun e => hfF b (by simp) (by rw [← e]; exact hq))⟩))
      simpa using this
    · intro q hq
      have : q = b := by simpa using hq
      subst this
      exact ⟨hfF q (by simp), .inl (by simp)⟩
    · intro q hq
      exact ⟨.inl hq, Nat.lt_of_lt_of_le (hFs q hq) hsz⟩
    · intro q hq hqf
      exact hoth q hq (fun e => hqf (by simp [e]))
theorem fc_of_sort0 {P : Program} {g : FuncId} (h : ∀ (p : Option Addr) (cap : Nat) (w : World), Calls P g #[.slice p 0 cap] w fun e w' => e = .returned (.tuple #[]) ∧ w' = w) :
    FC P g [.ref 1000000000000 0 0] [(1000000000000, 1, [])] fun rv O => rv = .tup [] ∧ O = [(1000000000000, 1, [])] := by
  intro w F ρ vals fp hv hO hnd hfF hFs
  have hvl := hv.length
  have hv0 := hv.get 0
  simp only [lget] at hv0
  have hy := hv0.ref_inv
  obtain ⟨y, rfl⟩ : ∃ y, vals = [y] := by
    match vals, hvl with
    | [y], _ => exact ⟨y, rfl⟩
  simp only [List.getD_cons_zero] at hy
  subst hy
  refine (h _ _ w).mono ?_
  rintro e w' ⟨rfl, rfl⟩
  refine ⟨.tuple #[], .tup [], [(1000000000000, 1, [])], F, ρ, [], fp, rfl, ⟨rfl, rfl⟩, .tup .nil, hO, by simpa using hnd, ?_, fun b hb => hb, ?_, fun _ _ _ => rfl, Nat.le_refl _, rfl, TW.refl _, rfl, fun _ _ => rfl⟩
  · intro q hq
    exact ⟨hfF q (by simpa using hq), .inl (by simpa using hq)⟩
  · intro q hq
    exact ⟨.inl hq, hFs q hq⟩
end Eng
end Go.Proofs.YtmfbcipjknjicaaGreatDoor
