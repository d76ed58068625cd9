/- The library's sort of lists of whole numbers by a comparing function, as a contract of the logic. For all lists of the lengths that the theorem names. -/
import Derived.Shelf.SlSortCmp.NoneTotal
import Derived.Shelf.SlSortCmp.Whole1
import Derived.Test.YtmfbcipjknjicaaGreatDoorEf
import Derived.Test.YtmfbcipjknjicaaGreatDoorJ11
import Derived.Test.YtmfbcipjknjicaaGreatDoorJ6
namespace Go.Proofs.YtmfbcipjknjicaaGreatDoor
set_option linter.unusedSectionVars false
variable [One Bool]
namespace Eng
open Go.RowKit Go.Sort Go.Shelf
set_option linter.unusedSimpArgs false
set_option linter.unusedVariables false
set_option maxHeartbeats 0
set_option maxRecDepth 100000

abbrev HdL (w : World) (F : Nat → Prop) := { p : Value × List Int // FE w F 1 [RIs p.2] [p.1] }
theorem sw_old {α : Type} [Inhabited α] {enc : α → Value} {w : World} {b : Nat} {m : Nat} {dk : Array α} {os : Array Obj} {q : Nat} (hq : q < w.heap.size) (hqb : q ≠ b) : (sortWorld enc w b 0 m dk os).heap[q]? = w.heap[q]? := by
  unfold sortWorld
  simp only [grow, putRow, mapBlock, Sort.ahead]
  rw [Array.getElem?_append_left (by simp; exact hq), Array.getElem?_modify, if_neg (fun e => hqb e.symm)]
theorem sw_size {α : Type} [Inhabited α] {enc : α → Value} {w : World} {b : Nat} {m : Nat} {dk : Array α} {os : Array Obj} : w.heap.size ≤ (sortWorld enc w b 0 m dk os).heap.size := by
  unfold sortWorld
  simp only [grow, putRow, mapBlock, Sort.ahead, Array.size_append, Array.size_modify]; omega
theorem grown_of {W W' : World} (h1 : W'.os = W.os) (h2 : @TW oF W' W) (h3 : W'.output = W.output) (hb : ∀ q, q < W.heap.size → W'.heap[q]? = W.heap[q]?) (hs : W.heap.size ≤ W'.heap.size) : ∃ q os', W' = grow (W.drewN q) os' := by
  refine ⟨W'.drawn - W.drawn, W'.heap.extract W.heap.size W'.heap.size, ?_⟩
  obtain ⟨hp, tp, dr, os, out⟩ := W'
  obtain ⟨hp0, tp0, dr0, os0, out0⟩ := W
  simp only [TW] at h1 h2 h3 hb hs
  obtain ⟨h2, h4⟩ := h2
  have h4 := h4.resolve_right fun h => Bool.noConfusion (show false = true from h)
  subst h1; subst h2; subst h3
  simp only [grow, World.drewN, World.mk.injEq, and_true, true_and]
  refine ⟨?_, by omega⟩
  apply Array.ext_getElem?
  intro i
  by_cases hi : i < hp0.size
  · rw [Array.getElem?_append_left hi, hb i hi]
  · rw [Array.getElem?_append_right (by omega), Array.getElem?_extract]
    by_cases hi2 : i < hp.size
    · rw [if_pos (by omega)]; congr 1; omega
    · rw [if_neg (by omega), Array.getElem?_eq_none (by omega)]
theorem srtH_sorted {α : Type} [Inhabited α] {cf : α → α → Int} {g : α → List Int} (hcf : ∀ x y, cf x y = cmpH (g x) (g y)) {d d' : Array α} (hp : PermIn 0 d.size d d') (hs : SortedIn (ltOf cf) 0 d.size d') : d'.toList.map g = srtH (d.toList.map g) := by
  obtain ⟨h1, _, h3⟩ := hp
  have e1 : d'.extract 0 d.size = d' := by rw [← h1]; simp
  have e2 : d.extract 0 d.size = d := by simp
  rw [e1, e2] at h3
  refine srtH_of (h3.map g) ?_
  rw [List.pairwise_map, List.pairwise_iff_getElem]
  intro i j hi hj hij
  have hi' : i < d'.size := by simpa using hi
  have hj' : j < d'.size := by simpa using hj
  have := hs i j (Nat.zero_le _) hij (by rw [← h1]; exact hj')
  unfold ltOf at this
  rw [getElem!_pos d' i hi', getElem!_pos d' j hj', decide_eq_false_iff_not, hcf] at this
  have h4 := cmpH_neg (g d'[i]) (g d'[j])
  simp only [Array.getElem_toList]
  omega
theorem swo_cmpH {α : Type} {cf : α → α → Int} {g : α → List Int} (hcf : ∀ x y, cf x y = cmpH (g x) (g y)) : SWO (ltOf cf) where
  irrefl := fun x => by simp [ltOf, hcf, cmpH_zero.2 rfl]
  trans := fun x y z h1 h2 => by
    simp only [ltOf, hcf, decide_eq_true_eq] at *
    exact cmpH_trans h1 h2
  ntrans := fun x y z h1 h2 => by
    simp only [ltOf, hcf, decide_eq_false_iff_not] at *
    have a := cmpH_neg (g x) (g y)
    have b := cmpH_neg (g y) (g z)
    have c := cmpH_neg (g x) (g z)
    intro h
    rcases Int.lt_or_eq_of_le (show cmpH (g y) (g x) ≤ 0 by omega) with h3 | h3
    · have := cmpH_trans h3 h; omega
    · rw [cmpH_zero.1 h3] at h2; omega
theorem fe_lists {w : World} {F : Nat → Prop} : ∀ {l : List (List Int)} {cells : List Value}, FE w F 1 (l.map RIs) cells → ∃ d : List (HdL w F), d.map (fun x => x.1.1) = cells ∧ d.map (fun x => x.1.2) = l
  | [], cells, h => by cases h; exact ⟨[], rfl, rfl⟩
  | x :: l, cells, h => by
    rw [List.map_cons] at h
    obtain ⟨c1, c2, rfl, hc, h1, h2⟩ := h.cons_inv
    match c1, hc with
    | [y], _ =>
      obtain ⟨d, e1, e2⟩ := fe_lists h2
      exact ⟨⟨(y, x), h1⟩ :: d, by simp [e1], by simp [e2]⟩
theorem fe_of_lists {w : World} {F : Nat → Prop} : ∀ d : List (HdL w F), FE w F 1 ((d.map fun x => x.1.2).map RIs) (d.map fun x => x.1.1)
  | [] => .nil _
  | x :: d => FE.cons x.2 (fe_of_lists d)
theorem oe_fz {w F ρ} : ∀ {l : List (List Int)} {cells fp}, OE w F ρ 1 (l.map RIs) cells fp → FE w F 1 (l.map RIs) cells ∧ fp = []
  | [], cells, fp, h => by cases h; exact ⟨.nil _, rfl⟩
  | x :: l, cells, fp, h => by
    rw [List.map_cons] at h
    obtain ⟨c1, c2, f1, f2, rfl, rfl, hc, h1, h2⟩ := h.cons_inv
    match c1, hc with
    | [y], _ =>
      obtain ⟨h3, rfl⟩ := oe_fz h2
      rcases h1.single rfl with ⟨h4, rfl⟩ | ⟨_, _, _, _, _, _, _, e, _⟩ | ⟨_, _, _, e, _⟩ | ⟨_, _, _, e, _⟩ | ⟨_, e, _⟩
      · exact ⟨FE.cons h4 h3, rfl⟩
      all_goals cases e
theorem fc_sortFunc {P : Program} {R : Ren} (L : SlLaysF.n6 P R) (g : FuncId) (eg : ∀ args w, (callFunc g args).run P w = .ok (.enter g args) w) (hcmp : ∀ a b : List Int, @FCr oF P g [RIs a, RIs b] (RVi (cmpH a b)))
    (l : List (List Int)) (hlen : l.length ≤ 1099511627776) :
    FC P (R.f 6) [.ref 1000000000000 0 l.length, .v (.func (.func g) #[] #[])] [(1000000000000, 1, l.map RIs)] fun rv O => rv = .tup [] ∧ O = [(1000000000000, 1, (srtH l).map RIs)] := by
  intro w F ρ vals fp hv hO hnd hfF hFs
  have hvl := hv.length
  have hv0 := hv.get 0
  have hv1 := hv.get 1
  simp only [lget] at hv0 hv1
  have hpos := hv0.ref_pos
  have hy := hv0.ref_inv
  have hz := hv1.exact
  obtain ⟨y, z, rfl⟩ : ∃ y z, vals = [y, z] := by
    match vals, hvl with
    | [y, z], _ => exact ⟨y, z, rfl⟩
  simp only [List.getD_cons_zero, List.getD_cons_succ] at hy hz
  subst hz
  by_cases h0 : l = []
  · subst h0
    rw [List.length_nil] at hy
    subst hy
    refine (AnyF.slices_SortFunc_none { L with } _ _ _ w).mono ?_
    rintro e w' ⟨rfl, rfl⟩
    refine ⟨.tuple #[], .tup [], [(1000000000000, 1, [])], F, ρ, [], fp, rfl, ⟨rfl, by rw [show srtH [] = [] from List.eq_nil_of_length_eq_zero (srtH_len [])]; rfl⟩, .tup .nil, hO, by simpa using hnd, ?_, fun b hb => hb, ?_, fun _ _ _ => rfl, Nat.le_refl _, rfl, TW.refl _, rfl, fun _ _ => rfl⟩
    · intro q hq
      exact ⟨hfF q (by simpa using hq), .inl (by simpa using hq)⟩
    · intro q hq
      exact ⟨.inl hq, hFs q hq⟩
  generalize he : l.map RIs = els at hO
  cases hO with
  | nilb _ _ _ => exact absurd (List.map_eq_nil_iff.1 he) h0
  | cons hk hρ hρb hb hs hl hm hc heo hrest =>
    rename_i b ty c cells fp1 fp2
    have hgk := hrest.gok
    cases hrest
    subst he
    obtain ⟨hfe, rfl⟩ := oe_fz heo
    obtain ⟨dl, e1, e2⟩ := fe_lists hfe
    have hdl : dl.length = l.length := by rw [← e2]; simp
    rw [← e1] at hc
    simp only [List.length_map, Nat.mul_one] at hc hs hl
    rw [hρb, hρ] at hy
    simp only [Option.map_some, Nat.zero_mul, Nat.sub_zero] at hy
    subst hy
    have hbF : ¬ F b := hfF b (by simp)
    haveI : Inhabited (HdL w F) := ⟨dl[0]'(by rw [hdl]; exact List.length_pos_iff.2 h0)⟩
    have hone : OneCell (fun x : HdL w F => x.1.1) := fun x => x.2.one _ (by simp)
    have hlc : l.length ≤ c.size := by omega
    have hcell : ∀ j, (hj : j < dl.length) → c[j]? = some (dl[j]).1.1 := by
      intro j hj
      have h2 : (c.toList.take l.length)[j]? = some (dl[j]).1.1 := by rw [hc]; simp [hj]
      rw [List.getElem?_take_of_lt (by omega)] at h2
      simpa using h2
    have hH : Holds (fun x : HdL w F => x.1.1) w b 0 dl.toArray := by
      intro j hj
      have hj' : j < dl.length := by simpa using hj
      refine ⟨?_, ?_⟩
      · rw [Nat.zero_add]
        have e1 : w.cell? ⟨b, j, none⟩ = c[j]? := by simp [World.cell?, hb]
        rw [e1, hcell j hj']
        simp [hj']
      · simp [World.frozen?, hb]
    have hbs : b < w.heap.size := (Array.getElem?_eq_some_iff.1 hb).1
    have hcl : CmpLays1 P g #[] (fun x : HdL w F => x.1.1) (fun x y => cmpH x.1.2 y.1.2) b 0 dl.toArray.size w := by
      intro m os dk hdk x y
      have hold : ∀ q, F q → F q ∧ (sortWorld (fun x : HdL w F => x.1.1) w b 0 m dk os).heap[q]? = w.heap[q]? := fun q hq => ⟨hq, sw_old (hFs q hq) (fun e => hbF (e ▸ hq))⟩
      have hx := x.2.mono hold
      have hy := y.2.mono hold
      have hcall := hcmp x.1.2 y.1.2 (sortWorld (fun x : HdL w F => x.1.1) w b 0 m dk os) F ρ [x.1.1, y.1.1] []
        (SL.cons (fp1 := []) (fp2 := []) (.cell rfl (OE.of_FE hx)) (SL.cons (fp1 := []) (fp2 := []) (.cell rfl (OE.of_FE hy)) .nil))
        (.nil (hgk.mono hold)) (by simp) (by simp) (fun q hq => Nat.lt_of_lt_of_le (hFs q hq) sw_size)
      refine hcall.mono ?_
      rintro e w' ⟨v, rv, Oout, F', ρ', fp1, fp2, rfl, ⟨rfl, rfl⟩, hsv, _, _, _, _, _, hkeep, hsz, h1, h2, h3, _⟩
      refine ⟨by rw [hsv.exact], ?_⟩
      exact grown_of h1 h2 h3 (fun q hq => hkeep q hq (by simp)) hsz
    have hsort := Any.slices_SortFunc L (fun x : HdL w F => x.1.1) hone (fun x y => cmpH x.1.2 y.1.2) (swo_cmpH (g := fun x : HdL w F => x.1.2) fun _ _ => rfl) g #[] b 0 (ρ 1000000000000).2.2 dl.toArray w eg hcl hH hbs (by simp [hdl]; omega)
    rw [show dl.toArray.size = l.length by simp [hdl]] at hsort
    refine hsort.mono ?_
    rintro e w' ⟨rfl, d', n, os, hperm, hsorted, rfl⟩
    have hsl : d'.toList.map (fun x => x.1.2) = srtH l := by
      have := srtH_sorted (cf := fun x y : HdL w F => cmpH x.1.2 y.1.2) (g := fun x => x.1.2) (fun _ _ => rfl) (d := dl.toArray) (d' := d') (by simpa [hdl] using hperm) (by simpa [hdl] using hsorted)
      rw [this]
      exact congrArg srtH (by simpa using e2)
    have hd' : d'.size = l.length := by have := hperm.1; simpa [hdl] using this
    have hput : (sortWorld (fun x : HdL w F => x.1.1) w b 0 n d' os).heap[b]? = some (.cells (putCells (fun x : HdL w F => x.1.1) 0 d' c) ty (0, 0)) := by
      simp only [sortWorld, grow, putRow, mapBlock, Sort.ahead]
      rw [Array.getElem?_append_left (by simp; exact hbs), Array.getElem?_modify, if_pos rfl, hb]
      rfl
    have hpc : (putCells (fun x : HdL w F => x.1.1) 0 d' c).toList.take l.length = d'.toList.map fun x => x.1.1 := by
      apply List.ext_getElem?
      intro j
      by_cases hj : j < l.length
      · rw [List.getElem?_take_of_lt hj]
        have hj2 : j < d'.size := by omega
        have hjc : j < c.size := by omega
        simp [putCells, hj2, hjc]
      · rw [List.getElem?_eq_none (by simp; omega), List.getElem?_eq_none (by simp; omega)]
    have hold : ∀ q, F q → F q ∧ (sortWorld (fun x : HdL w F => x.1.1) w b 0 n d' os).heap[q]? = w.heap[q]? := fun q hq => ⟨hq, sw_old (hFs q hq) (fun e => hbF (e ▸ hq))⟩
    refine ⟨.tuple #[], .tup [], [(1000000000000, 1, (srtH l).map RIs)], F, ρ, [], [b], rfl, ⟨rfl, rfl⟩, .tup .nil, ?_, by simp, ?_, fun b hb => hb, ?_, ?_, sw_size, rfl, ⟨rfl, .inl (by simp [sortWorld, grow, putRow, mapBlock, Sort.ahead])⟩, rfl, fun _ _ => rfl⟩
    · have hfe2 : FE (sortWorld (fun x : HdL w F => x.1.1) w b 0 n d' os) F 1 ((srtH l).map RIs) (d'.toList.map fun x => x.1.1) := by
        rw [← hsl]; exact (fe_of_lists d'.toList).mono hold
      have : OL (sortWorld (fun x : HdL w F => x.1.1) w b 0 n d' os) F ρ [(1000000000000, 1, (srtH l).map RIs)] (b :: ([] ++ [])) :=
        .cons (cells := d'.toList.map fun x => x.1.1) (by omega) hρ hρb hput (by simp [putCells]; omega) (by simp [srtH_len]; omega) hm (by simpa [srtH_len] using hpc) (OE.of_FE hfe2) (.nil (hgk.mono hold))
      simpa using this
    · intro q hq
      have : q = b := by simpa using hq
      subst this
      exact ⟨hfF q (by simp), .inl (by simp)⟩
    · intro q hq
      exact ⟨.inl hq, Nat.lt_of_lt_of_le (hFs q hq) sw_size⟩
    · intro q hq hqf
      exact sw_old hq (fun e => hqf (by simp [e]))
end Eng
end Go.Proofs.YtmfbcipjknjicaaGreatDoor
/- The library's sort by a comparing function, as the shelf's contracts lay it at this program. No condition. -/
namespace Go.Proofs.YtmfbcipjknjicaaGreatDoor
set_option linter.unusedSectionVars false
variable [One Bool]
set_option maxHeartbeats 0
set_option maxRecDepth 100000
open Go.Shelf
def shelf_laysSlF6_f103_ren : Go.Shelf.Ren := ⟨fun | 6 => 116 | 15 => 111 | 14 => 139 | 28 => 133 | 29 => 134 | 20 => 151 | 21 => 152 | 22 => 153 | 23 => 154 | 24 => 155 | 25 => 156 | 26 => 157 | 27 => 158 | 46 => 160 | 47 => 144 | 48 => 145 | 49 => 161 | 50 => 162 | 57 => 163 | n => n, fun | 22 => 31 | 24 => 24 | 25 => 78 | 3 => 3 | 39 => 126 | 0 => 0 | 53 => 145 | 55 => 70 | 4 => 4 | 46 => 139 | 45 => 138 | 50 => 45 | 5 => 5 | 9 => 9 | 66 => 151 | 70 => 155 | 76 => 162 | 77 => 163 | n => n, fun | n => n⟩
theorem shelf_laysSlF6_f103 : Go.Proofs.SlLaysF.n6 Tryz.prog shelf_laysSlF6_f103_ren := {
  mixed := by kernel_rfl
  f6 := ⟨Tryz.f116.name, by decide, Tryz.func116.trans (congrArg some (by kernel_rfl))⟩
  f14 := ⟨Tryz.f139.name, by decide, Tryz.func139.trans (congrArg some (by kernel_rfl))⟩
  f15 := Tryz.func111.trans (congrArg some (by kernel_rfl))
  f20 := ⟨Tryz.f151.name, by decide, Tryz.func151.trans (congrArg some (by kernel_rfl))⟩
  f21 := ⟨Tryz.f152.name, by decide, Tryz.func152.trans (congrArg some (by kernel_rfl))⟩
  f22 := ⟨Tryz.f153.name, by decide, Tryz.func153.trans (congrArg some (by kernel_rfl))⟩
  f23 := ⟨Tryz.f154.name, by decide, Tryz.func154.trans (congrArg some (by kernel_rfl))⟩
  f24 := ⟨Tryz.f155.name, by decide, Tryz.func155.trans (congrArg some (by kernel_rfl))⟩
  f25 := ⟨Tryz.f156.name, by decide, Tryz.func156.trans (congrArg some (by kernel_rfl))⟩
  f26 := ⟨Tryz.f157.name, by decide, Tryz.func157.trans (congrArg some (by kernel_rfl))⟩
  f27 := ⟨Tryz.f158.name, by decide, Tryz.func158.trans (congrArg some (by kernel_rfl))⟩
  f28 := Tryz.func133.trans (congrArg some (by kernel_rfl))
  f29 := Tryz.func134.trans (congrArg some (by kernel_rfl))
  f46 := ⟨Tryz.f160.name, by decide, Tryz.func160.trans (congrArg some (by kernel_rfl))⟩
  f47 := Tryz.func144.trans (congrArg some (by kernel_rfl))
  f48 := Tryz.func145.trans (congrArg some (by kernel_rfl))
  f49 := ⟨Tryz.f161.name, by decide, Tryz.func161.trans (congrArg some (by kernel_rfl))⟩
  f50 := ⟨Tryz.f162.name, by decide, Tryz.func162.trans (congrArg some (by kernel_rfl))⟩
  f57 := ⟨Tryz.f163.name, by decide, Tryz.func163.trans (congrArg some (by kernel_rfl))⟩
  t0 := Tryz.underlying0
  a0 := Tryz.isAgg0
  z0 := Tryz.sizeOf0
  v0 := Tryz.zeroValue0
  t3 := Tryz.underlying3
  a3 := Tryz.isAgg3
  z3 := Tryz.sizeOf3
  v3 := Tryz.zeroValue3
  t4 := Tryz.underlying4
  a4 := Tryz.isAgg4
  z4 := Tryz.sizeOf4
  v4 := Tryz.zeroValue4
  t5 := Tryz.underlying5
  a5 := Tryz.isAgg5
  z5 := Tryz.sizeOf5
  v5 := Tryz.zeroValue5
  t9 := Tryz.underlying9
  a9 := Tryz.isAgg9
  z9 := Tryz.sizeOf9
  v9 := Tryz.zeroValue9
  t22 := Tryz.underlying31
  a22 := Tryz.isAgg31
  z22 := Tryz.sizeOf31
  v22 := Tryz.zeroValue31
  a24 := Tryz.isAgg24
  z24 := Tryz.sizeOf24
  t25 := Tryz.underlying78
  a25 := Tryz.isAgg78
  z25 := Tryz.sizeOf78
  v25 := Tryz.zeroValue78
  t39 := Tryz.underlying126
  a39 := Tryz.isAgg126
  z39 := Tryz.sizeOf126
  v39 := Tryz.zeroValue126
  t45 := Tryz.underlying138
  a45 := Tryz.isAgg138
  z45 := Tryz.sizeOf138
  v45 := Tryz.zeroValue138
  t46 := Tryz.underlying139
  a46 := Tryz.isAgg139
  z46 := Tryz.sizeOf139
  v46 := Tryz.zeroValue139
  t50 := Tryz.underlying45
  a50 := Tryz.isAgg45
  z50 := Tryz.sizeOf45
  v50 := Tryz.zeroValue45
  t53 := Tryz.underlying145
  a53 := Tryz.isAgg145
  z53 := Tryz.sizeOf145
  v53 := Tryz.zeroValue145
  t55 := Tryz.underlying70
  a55 := Tryz.isAgg70
  z55 := Tryz.sizeOf70
  v55 := Tryz.zeroValue70
  t66 := Tryz.underlying151
  a66 := Tryz.isAgg151
  z66 := Tryz.sizeOf151
  v66 := Tryz.zeroValue151
  t70 := Tryz.underlying155
  a70 := Tryz.isAgg155
  z70 := Tryz.sizeOf155
  v70 := Tryz.zeroValue155
  t76 := Tryz.underlying162
  a76 := Tryz.isAgg162
  z76 := Tryz.sizeOf162
  v76 := Tryz.zeroValue162
  t77 := Tryz.underlying163
  a77 := Tryz.isAgg163
  z77 := Tryz.sizeOf163
  v77 := Tryz.zeroValue163 }
end Go.Proofs.YtmfbcipjknjicaaGreatDoor
