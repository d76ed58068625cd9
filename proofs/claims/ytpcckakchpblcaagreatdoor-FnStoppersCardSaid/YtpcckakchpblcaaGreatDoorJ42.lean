/- The library's Join and Itoa, as the shelf's contracts lay them at this program. No condition. -/
import Derived.Shelf.Strings.OnBuilder
import Derived.Shelf.LaysM
import Derived.Shelf.Strconv.Itoa3
import Derived.Test.YtpcckakchpblcaaGreatDoorJ15
import Derived.Test.YtpcckakchpblcaaGreatDoorJ21
import Derived.Test.YtpcckakchpblcaaGreatDoorJ8
namespace Go.Proofs.YtpcckakchpblcaaGreatDoor
set_option maxHeartbeats 0
set_option maxRecDepth 100000
open Go.Shelf
def shelf_lays156_ren : Go.Shelf.Ren := ⟨fun | 156 => 25 | 165 => 47 | 166 => 48 | 169 => 49 | 240 => 71 | 241 => 72 | 276 => 84 | 277 => 85 | n => n, fun | 31 => 51 | 9 => 9 | 3 => 3 | 4 => 4 | 0 => 0 | 20 => 20 | 72 => 75 | 76 => 79 | 70 => 73 | 37 => 22 | 75 => 78 | 127 => 101 | 164 => 109 | 5 => 5 | 80 => 81 | n => n, fun | n => n⟩
theorem shelf_lays156 : Go.Proofs.Lays.n156 Tryz.prog shelf_lays156_ren := {
  mixed := by kernel_rfl
  f156 := Tryz.func25.trans (congrArg some (by kernel_rfl))
  f165 := Tryz.func47.trans (congrArg some (by kernel_rfl))
  f166 := Tryz.func48.trans (congrArg some (by kernel_rfl))
  f169 := Tryz.func49.trans (congrArg some (by kernel_rfl))
  f240 := Tryz.func71.trans (congrArg some (by kernel_rfl))
  f241 := Tryz.func72.trans (congrArg some (by kernel_rfl))
  f276 := Tryz.func84.trans (congrArg some (by kernel_rfl))
  f277 := Tryz.func85.trans (congrArg some (by kernel_rfl))
  t0 := Tryz.underlying0
  a0 := Tryz.isAgg0
  z0 := Tryz.sizeOf0
  v0 := Tryz.zeroValue0
  t3 := Tryz.underlying3
  a3 := Tryz.isAgg3
  z3 := Tryz.sizeOf3
  v3 := Tryz.zeroValue3
  t4 := Tryz.underlying4
  a4 := Tryz.isAgg4
  z4 := Tryz.sizeOf4
  v4 := Tryz.zeroValue4
  t9 := Tryz.underlying9
  a9 := Tryz.isAgg9
  z9 := Tryz.sizeOf9
  v9 := Tryz.zeroValue9
  t20 := Tryz.underlying20
  a20 := Tryz.isAgg20
  z20 := Tryz.sizeOf20
  v20 := Tryz.zeroValue20
  t31 := Tryz.underlying51
  a31 := Tryz.isAgg51
  z31 := Tryz.sizeOf51
  v31 := Tryz.zeroValue51
  t37 := Tryz.underlying22
  a37 := Tryz.isAgg22
  z37 := Tryz.sizeOf22
  v37 := Tryz.zeroValue22
  t70 := Tryz.underlying73
  a70 := Tryz.isAgg73
  z70 := Tryz.sizeOf73
  v70 := Tryz.zeroValue73
  t72 := Tryz.underlying75
  a72 := Tryz.isAgg75
  z72 := Tryz.sizeOf75
  v72 := Tryz.zeroValue75
  t75 := Tryz.underlying78
  a75 := Tryz.isAgg78
  z75 := Tryz.sizeOf78
  v75 := Tryz.zeroValue78
  t76 := Tryz.underlying79
  a76 := Tryz.isAgg79
  z76 := Tryz.sizeOf79
  v76 := Tryz.zeroValue79
  t127 := Tryz.underlying101
  a127 := Tryz.isAgg101
  z127 := Tryz.sizeOf101
  v127 := Tryz.zeroValue101
  t164 := Tryz.underlying109
  a164 := Tryz.isAgg109
  z164 := Tryz.sizeOf109
  v164 := Tryz.zeroValue109 }
theorem shelf_Builder_Extra_156 : Builder.Extra Tryz.prog shelf_lays156_ren := {
  sizeBuilder := by kernel_rfl
  liesBuilder := by kernel_rfl
  t5 := Tryz.underlying5
  a5 := Tryz.isAgg5
  z5 := Tryz.sizeOf5
  v5 := Tryz.zeroValue5
  infoByte := by kernel_rfl
  cellsByte := by kernel_rfl
  sizeByte := by kernel_rfl
  neB5 := by decide }
def shelf_lays171_ren : Go.Shelf.Ren := ⟨fun | 171 => 46 | 243 => 70 | 246 => 83 | 283 => 112 | 284 => 113 | 285 => 114 | 286 => 115 | 129 => 108 | 317 => 129 | 318 => 130 | 319 => 131 | 320 => 132 | 337 => 136 | 338 => 137 | n => n, fun | 3 => 3 | 9 => 9 | 2 => 2 | 4 => 4 | 171 => 136 | 0 => 0 | 53 => 47 | 37 => 22 | 5 => 5 | 173 => 138 | 212 => 156 | 51 => 131 | 20 => 20 | 213 => 157 | 46 => 107 | 232 => 170 | 233 => 171 | n => n, fun | 17 => 3 | 18 => 6 | 19 => 7 | n => n⟩
theorem shelf_lays171 : Go.Proofs.Lays.n171 Tryz.prog shelf_lays171_ren := {
  mixed := by kernel_rfl
  f129 := Tryz.func108.trans (congrArg some (by kernel_rfl))
  f171 := Tryz.func46.trans (congrArg some (by kernel_rfl))
  f243 := Tryz.func70.trans (congrArg some (by kernel_rfl))
  f246 := Tryz.func83.trans (congrArg some (by kernel_rfl))
  f283 := Tryz.func112.trans (congrArg some (by kernel_rfl))
  f284 := Tryz.func113.trans (congrArg some (by kernel_rfl))
  f285 := Tryz.func114.trans (congrArg some (by kernel_rfl))
  f286 := Tryz.func115.trans (congrArg some (by kernel_rfl))
  f317 := Tryz.func129.trans (congrArg some (by kernel_rfl))
  f318 := Tryz.func130.trans (congrArg some (by kernel_rfl))
  f319 := Tryz.func131.trans (congrArg some (by kernel_rfl))
  f320 := Tryz.func132.trans (congrArg some (by kernel_rfl))
  f337 := Tryz.func136.trans (congrArg some (by kernel_rfl))
  f338 := Tryz.func137.trans (congrArg some (by kernel_rfl))
  t0 := Tryz.underlying0
  a0 := Tryz.isAgg0
  z0 := Tryz.sizeOf0
  v0 := Tryz.zeroValue0
  t2 := Tryz.underlying2
  a2 := Tryz.isAgg2
  z2 := Tryz.sizeOf2
  v2 := Tryz.zeroValue2
  t3 := Tryz.underlying3
  a3 := Tryz.isAgg3
  z3 := Tryz.sizeOf3
  v3 := Tryz.zeroValue3
  t4 := Tryz.underlying4
  a4 := Tryz.isAgg4
  z4 := Tryz.sizeOf4
  v4 := Tryz.zeroValue4
  t5 := Tryz.underlying5
  a5 := Tryz.isAgg5
  z5 := Tryz.sizeOf5
  v5 := Tryz.zeroValue5
  t9 := Tryz.underlying9
  a9 := Tryz.isAgg9
  z9 := Tryz.sizeOf9
  v9 := Tryz.zeroValue9
  t20 := Tryz.underlying20
  a20 := Tryz.isAgg20
  z20 := Tryz.sizeOf20
  v20 := Tryz.zeroValue20
  t37 := Tryz.underlying22
  a37 := Tryz.isAgg22
  z37 := Tryz.sizeOf22
  v37 := Tryz.zeroValue22
  t46 := Tryz.underlying107
  a46 := Tryz.isAgg107
  z46 := Tryz.sizeOf107
  v46 := Tryz.zeroValue107
  t51 := Tryz.underlying131
  a51 := Tryz.isAgg131
  z51 := Tryz.sizeOf131
  v51 := Tryz.zeroValue131
  t53 := Tryz.underlying47
  a53 := Tryz.isAgg47
  z53 := Tryz.sizeOf47
  v53 := Tryz.zeroValue47
  t171 := Tryz.underlying136
  a171 := Tryz.isAgg136
  z171 := Tryz.sizeOf136
  v171 := Tryz.zeroValue136
  t173 := Tryz.underlying138
  a173 := Tryz.isAgg138
  z173 := Tryz.sizeOf138
  v173 := Tryz.zeroValue138
  t212 := Tryz.underlying156
  a212 := Tryz.isAgg156
  z212 := Tryz.sizeOf156
  v212 := Tryz.zeroValue156
  t213 := Tryz.underlying157
  a213 := Tryz.isAgg157
  z213 := Tryz.sizeOf157
  t232 := Tryz.underlying170
  a232 := Tryz.isAgg170
  z232 := Tryz.sizeOf170
  v232 := Tryz.zeroValue170
  t233 := Tryz.underlying171
  a233 := Tryz.isAgg171
  z233 := Tryz.sizeOf171
  v233 := Tryz.zeroValue171
  g17 := by kernel_rfl
  g18 := by kernel_rfl
  g19 := by kernel_rfl }
end Go.Proofs.YtpcckakchpblcaaGreatDoor
/- The library's Join and Itoa as contracts of the logic. Join: for all lists that are not too long together; Itoa: for 0 to 99. -/
namespace Go.Proofs.YtpcckakchpblcaaGreatDoor
namespace Eng
open Go.RowKit
set_option linter.unusedSimpArgs false
set_option linter.unusedVariables false
set_option maxHeartbeats 0
set_option maxRecDepth 100000

theorem bytes_back (l : List (List UInt8)) : (l.map fun x => (⟨x.toArray⟩ : ByteArray)).map (·.data.toList) = l := by
  rw [List.map_map]
  have : ((fun x : ByteArray => x.data.toList) ∘ fun x : List UInt8 => (⟨x.toArray⟩ : ByteArray)) = id := by funext x; simp
  rw [this, List.map_id]
theorem fc_of_join {P : Program} {g : FuncId} (sep : List UInt8)
    (h : ∀ (bk o c : Nat) (xs : List ByteArray) (w : World), (∀ (j : Nat) x, xs[j]? = some x → w.cell? ⟨bk, o + j, none⟩ = some (.string x)) → bk < w.heap.size → xs.length ≤ 140737488355328 → xs.length ≤ c → (Lib.join (xs.map (·.data.toList)) sep).length ≤ 140737488355328 →
      Calls P g #[.slice (some ⟨bk, o, none⟩) xs.length c, .string ⟨sep.toArray⟩] w fun e w' => e = .returned (.string ⟨(Lib.join (xs.map (·.data.toList)) sep).toArray⟩) ∧ Below w.heap.size w w')
    (l : List (List UInt8)) (h0 : l ≠ []) (hN : l.length ≤ 140737488355328) (hlen : (Lib.join l sep).length ≤ 140737488355328) :
    FC P g [.ref 1000000000000 0 l.length, RV.str sep] [(1000000000000, 1, l.map RV.str)] fun rv O => rv = RV.str (Lib.join l sep) ∧ O = [(1000000000000, 1, l.map RV.str)] := by
  intro w F ρ vals fp hv hO hnd hfF hFs
  have hvl := hv.length
  obtain ⟨y, z, rfl⟩ : ∃ y z, vals = [y, z] := by
    match vals, hvl with
    | [y, z], _ => exact ⟨y, z, rfl⟩
  have hy := hv.get 0
  have hz := hv.get 1
  simp only [lget, List.getD_cons_zero, List.getD_cons_succ] at hy hz
  have hy := hy.ref_inv
  obtain rfl := hz.exact
  obtain ⟨b, tb, C, fp1, fp2, hk, hρ, hρb, hb, hs, hcap, hm, hE, hO2, hfp⟩ := hO.head (by simpa using h0)
  rw [List.length_map] at hcap hE
  obtain ⟨hcl, _⟩ := OE.enc_inv RV.str (fun x => .string ⟨x.toArray⟩) (fun _ => rfl) hE
  rw [hρb, hρ] at hy
  simp only [Option.map_some, Nat.zero_mul, Nat.sub_zero] at hy
  subst hy
  have hbs : b < w.heap.size := (Array.getElem?_eq_some_iff.1 hb).1
  have h := h b 0 (ρ 1000000000000).2.2 (l.map fun x => ⟨x.toArray⟩) w (fun j x hj => by
    rw [List.getElem?_map, Option.map_eq_some_iff] at hj
    obtain ⟨y, hj, rfl⟩ := hj
    have e1 : w.cell? ⟨b, 0 + j, none⟩ = C[j]? := by simp [World.cell?, hb]
    have hjl : j < l.length := (List.getElem?_eq_some_iff.1 hj).1
    have h2 : (C.toList.take (l.length * 1))[j]? = some (.string ⟨y.toArray⟩) := by rw [hcl, List.getElem?_map, hj]; rfl
    rw [List.getElem?_take_of_lt (by omega)] at h2
    rw [e1]
    simpa using h2) hbs (by simpa using hN) (by simpa using hcap) (by rw [bytes_back]; exact hlen)
  rw [bytes_back, List.length_map] at h
  refine h.mono ?_
  rintro e w' ⟨rfl, hB⟩
  refine ⟨_, _, _, F, ρ, [], fp, rfl, ⟨rfl, rfl⟩, .one (.v _), hO.mono (fun q hq => ⟨hq, hB.block q (hFs q hq)⟩) (fun q hq => hB.block q (hO.lt q hq)), by simpa using hnd, ?_, fun _ h => h, ?_, fun q hq _ => hB.block q hq, hB.size, hB.os, hB.tape, hB.output, fun _ _ => rfl⟩
  · intro q hq
    exact ⟨hfF q (by simpa using hq), .inl (by simpa using hq)⟩
  · intro q hq
    exact ⟨.inl hq, Nat.lt_of_lt_of_le (hFs q hq) hB.size⟩
/-- .. of the list without elements. -/
theorem fc_of_join0 {P : Program} {g : FuncId} (sep : List UInt8) (h : ∀ (p : Option Addr) (cap : Nat) (w : World), Calls P g #[.slice p 0 cap, .string ⟨sep.toArray⟩] w fun e w' => e = .returned (.string ⟨#[]⟩) ∧ w' = w) :
    FC P g [.ref 1000000000000 0 0, RV.str sep] [(1000000000000, 1, [])] fun rv O => rv = RV.str [] ∧ O = [(1000000000000, 1, [])] := by
  intro w F ρ vals fp hv hO hnd hfF hFs
  have hvl := hv.length
  obtain ⟨y, z, rfl⟩ : ∃ y z, vals = [y, z] := by
    match vals, hvl with
    | [y, z], _ => exact ⟨y, z, rfl⟩
  have hy := hv.get 0
  have hz := hv.get 1
  simp only [lget, List.getD_cons_zero, List.getD_cons_succ] at hy hz
  have hy := hy.ref_inv
  obtain rfl := hz.exact
  subst hy
  refine (h _ _ w).mono ?_
  rintro e w' ⟨rfl, rfl⟩
  refine ⟨_, _, _, F, ρ, [], fp, rfl, ⟨rfl, rfl⟩, .one (.v _), hO, by simpa using hnd, ?_, fun b hb => hb, ?_, fun _ _ _ => rfl, Nat.le_refl _, rfl, rfl, rfl, fun _ _ => rfl⟩
  · intro q hq
    exact ⟨hfF q (by simpa using hq), .inl (by simpa using hq)⟩
  · intro q hq
    exact ⟨.inl hq, hFs q hq⟩
end Eng
open Eng
theorem join_ok (l : List (List UInt8)) (sep : List UInt8) (hN : l.length ≤ 140737488355328) (hlen : (Lib.join l sep).length ≤ 140737488355328) :
    FC Tryz.prog 25 [.ref 1000000000000 0 l.length, RV.str sep] [(1000000000000, 1, l.map RV.str)] (fun rv O => rv = RV.str (Lib.join l sep) ∧ O = [(1000000000000, 1, l.map RV.str)]) := by
  by_cases h0 : l = []
  · subst h0
    exact fc_of_join0 sep fun p c w => Any.strings_Join_none shelf_lays156 shelf_Builder_Extra_156 p c ⟨sep.toArray⟩ w
  · refine fc_of_join sep (fun bk o c xs w h1 h2 h3 h4 h5 => ?_) l h0 hN hlen
    exact Any.strings_Join shelf_lays156 shelf_Builder_Extra_156 bk o c xs ⟨sep.toArray⟩ w h1 h2 h3 h4 h5
theorem dg_at (k : Nat) (h : k < 10) : dg k = [UInt8.ofNat (48 + k)] := by
  have : ∀ k : Fin 10, dg k.val = [UInt8.ofNat (48 + k.val)] := by decide
  exact this ⟨k, h⟩
theorem decDigits_num (n : Nat) : Lib.decDigits n = num n := by
  induction n using Nat.strongRecOn with
  | ind n ih =>
    rw [num, Lib.decDigits]
    by_cases c : n < 10
    · rw [if_pos c, dif_pos c, dg_at n c]
    · rw [if_neg c, dif_neg c, ih (n / 10) (by omega), dg_at (n % 10) (by omega)]
theorem itoa_ok (n : Nat) (hn : n < 100) : FCr Tryz.prog 46 [RVn n] (RV.str (num n)) := by
  intro w F ρ vals fp hv hO hnd hfF hFs
  have hgk := hO.gok
  cases hO
  have hvl := hv.length
  obtain ⟨x, rfl⟩ : ∃ x, vals = [x] := by
    match vals, hvl with
    | [x], _ => exact ⟨x, rfl⟩
  have hx := hv.get 0
  simp only [lget, List.getD_cons_zero] at hx
  obtain rfl := hx.exact
  refine (Any.strconv_Itoa_small shelf_lays171 n hn w).mono ?_
  rintro e w' ⟨rfl, rfl⟩
  rw [decDigits_num]
  exact ⟨_, _, _, F, ρ, [], [], rfl, ⟨rfl, rfl⟩, .one (.v _), .nil hgk, by simp, fun b hb => by simp at hb, fun b hb => hb, fun b hb => ⟨.inl hb, hFs b hb⟩, fun _ _ _ => rfl, Nat.le_refl _, rfl, rfl, rfl, fun _ _ => rfl⟩
end Go.Proofs.YtpcckakchpblcaaGreatDoor
