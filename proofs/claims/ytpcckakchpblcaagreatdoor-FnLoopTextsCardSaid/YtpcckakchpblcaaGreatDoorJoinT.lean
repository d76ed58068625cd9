/- The library's Join and Itoa as contracts of the logic. Join: for all lists that are not too long together; Itoa: for 0 to 99. -/
import Derived.Test.YtpcckakchpblcaaGreatDoorLayTxt
import Derived.Test.YtpcckakchpblcaaGreatDoorSortE
import Derived.Test.YtpcckakchpblcaaGreatDoorText
namespace Go.Proofs.YtpcckakchpblcaaGreatDoor
namespace Eng
open Go.RowKit
set_option linter.unusedSimpArgs false
set_option linter.unusedVariables false
set_option maxHeartbeats 0
set_option maxRecDepth 100000

theorem bytes_back (l : List (List UInt8)) : (l.map fun x => (⟨x.toArray⟩ : ByteArray)).map (·.data.toList) = l := by
  rw [List.map_map]
  have : ((fun x : ByteArray => x.data.toList) ∘ fun x : List UInt8 => (⟨x.toArray⟩ : ByteArray)) = id := by funext x; simp
  rw [this, List.map_id]
theorem fc_of_join {P : Program} {g : FuncId} (sep : List UInt8)
    (h : ∀ (bk o c : Nat) (xs : List ByteArray) (w : World), (∀ (j : Nat) x, xs[j]? = some x → w.cell? ⟨bk, o + j, none⟩ = some (.string x)) → bk < w.heap.size → xs.length ≤ 140737488355328 → xs.length ≤ c → (Lib.join (xs.map (·.data.toList)) sep).length ≤ 140737488355328 →
      Calls P g #[.slice (some ⟨bk, o, none⟩) xs.length c, .string ⟨sep.toArray⟩] w fun e w' => e = .returned (.string ⟨(Lib.join (xs.map (·.data.toList)) sep).toArray⟩) ∧ Below w.heap.size w w')
    (l : List (List UInt8)) (h0 : l ≠ []) (hN : l.length ≤ 140737488355328) (hlen : (Lib.join l sep).length ≤ 140737488355328) :
    FC P g [.ref 1000000000000 0 l.length, RV.str sep] [(1000000000000, 1, l.map RV.str)] fun rv O => rv = RV.str (Lib.join l sep) ∧ O = [(1000000000000, 1, l.map RV.str)] := by
  intro w F ρ vals fp hv hO hnd hfF hFs
  have hvl := hv.length
  obtain ⟨y, z, rfl⟩ : ∃ y z, vals = [y, z] := by
    match vals, hvl with
    | [y, z], _ => exact ⟨y, z, rfl⟩
  have hy := hv.get 0
  have hz := hv.get 1
  simp only [lget, List.getD_cons_zero, List.getD_cons_succ] at hy hz
  have hy := hy.ref_inv
  obtain rfl := hz.exact
  obtain ⟨b, tb, C, fp1, fp2, hk, hρ, hρb, hb, hs, hcap, hm, hE, hO2, hfp⟩ := hO.head (by simpa using h0)
  rw [List.length_map] at hcap hE
  obtain ⟨hcl, _⟩ := OE.enc_inv RV.str (fun x => .string ⟨x.toArray⟩) (fun _ => rfl) hE
  rw [hρb, hρ] at hy
  simp only [Option.map_some, Nat.zero_mul, Nat.sub_zero] at hy
  subst hy
  have hbs : b < w.heap.size := (Array.getElem?_eq_some_iff.1 hb).1
  have h := h b 0 (ρ 1000000000000).2.2 (l.map fun x => ⟨x.toArray⟩) w (fun j x hj => by
    rw [List.getElem?_map, Option.map_eq_some_iff] at hj
    obtain ⟨y, hj, rfl⟩ := hj
    have e1 : w.cell? ⟨b, 0 + j, none⟩ = C[j]? := by simp [World.cell?, hb]
    have hjl : j < l.length := (List.getElem?_eq_some_iff.1 hj).1
    have h2 : (C.toList.take (l.length * 1))[j]? = some (.string ⟨y.toArray⟩) := by rw [hcl, List.getElem?_map, hj]; rfl
    rw [List.getElem?_take_of_lt (by omega)] at h2
    rw [e1]
    simpa using h2) hbs (by simpa using hN) (by simpa using hcap) (by rw [bytes_back]; exact hlen)
  rw [bytes_back, List.length_map] at h
  refine h.mono ?_
  rintro e w' ⟨rfl, hB⟩
  refine ⟨_, _, _, F, ρ, [], fp, rfl, ⟨rfl, rfl⟩, .one (.v _), hO.mono (fun q hq => ⟨hq, hB.block q (hFs q hq)⟩) (fun q hq => hB.block q (hO.lt q hq)), by simpa using hnd, ?_, fun _ h => h, ?_, fun q hq _ => hB.block q hq, hB.size, hB.os, hB.tape, hB.output, fun _ _ => rfl⟩
  · intro q hq
    exact ⟨hfF q (by simpa using hq), .inl (by simpa using hq)⟩
  · intro q hq
    exact ⟨.inl hq, Nat.lt_of_lt_of_le (hFs q hq) hB.size⟩
/-- .. of the list without elements. -/
theorem fc_of_join0 {P : Program} {g : FuncId} (sep : List UInt8) (h : ∀ (p : Option Addr) (cap : Nat) (w : World), Calls P g #[.slice p 0 cap, .string ⟨sep.toArray⟩] w fun e w' => e = .returned (.string ⟨#[]⟩) ∧ w' = w) :
    FC P g [.ref 1000000000000 0 0, RV.str sep] [(1000000000000, 1, [])] fun rv O => rv = RV.str [] ∧ O = [(1000000000000, 1, [])] := by
  intro w F ρ vals fp hv hO hnd hfF hFs
  have hvl := hv.length
  obtain ⟨y, z, rfl⟩ : ∃ y z, vals = [y, z] := by
    match vals, hvl with
    | [y, z], _ => exact ⟨y, z, rfl⟩
  have hy := hv.get 0
  have hz := hv.get 1
  simp only [lget, List.getD_cons_zero, List.getD_cons_succ] at hy hz
  have hy := hy.ref_inv
  obtain rfl := hz.exact
  subst hy
  refine (h _ _ w).mono ?_
  rintro e w' ⟨rfl, rfl⟩
  refine ⟨_, _, _, F, ρ, [], fp, rfl, ⟨rfl, rfl⟩, .one (.v _), hO, by simpa using hnd, ?_, fun b hb => hb, ?_, fun _ _ _ => rfl, Nat.le_refl _, rfl, rfl, rfl, fun _ _ => rfl⟩
  · intro q hq
    exact ⟨hfF q (by simpa using hq), .inl (by simpa using hq)⟩
  · intro q hq
    exact ⟨.inl hq, hFs q hq⟩
end Eng
open Eng
theorem join_ok (l : List (List UInt8)) (sep : List UInt8) (hN : l.length ≤ 140737488355328) (hlen : (Lib.join l sep).length ≤ 140737488355328) :
    FC Tryz.prog 25 [.ref 1000000000000 0 l.length, RV.str sep] [(1000000000000, 1, l.map RV.str)] (fun rv O => rv = RV.str (Lib.join l sep) ∧ O = [(1000000000000, 1, l.map RV.str)]) := by
  by_cases h0 : l = []
  · subst h0
    exact fc_of_join0 sep fun p c w => Any.strings_Join_none shelf_lays156 shelf_Builder_Extra_156 p c ⟨sep.toArray⟩ w
  · refine fc_of_join sep (fun bk o c xs w h1 h2 h3 h4 h5 => ?_) l h0 hN hlen
    exact Any.strings_Join shelf_lays156 shelf_Builder_Extra_156 bk o c xs ⟨sep.toArray⟩ w h1 h2 h3 h4 h5
theorem dg_at (k : Nat) (h : k < 10) : dg k = [UInt8.ofNat (48 + k)] := by
  have : ∀ k : Fin 10, dg k.val = [UInt8.ofNat (48 + k.val)] := by decide
  exact this ⟨k, h⟩
theorem decDigits_num (n : Nat) : Lib.decDigits n = num n := by
  induction n using Nat.strongRecOn with
  | ind n ih =>
    rw [num, Lib.decDigits]
    by_cases c : n < 10
    · rw [if_pos c, dif_pos c, dg_at n c]
    · rw [if_neg c, dif_neg c, ih (n / 10) (by omega), dg_at (n % 10) (by omega)]
theorem itoa_ok (n : Nat) (hn : n < 100) : FCr Tryz.prog 46 [RVn n] (RV.str (num n)) := by
  intro w F ρ vals fp hv hO hnd hfF hFs
  have hgk := hO.gok
  cases hO
  have hvl := hv.length
  obtain ⟨x, rfl⟩ : ∃ x, vals = [x] := by
    match vals, hvl with
    | [x], _ => exact ⟨x, rfl⟩
  have hx := hv.get 0
  simp only [lget, List.getD_cons_zero] at hx
  obtain rfl := hx.exact
  refine (Any.strconv_Itoa_small shelf_lays171 n hn w).mono ?_
  rintro e w' ⟨rfl, rfl⟩
  rw [decDigits_num]
  exact ⟨_, _, _, F, ρ, [], [], rfl, ⟨rfl, rfl⟩, .one (.v _), .nil hgk, by simp, fun b hb => by simp at hb, fun b hb => hb, fun b hb => ⟨.inl hb, hFs b hb⟩, fun _ _ _ => rfl, Nat.le_refl _, rfl, rfl, rfl, fun _ _ => rfl⟩
end Go.Proofs.YtpcckakchpblcaaGreatDoor
