/- The reference's readers of texts. For all texts. -/
import Derived.Test.YtmfbcipjknjicaaGreatDoorJ6
namespace Go.Proofs.YtmfbcipjknjicaaGreatDoor
set_option linter.unusedSectionVars false
variable [One Bool]
open Eng
attribute [local irreducible] OpS OpG FC FCr Rel Fl Ef DR Fs
set_option linter.unusedSimpArgs false
set_option maxHeartbeats 0
set_option maxRecDepth 100000

def dgsT : List UInt8 := [48, 49, 50, 51, 52, 53, 54, 55, 56, 57]
def dg (k : Nat) : List UInt8 := (dgsT.drop k).take 1
def num (n : Nat) : List UInt8 := if n < 10 then dg n else num (n / 10) ++ dg (n % 10)
theorem num_len (n : Nat) : (num n).length ≤ n + 1 := by
  induction n using Nat.strongRecOn with
  | ind n ih =>
    rw [num]
    split
    · simp [dg]
      omega
    · have := ih (n / 10) (by omega)
      simp [dg]
      omega
theorem l1Num_nat (n : Nat) (h : n ≤ 1000000000000) : FCr Tryz.prog 45 [RVn n] (RV.str (num n)) := by
  induction n using Nat.strongRecOn with
  | ind n ih =>
    rw [num]
    by_cases c : n < 10
    · rw [if_pos c]
      refine (fcr_in Tryz.func45 rfl (by simp only [Tryz.ntmps45, anys, List.length_cons, List.length_nil, Nat.reduceAdd, Nat.reduceSub, List.replicate_succ, List.replicate_zero, List.cons_append, List.nil_append] <;> rfl) ?_)
      repeat' first | apply w_seq | apply w_region | apply l_nil | apply rt_n | apply w_ret | apply rt_ret | apply w_skip | refine w_cond_t rfl ?_ | refine w_cond_f rfl ?_ | ((first | refine w_cnd rfl ?_ ?_ | refine w_cd rfl ?_ ?_ | refine w_cn rfl ?_ ?_ | refine w_cond rfl ?_ ?_) <;> intro hc) | (exfalso; omega) | (refine l_o ?_; first | refine l_op rfl (by first | (apply k_add; first | exact ops_addn (b := 1) rfl rfl (by omega) | fail) | (apply k_slice; first | exact ops_scut (p := dgsT) rfl rfl rfl (by omega) (by show _ ≤ 10; omega) (by kernel_rfl) | fail) | fail) (hk := ?_) | refine l_op (hk := ?_)) | refine d_nil ?_ | (refine d_o ?_; first | refine d_fl rfl (by first | exact .pl (by first | (apply q_add; first | exact fs_addn (b := 1) rfl rfl (by omega) | fail) | (apply q_slice; first | exact fs_scut (p := dgsT) rfl rfl rfl (by omega) (by show _ ≤ 10; omega) (by kernel_rfl) | fail) | fail) | fail) (hk := ?_) | refine d_fl (hk := ?_) | refine d_ef (hk := ?_)) | (refine w_o ?_; first | refine w_draw (id := 5) (fun _ => true) (fun k => [2].contains k) [[]] 64 (by kernel_rfl) rfl (by kernel_rfl) (by simp [nm, nset, -List.map_take, -List.map_drop]) ?_)
      refine en_one (hf := Tryz.results45) (h := ?_); simp only [lget]; first | refine congrArg RVb ?_ | refine congrArg RVi ?_ | skip
      rw [show n + 1 - n = 1 by omega]; rfl
    · rw [if_neg c]
      have hv := ih (n / 10) (by omega) (by omega)
      have hl := num_len (n / 10)
      have hq : ∀ a b, (List.take a (List.drop b dgsT)).length ≤ 10 := fun a b => by rw [List.length_take, List.length_drop]; have : dgsT.length = 10 := rfl; omega
      refine (fcr_in Tryz.func45 rfl (by simp only [Tryz.ntmps45, anys, List.length_cons, List.length_nil, Nat.reduceAdd, Nat.reduceSub, List.replicate_succ, List.replicate_zero, List.cons_append, List.nil_append] <;> rfl) ?_)
      repeat' first | apply w_seq | apply w_region | apply l_nil | apply rt_n | apply w_ret | apply rt_ret | apply w_skip | refine w_cond_t rfl ?_ | refine w_cond_f rfl ?_ | ((first | refine w_cnd rfl ?_ ?_ | refine w_cd rfl ?_ ?_ | refine w_cn rfl ?_ ?_ | refine w_cond rfl ?_ ?_) <;> intro hc) | (exfalso; omega) | (refine l_o ?_; first | refine l_op rfl (by first | (apply k_rem; first | exact ops_remn (n := 10) rfl rfl (by omega) | fail) | (apply k_quo; first | exact ops_quon (n := 10) rfl rfl (by omega) (by omega) | fail) | (apply k_add; first | exact ops_addn (b := 1) rfl rfl (by omega) | exact ops_cat (p := num (n / 10)) rfl rfl (by have := hq (n % 10 + 1 - n % 10) (n % 10); omega) | fail) | (apply k_slice; first | exact ops_scut (p := dgsT) rfl rfl rfl (by omega) (by show _ ≤ 10; omega) (by kernel_rfl) | fail) | (apply k_callf; first | exact ops_callf (hfc := hv) | fail) | fail) (hk := ?_) | refine l_op (hk := ?_)) | refine d_nil ?_ | (refine d_o ?_; first | refine d_fl rfl (by first | exact .pl (by first | (apply q_rem; first | exact fs_remn (n := 10) rfl rfl (by omega) | fail) | (apply q_quo; first | exact fs_quon (n := 10) rfl rfl (by omega) (by omega) | fail) | (apply q_add; first | exact fs_addn (b := 1) rfl rfl (by omega) | exact fs_cat (p := num (n / 10)) rfl rfl (by have := hq (n % 10 + 1 - n % 10) (n % 10); omega) | fail) | (apply q_slice; first | exact fs_scut (p := dgsT) rfl rfl rfl (by omega) (by show _ ≤ 10; omega) (by kernel_rfl) | fail) | fail) | fail) (hk := ?_) | refine d_fl (hk := ?_) | refine d_ef rfl (by first | exact .callf (hfc := hv) | fail) (hk := ?_) | refine d_ef (hk := ?_)) | (refine w_o ?_; first | refine w_draw (id := 5) (fun _ => true) (fun k => [2].contains k) [[]] 64 (by kernel_rfl) rfl (by kernel_rfl) (by simp [nm, nset, -List.map_take, -List.map_drop]) ?_)
      refine en_one (hf := Tryz.results45) (h := ?_); simp only [lget]; first | refine congrArg RVb ?_ | refine congrArg RVi ?_ | skip
      rw [show n % 10 + 1 - n % 10 = 1 by omega]; rfl
end Go.Proofs.YtmfbcipjknjicaaGreatDoor
/- The library's Join (of the rest of a list) and Itoa as contracts of the logic. Join: for lists that are not too long together; Itoa: for 0 to 99. -/
namespace Go.Proofs.YtmfbcipjknjicaaGreatDoor
set_option linter.unusedSectionVars false
variable [One Bool]
namespace Eng
open Go.RowKit
set_option linter.unusedSimpArgs false
set_option linter.unusedVariables false
set_option maxHeartbeats 0
set_option maxRecDepth 100000

theorem bytes_back (l : List (List UInt8)) : (l.map fun x => (⟨x.toArray⟩ : ByteArray)).map (·.data.toList) = l := by
  rw [List.map_map]
  have : ((fun x : ByteArray => x.data.toList) ∘ fun x : List UInt8 => (⟨x.toArray⟩ : ByteArray)) = id := by funext x; simp
  rw [this, List.map_id]
theorem fc_of_joinO {P : Program} {g : FuncId} (hJ : JT) (sep : List UInt8)
    (h : ∀ (bk o c : Nat) (xs : List ByteArray) (w : World), (∀ (j : Nat) x, xs[j]? = some x → w.cell? ⟨bk, o + j, none⟩ = some (.string x)) → bk < w.heap.size → xs.length ≤ 140737488355328 → xs.length ≤ c → (Lib.join (xs.map (·.data.toList)) sep).length ≤ 140737488355328 →
      Calls P g #[.slice (some ⟨bk, o, none⟩) xs.length c, .string ⟨sep.toArray⟩] w fun e w' => e = .returned (.string ⟨(Lib.join (xs.map (·.data.toList)) sep).toArray⟩) ∧ Below w.heap.size w w')
    (l : List (List UInt8)) (o : Nat) (h0 : l ≠ []) (ho : o ≤ l.length) (hN : l.length ≤ 140737488355328) (hlen : (Lib.join (l.drop o) sep).length ≤ 140737488355328) :
    FC P g [.ref 1000000000000 o (l.drop o).length, RV.str sep] [(1000000000000, 1, l.map RV.str)] fun rv O => rv = RV.str (Lib.join (l.drop o) sep) ∧ O = [(1000000000000, 1, l.map RV.str)] := by
  intro w F ρ vals fp hv hO hnd hfF hFs
  have hvl := hv.length
  obtain ⟨y, z, rfl⟩ : ∃ y z, vals = [y, z] := by
    match vals, hvl with
    | [y, z], _ => exact ⟨y, z, rfl⟩
  have hy := hv.get 0
  have hz := hv.get 1
  simp only [lget, List.getD_cons_zero, List.getD_cons_succ] at hy hz
  have hpos := hy.ref_pos
  have hy := hy.ref_inv
  obtain rfl := hz.exact
  obtain ⟨b, tb, C, fp1, fp2, hk, hρ, hρb, hb, hs, hcap, hm, hE, hO2, hfp⟩ := hO.head (by simpa using h0) hpos
  rw [List.length_map] at hcap hE
  obtain ⟨hcl, _⟩ := OE.enc_inv RV.str (fun x => .string ⟨x.toArray⟩) (fun _ => rfl) hE
  rw [hρb, hρ] at hy
  simp only [Option.map_some, Nat.mul_one] at hy
  subst hy
  have hbs : b < w.heap.size := (Array.getElem?_eq_some_iff.1 hb).1
  have hdl : (l.drop o).length = l.length - o := List.length_drop
  have h := h b o ((ρ 1000000000000).2.2 - o) ((l.drop o).map fun x => ⟨x.toArray⟩) w (fun j x hj => by
    rw [List.getElem?_map, Option.map_eq_some_iff] at hj
    obtain ⟨y, hj, rfl⟩ := hj
    rw [List.getElem?_drop] at hj
    have e1 : w.cell? ⟨b, o + j, none⟩ = C[o + j]? := by simp [World.cell?, hb]
    have hjl : o + j < l.length := (List.getElem?_eq_some_iff.1 hj).1
    have h2 : (C.toList.take (l.length * 1))[o + j]? = some (.string ⟨y.toArray⟩) := by rw [hcl, List.getElem?_map, hj]; rfl
    rw [List.getElem?_take_of_lt (by omega)] at h2
    rw [e1]
    simpa using h2) hbs (by simp; omega) (by simp; omega) (by rw [bytes_back]; exact hlen)
  rw [bytes_back, List.length_map] at h
  refine h.mono ?_
  rintro e w' ⟨rfl, hB⟩
  refine ⟨_, _, _, F, ρ, [], fp, rfl, ⟨rfl, rfl⟩, .one (.v _), hO.mono (fun q hq => ⟨hq, hB.block q (hFs q hq)⟩) (fun q hq => hB.block q (hO.lt q hq)), by simpa using hnd, ?_, fun _ h => h, ?_, fun q hq _ => hB.block q hq, hB.size, hB.os, ⟨hB.tape, .inr hJ⟩, hB.output, fun _ _ => rfl⟩
  · intro q hq
    exact ⟨hfF q (by simpa using hq), .inl (by simpa using hq)⟩
  · intro q hq
    exact ⟨.inl hq, Nat.lt_of_lt_of_le (hFs q hq) hB.size⟩
end Eng
open Eng
theorem joinO_ok (hJ : JT) (l : List (List UInt8)) (o : Nat) (sep : List UInt8) (h0 : l ≠ []) (ho : o ≤ l.length) (hN : l.length ≤ 140737488355328) (hlen : (Lib.join (l.drop o) sep).length ≤ 140737488355328) :
    FC Tryz.prog 62 [.ref 1000000000000 o (l.drop o).length, RV.str sep] [(1000000000000, 1, l.map RV.str)] (fun rv O => rv = RV.str (Lib.join (l.drop o) sep) ∧ O = [(1000000000000, 1, l.map RV.str)]) := by
  refine fc_of_joinO hJ sep (fun bk o c xs w h1 h2 h3 h4 h5 => ?_) l o h0 ho hN hlen
  exact Any.strings_Join shelf_lays156 shelf_Builder_Extra_156 bk o c xs ⟨sep.toArray⟩ w h1 h2 h3 h4 h5
end Go.Proofs.YtmfbcipjknjicaaGreatDoor
/- The library's Itoa as a contract of the logic, for 0 to 99. -/
namespace Go.Proofs.YtmfbcipjknjicaaGreatDoor
set_option linter.unusedSectionVars false
variable [One Bool]
open Eng Go.RowKit
set_option linter.unusedSimpArgs false
set_option linter.unusedVariables false
set_option maxHeartbeats 0
set_option maxRecDepth 100000

theorem dg_at (k : Nat) (h : k < 10) : dg k = [UInt8.ofNat (48 + k)] := by
  have : ∀ k : Fin 10, dg k.val = [UInt8.ofNat (48 + k.val)] := by decide
  exact this ⟨k, h⟩
theorem decDigits_num (n : Nat) : Lib.decDigits n = num n := by
  induction n using Nat.strongRecOn with
  | ind n ih =>
    rw [num, Lib.decDigits]
    by_cases c : n < 10
    · rw [if_pos c, dif_pos c, dg_at n c]
    · rw [if_neg c, dif_neg c, ih (n / 10) (by omega), dg_at (n % 10) (by omega)]
theorem itoa_ok (n : Nat) (hn : n < 100) : FCr Tryz.prog 43 [RVn n] (RV.str (num n)) := by
  intro w F ρ vals fp hv hO hnd hfF hFs
  have hgk := hO.gok
  cases hO
  have hvl := hv.length
  obtain ⟨x, rfl⟩ : ∃ x, vals = [x] := by
    match vals, hvl with
    | [x], _ => exact ⟨x, rfl⟩
  have hx := hv.get 0
  simp only [lget, List.getD_cons_zero] at hx
  obtain rfl := hx.exact
  refine (Any.strconv_Itoa_small shelf_lays171 n hn w).mono ?_
  rintro e w' ⟨rfl, rfl⟩
  rw [decDigits_num]
  exact ⟨_, _, _, F, ρ, [], [], rfl, ⟨rfl, rfl⟩, .one (.v _), .nil hgk, by simp, fun b hb => by simp at hb, fun b hb => hb, fun b hb => ⟨.inl hb, hFs b hb⟩, fun _ _ _ => rfl, Nat.le_refl _, rfl, TW.refl _, rfl, fun _ _ => rfl⟩
end Go.Proofs.YtmfbcipjknjicaaGreatDoor
