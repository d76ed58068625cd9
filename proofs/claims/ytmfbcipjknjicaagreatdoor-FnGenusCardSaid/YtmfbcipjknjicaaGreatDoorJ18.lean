/- Moves of a heap, in order: the program's and the reference's. For all codes and heaps of the sizes that the theorems name. -/
import Derived.Test.YtmfbcipjknjicaaGreatDoorEf
import Derived.Test.YtmfbcipjknjicaaGreatDoorHpS
import Derived.Test.YtmfbcipjknjicaaGreatDoorMisP
namespace Go.Proofs.YtmfbcipjknjicaaGreatDoor
set_option linter.unusedSectionVars false
variable [One Bool]
open Eng
attribute [local irreducible] OpS OpG FC FCr Rel Fl Ef DR Fs
attribute [local simp] RV.fzR_names
set_option linter.unusedSimpArgs false
set_option linter.unusedVariables false
set_option maxHeartbeats 0
set_option maxRecDepth 100000

theorem callFunc_enter {P : Program} {f : FuncId} (hc : callable P f = true) : ∀ args w, (callFunc f args).run P w = .ok (.enter f args) w := by
  intro args w
  unfold callable at hc
  split at hc
  · rename_i fn hfn
    simp only [Bool.and_eq_true, bne_iff_ne] at hc
    obtain ⟨bd, hb⟩ := Option.isSome_iff_exists.1 hc.1
    simp [callFunc, hfn, hc.2, hb]
  · cases hc
abbrev FCmp : RV := .v (.func (.func 117) #[] #[])
theorem sortF_ok (l : List (List Int)) (hl : l.length ≤ 1048576) : FC Tryz.prog 116 [.ref 1000000000000 0 l.length, FCmp] [(1000000000000, 1, l.map RIs)] (fun rv O => rv = .tup [] ∧ O = [(1000000000000, 1, (srtH l).map RIs)]) :=
  fc_sortFunc shelf_laysSlF6_f103 117 (callFunc_enter (by kernel_rfl)) (@compareHeaps_ok oF) l (by omega)
theorem sortedHeaps_ok (l : List (List Int)) (hl : l.length ≤ 1048576) : FC Tryz.prog 102 [.ref 1000000000000 0 l.length] [(1000000000000, 1, l.map RIs)] (fun rv O => rv = .ow 1 ((ordH l).map RIs) ∧ O = []) := by
  have hS := sortF_ok l hl
  have hC := compactF_ok (srtH l) (by rw [srtH_len]; exact hl)
  rw [srtH_len, dd_srtH] at hC
  have hol := ordH_len l
  generalize hm : ordH l = m at *
  refine (fc_in Tryz.func102 rfl (by simp only [Tryz.ntmps102, anys, List.length_cons, List.length_nil, Nat.reduceAdd, Nat.reduceSub, List.replicate_succ, List.replicate_zero, List.cons_append, List.nil_append] <;> rfl) ?_)
  repeat' first | apply w_seq | apply w_region | apply l_nil | apply rt_n | apply w_ret | apply rt_ret | apply w_skip | (refine l_o ?_; first | refine l_op rfl (by first | (apply k_callf; first | exact ops_callP (d := 4) 1000000000000 ((srtH l).map RIs) (hfc := hS) | exact ops_callG (d := 6) [1000000000000] [1000000000000] ([]) (hfc := hC) | fail) | fail) (hk := ?_) | refine l_op (hk := ?_))
  refine en_end (hf := Tryz.results102) (hr := ?_); simp only [ne, nf, nl, nr, lget, reduceIte, Nat.reduceEqDiff]; first | rfl | refine congrArg RVb ?_ | refine congrArg RVi ?_ | skip
end Go.Proofs.YtmfbcipjknjicaaGreatDoor
/- Rules of the engine: bits of small numbers. No condition. -/
namespace Go.Proofs.YtmfbcipjknjicaaGreatDoor
set_option linter.unusedSectionVars false
variable [One Bool]
namespace Eng
section
variable {P : Program} {s : St} {d : Option Tmp} {ty : TypeId} {pos : String} {after : Array Edge} {g : Option (Nat × Bool)}
theorem ops_andv {x y t u} {m : Int} {n v : Nat} (hx : s.get x = .v (.int .i64 m)) (hy : s.get y = .v (.int .i64 (n : Nat))) (h0 : 0 ≤ m ∧ m ≤ 7) (hn : n ≤ 7) (hv : m.toNat &&& n = v) : OpS P ⟨d, .binOp .and t x y u, ty, pos, after, g⟩ s ⟨sput d (.v (.int .i64 ((v : Nat) : Int))) s.fr, s.O⟩ := by
  obtain ⟨k, rfl⟩ : ∃ k : Nat, m = (k : Int) := ⟨m.toNat, by omega⟩
  have := ops_andn (P := P) (d := d) (ty := ty) (pos := pos) (after := after) (g := g) (t := t) (u := u) (s := s) (x := x) (y := y) (m := k) (n := n) hx hy (by omega) (by omega)
  rw [Int.toNat_natCast] at hv
  rwa [hv] at this
end
end Eng
theorem and1 {m : Int} (h : 0 ≤ m ∧ m ≤ 7) : m.toNat &&& 1 = if m % 2 = 1 then 1 else 0 := by
  obtain ⟨k, rfl⟩ : ∃ k : Nat, m = (k : Int) := ⟨m.toNat, by omega⟩
  have hk : k < 8 := by omega
  rw [Int.toNat_natCast]
  match k, hk with
  | 0, _ | 1, _ | 2, _ | 3, _ | 4, _ | 5, _ | 6, _ | 7, _ => decide
theorem and2 {m : Int} (h : 0 ≤ m ∧ m ≤ 7) : m.toNat &&& 2 = if m / 2 % 2 = 1 then 2 else 0 := by
  obtain ⟨k, rfl⟩ : ∃ k : Nat, m = (k : Int) := ⟨m.toNat, by omega⟩
  have hk : k < 8 := by omega
  rw [Int.toNat_natCast]
  match k, hk with
  | 0, _ | 1, _ | 2, _ | 3, _ | 4, _ | 5, _ | 6, _ | 7, _ => decide
theorem and4 {m : Int} (h : 0 ≤ m ∧ m ≤ 7) : m.toNat &&& 4 = if m / 4 % 2 = 1 then 4 else 0 := by
  obtain ⟨k, rfl⟩ : ∃ k : Nat, m = (k : Int) := ⟨m.toNat, by omega⟩
  have hk : k < 8 := by omega
  rw [Int.toNat_natCast]
  match k, hk with
  | 0, _ | 1, _ | 2, _ | 3, _ | 4, _ | 5, _ | 6, _ | 7, _ => decide
end Go.Proofs.YtmfbcipjknjicaaGreatDoor
