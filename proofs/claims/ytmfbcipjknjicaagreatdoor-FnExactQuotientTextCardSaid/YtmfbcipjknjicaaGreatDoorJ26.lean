/- Calls of which it is told only that their results are of some form: contracts with 'there is'. No condition. -/
import Derived.Test.YtmfbcipjknjicaaGreatDoorEf
import Derived.Test.YtmfbcipjknjicaaGreatDoorHpG
import Derived.Test.YtmfbcipjknjicaaGreatDoorJ6
import Derived.Test.YtmfbcipjknjicaaGreatDoorMisV
import Derived.Test.YtmfbcipjknjicaaGreatDoorMp
namespace Go.Proofs.YtmfbcipjknjicaaGreatDoor
open Eng
set_option linter.unusedSimpArgs false
set_option maxHeartbeats 0
set_option maxRecDepth 100000
namespace Eng
open Go.RowKit
section
variable {P : Program} {s : St} {d : Tmp} {ty : TypeId} {pos : String} {after : Array Edge} {g : Option (Nat × Bool)}
/-- An operation behind which the state is one of several. -/
def OpX {ι : Type} (P : Program) (o : Oper) (s : St) (C : ι → Prop) (S : ι → St) : Prop :=
  ∀ E a w, Rel E s a w → ∀ (K : Act → World → Prop) (Q : Exit → Act → World → Prop), (∀ x, C x → ∀ a' w', Rel E (S x) a' w' → K a' w') → o.wp P a w K Q
theorem l_opx {ι : Type} {ops o rest R} {C : ι → Prop} {S : ι → St} (hg : o.guard = none) (h : OpX P o s C S) (hk : ∀ x, C x → L P ops rest R (S x)) : L P ops (o :: rest) R s :=
  ⟨fun E a w hr Q hQ => wpList_plain hg fun K hK => h E a w hr K Q fun x hx a' w' hr' => hK _ _ ((hk x hx).out E a' w' hr' Q hQ)⟩
theorem en_mono {fn Post Post' e} (h : EN P fn Post e s) (hp : ∀ rv O, Post rv O → Post' rv O) : EN P fn Post' e s := by
  refine ⟨?_⟩
  have h1 := h.out
  cases e with
  | normal =>
    intro E a w hr
    obtain ⟨v, rv, Oo, F, ρ, fp1, fp2, h2, h3, h4⟩ := h1 E a w hr
    exact ⟨v, rv, Oo, F, ρ, fp1, fp2, h2, hp _ _ h3, h4⟩
  | ret =>
    intro E a w hr
    obtain ⟨v, rv, Oo, F, ρ, fp1, fp2, h2, h3, h4⟩ := h1 E a w hr
    exact ⟨v, rv, Oo, F, ρ, fp1, fp2, h2, hp _ _ h3, h4⟩
  | _ => exact h1
/-- The end of a function whose contract says 'there is'. -/
theorem en_ex {ι : Type} {C : ι → Prop} {r : ι → RV} {Oout : ι → List Bk} {fn e} (x : ι) (hC : C x) (h : EN P fn (fun rv O => rv = r x ∧ O = Oout x) e s) : EN P fn (fun rv O => ∃ x, C x ∧ rv = r x ∧ O = Oout x) e s :=
  en_mono h fun _ _ hh => ⟨x, hC, hh.1, hh.2⟩
end
end Eng
end Go.Proofs.YtmfbcipjknjicaaGreatDoor
/- Calls whose result comes with one new block: a map. No condition. -/
namespace Go.Proofs.YtmfbcipjknjicaaGreatDoor
open Eng
set_option linter.unusedSimpArgs false
set_option linter.unusedVariables false
set_option maxHeartbeats 0
set_option maxRecDepth 100000
namespace Eng
open Go.RowKit
section
variable {P : Program} {s : St} {d : Tmp} {ty : TypeId} {pos : String} {after : Array Edge} {g : Option (Nat × Bool)}
theorem opx_callM {ι : Type} {C : ι → Prop} {r : ι → RV} {els : ι → List RV} {k n0 : Nat} {f args ats argsR} (m : Nat)
    (hfc : FC P f argsR [] fun rv O' => ∃ x, C x ∧ rv = r x ∧ O' = [(n0, k, els x)])
    (hargs : args.toList.map s.get = argsR) (hnt : (args.toList.map s.get).all RV.notTup = true) (hna : RV.namesL argsR = []) (hc : callable P f = true)
    (hels : ∀ x, RV.namesL (els x) = []) (hr : ∀ x, (r x).resOkT = true) (hop : ∀ x, openR d (r x) = (r x, [])) (hm : m < 1000000000000 ∧ m ∉ RV.namesL s.fr) (hmO : m ∉ onames s.O) :
    OpX P ⟨some d, .call ⟨.value (.func f), args, ats⟩, ty, pos, after, none⟩ s C fun x => ⟨lset s.fr d (r x), (m, k, els x) :: s.O⟩ := by
  rintro E a w ⟨F, ρ, fp, h⟩ K Q hK
  have hA : SL w F ρ argsR (args.toList.map a.eval) [] := hargs ▸ h.args args.toList hnt
  simp only [Oper.wp, run_call (a := a) (w := w) (o := ⟨some d, .call ⟨.value (.func f), args, ats⟩, ty, pos, after, none⟩) rfl hc, Oper.upon_enter]
  have hgk := h.O.gok
  have hcall := hfc w F ρ (args.toList.map a.eval) [] hA (.nil hgk) (by simp) (by simp) h.Fs
  rw [show (args.map a.eval) = (args.toList.map a.eval).toArray from Array.ext' (by rw [Array.toList_map])]
  refine hcall.mono ?_
  rintro e w' ⟨v, rv, Oout', F', ρ', fp1, fp2, rfl, ⟨x, hCx, rfl, rfl⟩, hsv, hO2, hnd, hfpX, hF, hF', hb, hsz, h1, h2, h3, hpin⟩
  have hnd1 := List.nodup_append.1 hnd
  have hb2 : ∀ b, b < w.heap.size → w'.heap[b]? = w.heap[b]? := fun b hlt => hb b hlt (by simp)
  have hF2 : ∀ b, F' b → (F b ∨ w.heap.size ≤ b) ∧ b < w'.heap.size := fun b hx => by
    have := hF' b hx
    simpa using this
  have hw := h.world hF hF2 hb2 hsz h1 h2 h3
  have hnew : ∀ b, b ∈ fp1 ∨ b ∈ fp2 → ¬ F' b ∧ w.heap.size ≤ b := fun b hx => by
    have := hfpX b (by simpa using hx)
    simpa using this
  let ρ2 : Places := fun q => if q = m then ρ' n0 else ρ q
  have hne : ∀ q, q ≠ m → ρ2 q = ρ q := fun q hq => by simp [ρ2, hq]
  have hO3 : OL w' F' ρ2 [(m, k, els x)] fp2 := by
    have := hO2.ren (ρ' := ρ2) (fun q => if q = n0 then m else q) fun q hq => by
      simp [onames, hels x] at hq
      subst hq
      simp [ρ2]
    simpa [renO, renL_id (hels x)] using this
  have hsO := hw.O.places (ρ' := ρ2) fun q hq => hne q fun e => hmO (e ▸ hq)
  have hx : RelX E ⟨s.fr, (m, k, els x) :: s.O⟩ a w' F' ρ2 (fp2 ++ fp) := by
    refine ⟨hw.defers, hw.size, fun i => (hw.fr i).places fun q hq => hne q (fun e => hm.2 (e ▸ names_lget _ _ _ hq)), hO3.join hsO, ?_, ?_, ?_, hw.F0, hw.Fn, hw.Fs, hw.keep, hw.hsize, hw.os, hw.tape, hw.output, fun n hn => (hne n (fun e => by subst e; omega)).trans (hw.pin n hn)⟩
    · refine List.nodup_append.2 ⟨hnd1.2.1, h.nodup, fun y hy z hz e => ?_⟩
      subst e
      have := (hnew y (.inr hy)).2
      have := h.O.lt y hz
      omega
    · intro b hx
      rcases List.mem_append.1 hx with hx | hx
      · exact (hnew b (.inr hx)).1
      · exact hw.fpF b hx
    · intro b hx
      rcases List.mem_append.1 hx with hx | hx
      · exact .inr (Nat.le_trans h.hsize (hnew b (.inr hx)).2)
      · exact h.fpE b hx
  obtain ⟨ρ3, hOp, hS⟩ := (hsv.places (ρ' := ρ2) fun q hq => by rw [RV.resOkT_names (hr x)] at hq; cases hq).opn d (hr x) (by rw [hop x]; simp [bnames])
  rw [hop x] at hOp hS
  obtain ⟨fp', hy⟩ := hx.opens hOp (by simp [bnames]) (List.nodup_append.2 ⟨hnd1.1, hx.nodup, fun y hy z hz e => by
    subst e
    rcases List.mem_append.1 hz with hz | hz
    · exact hnd1.2.2 y hy y hz rfl
    · have := (hnew y (.inl hy)).2
      have := h.O.lt y hz
      omega⟩) (fun y hy => ⟨(hnew y (.inl hy)).1, .inr (Nat.le_trans h.hsize (hnew y (.inl hy)).2)⟩)
  exact hK x hCx _ _ ⟨F', ρ3, fp', hy.put (some d) hS⟩
theorem l_callM {ι : Type} {ops : Array Oper} {rest R} {fr : List RV} {O : List Bk} {C : ι → Prop} {r : ι → RV} {els : ι → List RV} {k n0 : Nat} {f args ats argsR}
    (hfc : FC P f argsR [] fun rv O' => ∃ x, C x ∧ rv = r x ∧ O' = [(n0, k, els x)])
    (hargs : args.toList.map (⟨fr, O⟩ : St).get = argsR := by rfl) (hnt : (args.toList.map (⟨fr, O⟩ : St).get).all RV.notTup = true := by rfl) (hna : RV.namesL argsR = [] := by simp [nm]) (hc : callable P f = true := by kernel_rfl)
    (hels : ∀ x, RV.namesL (els x) = [] := by intro x; simp [nm]) (hr : ∀ x, (r x).resOkT = true := by intro x; simp [RV.resOkT, RV.resOk, RV.isAgg, nm]) (hop : ∀ x, openR d (r x) = (r x, []) := by intro x; rfl)
    (hm : d < 1000000000000 ∧ d ∉ RV.namesL fr := by simp [nm]) (hmO : d ∉ onames O := by simp [nm, onames]) {fr' : ι → List RV} (e : ∀ x, lset fr d (r x) = fr' x := by intro x; simp only [lset] <;> rfl)
    (hk : ∀ x, C x → L P ops rest R ⟨fr' x, (d, k, els x) :: O⟩) : L P ops (⟨some d, .call ⟨.value (.func f), args, ats⟩, ty, pos, after, none⟩ :: rest) R ⟨fr, O⟩ :=
  l_opx rfl (opx_callM d hfc hargs hnt hna hc hels hr hop hm hmO) fun x hx => by have := hk x hx; rw [← e x] at this; exact this
end
end Eng
end Go.Proofs.YtmfbcipjknjicaaGreatDoor
/- The program's new memo, and a position's misere value. For all arguments. -/
namespace Go.Proofs.YtmfbcipjknjicaaGreatDoor
open Eng
attribute [local irreducible] OpS OpG FC FCr Rel Fl Ef DR Fs
attribute [local simp] RV.fzR_names
set_option linter.unusedSimpArgs false
set_option linter.unusedVariables false
set_option maxHeartbeats 0
set_option maxRecDepth 100000

theorem newMisere_ok (c : List Int) : FC Tryz.prog 32 [RIs c] [] fun rv O => ∃ b : Nat, True ∧ rv = .agg [RIs c, .v (.map (some b))] ∧ O = [(4, 0, MSI b [])] := by
  refine (fc_in Tryz.func32 rfl (by simp only [Tryz.ntmps32, anys, List.length_cons, List.length_nil, Nat.reduceAdd, Nat.reduceSub, List.replicate_succ, List.replicate_zero, List.cons_append, List.nil_append] <;> rfl) ?_)
  repeat' first
    | refine w_seq ?_
    | refine w_region ?_
    | refine l_nil ?_
    | refine rt_n ?_
    | refine w_ret ?_
    | refine rt_ret ?_
    | refine w_skip ?_
    | (refine l_o ?_; first | refine l_op (hk := ?_))
  refine l_makeSI (hk := fun b => ?_)
  repeat' first
    | refine w_seq ?_
    | refine w_region ?_
    | refine l_nil ?_
    | refine rt_n ?_
    | refine w_ret ?_
    | refine rt_ret ?_
    | refine w_skip ?_
    | (refine l_o ?_; first | refine l_op (hk := ?_))
  refine en_ex b trivial ?_
  refine en_le _ (le_perm [2, 4] rfl rfl) ?_
  refine en_endm ([(2, 2, [RV.agg [RIs c, .v (.map (some b))]])]) (hf := Tryz.results32) (hO := ?_) (hr := ?_)
  · rfl
  · rfl
theorem sum_fill : ∀ (h : List Int), (∀ x ∈ h, 0 ≤ x) → (fillH h).sum = h.sum
  | [], _ => rfl
  | x :: xs, hx => by
    have ih := sum_fill xs fun y hy => hx y (by simp [hy])
    have h0 := hx x (by simp)
    unfold fillH at ih ⊢
    rw [List.filter_cons]
    split
    · rw [List.sum_cons, List.sum_cons, ih]
    · rename_i hn
      have hn : ¬ 0 < x := by simpa using hn
      rw [ih, List.sum_cons]; omega
end Go.Proofs.YtmfbcipjknjicaaGreatDoor
/- Boxes of heaps in plain lists: their positions, sums with them, signs, classes. -/
namespace Go.Proofs.YtmfbcipjknjicaaGreatDoor
set_option linter.unusedSimpArgs false
set_option linter.unusedVariables false

def lstB (s : Nat) : Nat → Nat → List (List Int)
  | 0, _ => [[]]
  | k + 1, n => (List.range (s + 1 - n)).flatMap fun j => (lstB s k (n + j)).map fun l => ((n + j : Nat) : Int) :: l
/-- The first j rounds. -/
def lstT (s k n j : Nat) : List (List Int) := (List.range j).flatMap fun j => (lstB s k (n + j)).map fun l => ((n + j : Nat) : Int) :: l
theorem lstT_succ (s k n j : Nat) : lstT s k n (j + 1) = lstT s k n j ++ (lstB s k (n + j)).map fun l => ((n + j : Nat) : Int) :: l := by simp [lstT, List.range_succ]
theorem lstB_succ (s k n : Nat) : lstB s (k + 1) n = lstT s k n (s + 1 - n) := rfl
theorem lstB_mem {s : Nat} : ∀ {k n : Nat} {l : List Int}, l ∈ lstB s k n → l.length = k ∧ (∀ x ∈ l, (n : Int) ≤ x ∧ x ≤ s) ∧ l.Pairwise (· ≤ ·)
  | 0, n, l, h => by
    rw [lstB, List.mem_singleton] at h
    subst h; simp
  | k + 1, n, l, h => by
    rw [lstB, List.mem_flatMap] at h
    obtain ⟨j, hj, h⟩ := h
    have hj := List.mem_range.1 hj
    obtain ⟨r, hr, rfl⟩ := List.mem_map.1 h
    obtain ⟨h1, h2, h3⟩ := lstB_mem hr
    refine ⟨by simp [h1], fun x hx => ?_, List.pairwise_cons.2 ⟨fun x hx => (h2 x hx).1, h3⟩⟩
    rcases List.mem_cons.1 hx with rfl | hx
    · omega
    · have := h2 x hx; omega
theorem lstT_len {s k n : Nat} (h : ∀ m, (lstB s k m).length ≤ 7 ^ k) : ∀ j, (lstT s k n j).length ≤ j * 7 ^ k
  | 0 => by simp [lstT]
  | j + 1 => by
    have := lstT_len (n := n) h j
    have h2 := h (n + j)
    rw [lstT_succ, List.length_append, List.length_map, Nat.add_mul]; omega
theorem lstB_len {s : Nat} (hs : s ≤ 6) : ∀ k n : Nat, (lstB s k n).length ≤ 7 ^ k
  | 0, n => by simp [lstB]
  | k + 1, n => by
    have := lstT_len (n := n) (lstB_len hs k) (s + 1 - n)
    rw [lstB_succ, Nat.pow_succ, Nat.mul_comm]
    exact Nat.le_trans this (Nat.mul_le_mul_right _ (by omega))
def posT (s j : Nat) : List (List Int) := (List.range j).flatMap fun k => lstB s k 1
def posB (s m : Nat) : List (List Int) := posT s (m + 1)
theorem posT_succ (s j : Nat) : posT s (j + 1) = posT s j ++ lstB s j 1 := by simp [posT, List.range_succ]
theorem posB_mem {s m : Nat} {l : List Int} (h : l ∈ posB s m) : l.length ≤ m ∧ (∀ x ∈ l, 0 < x ∧ x ≤ s) ∧ l.Pairwise (· ≤ ·) := by
  unfold posB posT at h
  obtain ⟨k, hk, h⟩ := List.mem_flatMap.1 h
  have hk := List.mem_range.1 hk
  obtain ⟨h1, h2, h3⟩ := lstB_mem h
  exact ⟨by omega, fun x hx => by have := h2 x hx; omega, h3⟩
theorem posT_len {s : Nat} (hs : s ≤ 6) : ∀ j, j ≤ 7 → (posT s j).length ≤ j * 117649
  | 0, _ => by simp [posT]
  | j + 1, hj => by
    have h1 := posT_len hs j (by omega)
    have h2 := lstB_len hs j 1
    have h3 : 7 ^ j ≤ 7 ^ 6 := Nat.pow_le_pow_right (by omega) (by omega)
    rw [posT_succ, List.length_append]; omega
theorem posB_zero (s m : Nat) : ∃ r, posB s m = [] :: r := by
  have e : ∀ j, ∃ r, posT s (j + 1) = [] :: r := by
    intro j
    induction j with
    | zero => exact ⟨[], by simp [posT, lstB]⟩
    | succ j ih =>
      obtain ⟨r, hr⟩ := ih
      exact ⟨r ++ lstB s (j + 1) 1, by rw [posT_succ, hr]; rfl⟩
  exact e m
theorem sum_bd {s : Int} : ∀ {l : List Int}, (∀ x ∈ l, 0 < x ∧ x ≤ s) → 0 ≤ l.sum ∧ l.sum ≤ s * l.length
  | [], _ => by simp
  | x :: xs, h => by
    have h1 := sum_bd (l := xs) fun y hy => h y (by simp [hy])
    have h2 := h x (by simp)
    simp only [List.sum_cons, List.length_cons]
    have : s * ((xs.length + 1 : Nat) : Int) = s * xs.length + s := by rw [Int.natCast_add, Int.mul_add]; simp
    rw [this]; omega
def goodB (s m : Int) : Bool := decide (1 ≤ s) && decide (1 ≤ m) && decide (s ≤ 6) && decide (m ≤ 6) && decide (s * m ≤ 6)
theorem goodB_nat {s m : Int} (h : goodB s m = true) : ∃ a b : Nat, s = a ∧ m = b ∧ 1 ≤ a ∧ 1 ≤ b ∧ a ≤ 6 ∧ b ≤ 6 ∧ a * b ≤ 6 := by
  simp only [goodB, Bool.and_eq_true, decide_eq_true_eq] at h
  obtain ⟨⟨⟨⟨h1, h2⟩, h3⟩, h4⟩, h5⟩ := h
  refine ⟨s.toNat, m.toNat, by omega, by omega, by omega, by omega, by omega, by omega, ?_⟩
  have e : ((s.toNat * m.toNat : Nat) : Int) = s * m := by rw [Int.natCast_mul, Int.toNat_of_nonneg (by omega), Int.toNat_of_nonneg (by omega)]
  omega
/-- Two positions together. -/
def togH (h p : List Int) : List Int := srtI (fillH (h ++ p))
theorem fillH_app (h p : List Int) : fillH (h ++ p) = fillH h ++ fillH p := by unfold fillH; rw [List.filter_append]
theorem togH_nil {h : List Int} (hs : h.Pairwise (· ≤ ·)) : togH h [] = fillH h := by
  unfold togH
  rw [List.append_nil]
  exact (srtI_of (List.Perm.refl _) (by unfold fillH; exact hs.filter _)).symm
theorem togH_vld {h p : List Int} {s m : Nat} (hg : ghp h = true) (hp : p ∈ posB s m) (hs : h.sum + ((s * m : Nat) : Int) ≤ 20) : vld (togH h p) 0 0 := by
  obtain ⟨p1, p2, p3⟩ := posB_mem hp
  simp only [ghp, Bool.and_eq_true, decide_eq_true_eq] at hg
  obtain ⟨h1, h2⟩ := ghpF_pos hg.2
  have hps := sum_bd p2
  have hfp : fillH p = p := fillH_id fun x hx => (p2 x hx).1
  refine ⟨⟨fun x hx => ?_, srtI_le _⟩, ?_, .inl ⟨rfl, rfl⟩⟩
  · rw [togH, srtI_mem] at hx
    exact fillH_pos x hx
  · rw [togH, srtI_sum, fillH_app, List.sum_append, sum_fill h fun x hx => (h1 x hx).1, hfp]
    have : ((s * p.length : Nat) : Int) ≤ ((s * m : Nat) : Int) := by
      have := Nat.mul_le_mul_left s p1
      omega
    have e : (s : Int) * (p.length : Int) = ((s * p.length : Nat) : Int) := by rw [Int.natCast_mul]
    omega
def sgnP (c : List Int) (l : List (List Int)) (h : List Int) : List Bool := l.map fun p => decide (mv c (togH h p) 0 0 ≠ 0)
def sgnB (c : List Int) (s m : Nat) (h : List Int) : List Bool := sgnP c (posB s m) h
theorem sgnB_len (c : List Int) (s m : Nat) (h : List Int) : (sgnB c s m h).length = (posB s m).length := by simp [sgnB, sgnP]
/-- The place of the first that a test lets, -1 if there is none. -/
def fstB {α : Type} (P : α → Bool) : List α → Nat → Int
  | [], _ => -1
  | x :: xs, i => if P x = true then i else fstB P xs (i + 1)
def clsB (c : List Int) (s m : Nat) (h : List Int) : Int := fstB (fun p => decide (sgnB c s m p = sgnB c s m h)) (posB s m) 0
theorem ghp_pos {s m : Nat} {p : List Int} (hm : m ≤ 20) (hs : s ≤ 300) (hp : p ∈ posB s m) : ghp p = true := by
  obtain ⟨p1, p2, p3⟩ := posB_mem hp
  have hg : ∀ (l : List Int) (a : Int), (∀ x ∈ l, 0 < x ∧ x ≤ s) → l.Pairwise (· ≤ ·) → (∀ x ∈ l, a ≤ x) → ghpF a l = true := by
    intro l
    induction l with
    | nil => intro a _ _ _; rfl
    | cons x xs ih =>
      intro a k1 k2 k3
      rw [List.pairwise_cons] at k2
      have q1 := k1 x (by simp)
      have q2 := k3 x (by simp)
      simp only [ghpF, Bool.and_eq_true, Bool.not_eq_true', decide_eq_false_iff_not]
      exact ⟨⟨by omega, by omega⟩, ih x (fun y hy => k1 y (by simp [hy])) k2.2 k2.1⟩
  unfold ghp
  rw [decide_eq_true (by omega), hg p 0 p2 p3 fun x hx => by have := p2 x hx; omega]; rfl
end Go.Proofs.YtmfbcipjknjicaaGreatDoor
/- The program's winning moves of misere play. For all arguments. -/
namespace Go.Proofs.YtmfbcipjknjicaaGreatDoor
open Eng
attribute [local irreducible] OpS OpG FC FCr Rel Fl Ef DR Fs
attribute [local simp] RV.fzR_names
set_option linter.unusedSimpArgs false
set_option linter.unusedVariables false
set_option maxHeartbeats 0
set_option maxRecDepth 100000

/-- A choice of what is kept behind each value. -/
theorem nx_all {c : List Int} (hc : gcode c = true) : ∃ nx : List Int → Nat → Nat → Mem → Mem, ∀ p t o m, vld p t o → memOk c m → memOk c (nx p t o m) ∧ VC c p t o m (nx p t o m) := by
  classical
  refine ⟨fun p t' o' m => if H : ∃ m', memOk c m' ∧ VC c p t' o' m m' then H.choose else m, fun p t' o' m h1 h3 => ?_⟩
  have H := value_all c hc _ p t' o' m h1 (Nat.lt_succ_self _) h3
  dsimp only
  rw [dif_pos H]
  exact H.choose_spec
end Go.Proofs.YtmfbcipjknjicaaGreatDoor
