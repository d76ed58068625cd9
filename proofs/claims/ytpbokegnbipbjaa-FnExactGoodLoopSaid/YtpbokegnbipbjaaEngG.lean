/- The engine, part G: slices written out, made, written, lengthened. No condition. -/
import Derived.Test.YtpbokegnbipbjaaEngF
namespace Go.Proofs.Ytpbokegnbipbjaa
namespace Eng
open Go.RowKit

theorem foldl_fill (l : List Value) : ∀ (off j : Nat) (A : Array Value), off + j + l.length ≤ A.size →
    ((l.zipIdx j).foldl (fun (B : Array Value) (p : Value × Nat) => B.setIfInBounds (off + p.2) p.1) A) = (A.toList.take (off + j) ++ l ++ A.toList.drop (off + j + l.length)).toArray := by
  induction l with
  | nil => intro off j A _; simp
  | cons v l ih =>
    intro off j A h
    simp only [List.length_cons] at h
    simp only [List.zipIdx_cons, List.foldl_cons]
    rw [ih off (j + 1) _ (by simp; omega)]
    apply Array.ext'
    have e := list_seg_step A.toList (off + j) v l (by simp; omega)
    simp only [Array.toList_setIfInBounds]
    rw [show off + (j + 1) = off + j + 1 by omega, e]
    simp [Nat.add_assoc]

theorem fill_all (k : Nat) : ∀ (parts : List Value) (m : Nat) (cells : Array Value), (∀ v ∈ parts, v.cells.size = k) → cells.size = (m + parts.length) * k →
    Instr.fill (fun i => some (i * k, k)) cells ((parts.zipIdx m).map fun p => (p.2, p.1)) = some (cells.toList.take (m * k) ++ parts.flatMap (fun v => v.cells.toList)).toArray := by
  intro parts
  induction parts with
  | nil => intro m cells _ hs; simp at hs; simp [Instr.fill, ← hs]; rw [List.take_of_length_le (by simp)]
  | cons v rest ih =>
    intro m cells hk hs
    simp only [List.length_cons] at hs
    have hv := hk v (by simp)
    have hs2 : cells.size = m * k + k + rest.length * k := by rw [hs, Nat.add_mul, Nat.add_mul]; omega
    simp only [List.zipIdx_cons, List.map_cons, Instr.fill]
    rw [if_neg (by simp [hv]; omega)]
    have e : (v.cells.zipIdx.foldl (fun cs (x : Value × Nat) => cs.setIfInBounds (m * k + x.2) x.1) cells) = (cells.toList.take (m * k) ++ v.cells.toList ++ cells.toList.drop (m * k + k)).toArray := by
      rw [← Array.foldl_toList, Array.toList_zipIdx]
      have := foldl_fill v.cells.toList (m * k) 0 cells (by simp [hv]; omega)
      simpa [hv] using this
    rw [show (v.cells.zipIdx.foldl (fun cs (x : Value × Nat) => match x with | (c, j) => cs.setIfInBounds (m * k + j) c) cells) = _ from e]
    have h2 : (cells.toList.take (m * k) ++ v.cells.toList).length = m * k + k := by simp [hv]; omega
    have h1 : (m + 1) * k = m * k + k := by rw [Nat.add_mul]; omega
    have h3 : (cells.toList.take (m * k) ++ v.cells.toList ++ cells.toList.drop (m * k + k)).toArray.size = (m + 1 + rest.length) * k := by
      rw [List.size_toArray, List.length_append, h2, List.length_drop, Array.length_toList, Nat.add_mul, h1]; omega
    rw [ih (m + 1) _ (fun x hx => hk x (by simp [hx])) h3]
    congr 2
    rw [h1, List.take_left' h2]
    simp

/-- Elements in slots, each with the cells that it lays. -/
theorem SV.elem {w F ρ r y k} (h : SV w F ρ r y []) (hst : r.stores = true ∨ r.isAgg = true) (hw : r.width = k) : OE w F ρ k [r] y.cells.toList [] ∧ y.cells.size = k := by
  rcases hst with hst | hst
  · obtain ⟨h1, h2⟩ := h.to_cell hst
    have hk : k = 1 := by cases r <;> simp [RV.stores, RV.width] at hst hw <;> omega
    subst hk
    have hc : y.cells = #[y] := by cases y <;> simp [Value.oneCell', Value.cells] at h2 ⊢
    rw [hc]
    exact ⟨h1, rfl⟩
  · cases r <;> simp [RV.isAgg] at hst
    obtain ⟨c, rfl, h2⟩ := h.agg_inv
    have hl := h2.length
    refine ⟨OE.of_cellsL h2 hw, ?_⟩
    simp [RV.width] at hw
    simp [Value.cells] at hl ⊢
    omega

section
variable {P : Program} {s : St} {d : Tmp} {ty : TypeId} {pos : String} {after : Array Edge} {g : Option (Nat × Bool)}

theorem ops_buildSlice {t n} {parts : Array (Nat × Operand)} {els : List RV} {k : Nat} (hp : parts.toList.map Prod.fst = List.range n) (hels : parts.toList.map (fun p => s.get p.2) = els) (hst : els.all (fun r => (r.stores || r.isAgg) && r.width == k) = true) (hk : 0 < k) (hnk : n * k ≤ 16777216)
    (ht : P.underlying t = some (.slice (P.elem t))) (hw : P.cellsOf (P.elem t) = k) {z : Value} (hz : zeroOf P (P.elem t) = some z) (hd : d ∉ RV.namesL s.fr) (hO : d ∉ onames s.O) (hn : d ∉ RV.namesL els) :
    OpS P ⟨some d, .buildSlice t n parts, ty, pos, after, g⟩ s ⟨lset s.fr d (.ref d 0 els.length), (d, k, els) :: s.O⟩ :=
  ops_of fun E a w F ρ fp hr => by
    have hlen : els.length = n := by rw [← hels, List.length_map, ← List.length_map (f := Prod.fst), hp]; simp
    have hys : ∀ (l : List (Nat × Operand)), (l.map (fun p => s.get p.2)).all (fun r => (r.stores || r.isAgg) && r.width == k) = true → OE w F ρ k (l.map fun p => s.get p.2) ((l.map fun p => a.eval p.2).flatMap fun v => v.cells.toList) [] ∧ ∀ v ∈ l.map (fun p => a.eval p.2), v.cells.size = k := by
      intro l
      induction l with
      | nil => intro _; exact ⟨.nil _ _, by simp⟩
      | cons p l ih =>
        intro hall
        simp only [List.map_cons, List.all_cons, Bool.and_eq_true, Bool.or_eq_true, beq_iff_eq] at hall
        obtain ⟨h1, h2⟩ := ih (by simpa using hall.2)
        obtain ⟨h3, h4⟩ := (hr.get p.2).elem hall.1.1 hall.1.2
        refine ⟨by simpa using OE.cons h3 h1, ?_⟩
        intro v hv
        rcases List.mem_cons.1 hv with rfl | hv
        · exact h4
        · exact h2 v hv
    obtain ⟨hE, hsz⟩ := hys parts.toList (by rw [hels]; exact hst)
    rw [hels] at hE
    have hfl := hE.length
    obtain ⟨ρ', h4, h5⟩ := hr.alloc d k els (P.elem t) ((parts.toList.map fun p => a.eval p.2).flatMap fun v => v.cells.toList).toArray hk (by simpa using hfl) (by rw [hlen]; simp only [maxLen]; have := Nat.le_mul_of_pos_right n hk; omega) (by simpa using hE) hd hO hn
    refine ⟨.slice (some ⟨w.heap.size, 0, none⟩) n n, w.alloc (.cells ((parts.toList.map fun p => a.eval p.2).flatMap fun v => v.cells.toList).toArray (P.elem t)), ?_, F, ρ', w.heap.size :: fp, ?_⟩
    rotate_left
    · have := h5.put (some d) (SV.ref_mk h4 0 els.length)
      simp only [Nat.zero_mul, Nat.sub_zero] at this
      rw [hlen] at this
      simpa [sput, hlen] using this
    · have hparts : (parts.map fun (i, x) => (i, a.eval x)).toList = ((parts.toList.map fun p => a.eval p.2).zipIdx 0).map fun p => (p.2, p.1) := by
        apply List.ext_getElem
        · simp
        · intro i h1 h2
          have h3 : i < parts.toList.length := by simpa using h1
          have h6 : (parts.toList.map Prod.fst)[i]'(by simpa using h3) = i := by simp [hp]
          simp only [List.getElem_map] at h6
          simp [List.getElem_zipIdx]
          simpa using h6
      have hf := fill_all k (parts.toList.map fun p => a.eval p.2) 0 ((Array.range (n * k)).map (z.cells[· % z.cells.size]!)) hsz (by
        have : parts.toList.length = n := by rw [← List.length_map (f := Prod.fst), hp]; simp
        simp only [Array.length_toList] at this
        simp [this])
      simp only [Nat.zero_mul, List.take_zero, List.nil_append] at hf
      have hnk' : ¬ (n * k > 2 ^ 24) := by omega
      by_cases h0 : n * k = 0
      · have hn0 : n = 0 := by rcases Nat.mul_eq_zero.1 h0 with h | h <;> omega
        subst hn0
        have hpn : parts.toList = [] := by have := congrArg List.length hp; simpa using this
        have hpa : parts = #[] := by apply Array.ext'; simpa using hpn
        subst hpa
        simp [execOp, Instr.buildSlice, run_underlying ht, run_sizeOf hw hk, Instr.fill, newRow, Array.range_zero']
      · simp only [execOp, Instr.buildSlice, Sem.run_bind, run_underlying ht, Result.andThen_ok, run_sizeOf hw hk, if_neg hnk', if_neg h0, run_zeroValue hz, Sem.run_pure, hparts]
        rw [hf]
        simp [newRow]

theorem madeCells_one {z : Value} (hz : z.oneCell' = true) (n : Nat) : madeCells z.cells (n * 1) = (List.replicate n z).toArray := by
  have hc : z.cells = #[z] := by cases z <;> simp [Value.oneCell', Value.cells] at hz ⊢
  apply Array.ext'
  apply List.ext_getElem
  · simp [madeCells]
  · intro i h1 h2
    simp [madeCells, hc, Nat.mod_one]

theorem OE.replicate {w F ρ k e ce} (h : FE w F k [e] ce) (n : Nat) : OE w F ρ k (List.replicate n e) (List.replicate n ce).flatten [] := by
  refine OE.of_FE ?_
  induction n with
  | zero => exact .nil _
  | succ n ih => rw [List.replicate_succ, List.replicate_succ, List.flatten_cons]; exact FE.cons h ih

theorem namesL_replicate (n : Nat) {e : RV} (h : e.names = []) : RV.namesL (List.replicate n e) = [] := by
  induction n with
  | zero => simp [RV.namesL]
  | succ n ih => simp [List.replicate_succ, RV.namesL, h, ih]

/-- A slice of n zeros of one cell. -/
theorem ops_makeSlice {t l c} {kl kc : IntKind} {n : Nat} (hl : s.get l = .v (.int kl (n : Nat))) (hc : s.get c = .v (.int kc (n : Nat))) (ht : P.underlying t = some (.slice (P.elem t))) (hw : P.cellsOf (P.elem t) = 1) {z : Value} (hz : zeroOf P (P.elem t) = some z) (h1 : z.oneCell' = true)
    (hb : (P.info? (P.elem t)).map (fun i => decide (i.bytes ≤ 64)) = some true) (hn : n ≤ 1099511627776) (hd : d ∉ RV.namesL s.fr) (hO : d ∉ onames s.O) :
    OpS P ⟨some d, .makeSlice t l c, ty, pos, after, g⟩ s ⟨lset s.fr d (.ref d 0 n), (d, 1, List.replicate n (.v z)) :: s.O⟩ :=
  ops_of fun E a w F ρ fp hr => by
    cases hi : P.info? (P.elem t) with
    | none => simp [hi] at hb
    | some i =>
      simp only [hi, Option.map_some, Option.some.injEq, decide_eq_true_eq] at hb
      have hz' : i.zero = some z := by simpa [zeroOf, hi] using hz
      have hw' : i.size = 1 := by simpa [Program.cellsOf, hi] using hw
      have hrun := run_make (P := P) w t (P.elem t) i z ht hi hz' kl kc n n (by omega) (by omega) (by
        have h2 : i.bytes * n ≤ 64 * n := Nat.mul_le_mul_right _ hb
        have h3 : ((i.bytes * n : Nat) : Int) ≤ 281474976710656 := by omega
        rwa [Int.natCast_mul] at h3) (by omega)
      simp only [Int.toNat_natCast, hw', madeCells_one h1] at hrun
      have hE : OE w F ρ 1 (List.replicate n (.v z)) (List.replicate n z) [] := by
        have := OE.replicate (w := w) (F := F) (ρ := ρ) (FE.v z h1 (.nil 1)) n
        have e : (List.replicate n [z]).flatten = List.replicate n z := by induction n with
          | zero => rfl
          | succ n ih => simp [List.replicate_succ]
        rwa [e] at this
      obtain ⟨ρ', h4, h5⟩ := hr.alloc d 1 (List.replicate n (.v z)) (P.elem t) (List.replicate n z).toArray (by omega) (by simp) (by simp [maxLen]; omega) (by simpa using hE) hd hO (by rw [namesL_replicate _ (by simp [RV.names])]; simp)
      refine ⟨.slice (some ⟨w.heap.size, 0, none⟩) n n, w.alloc (.cells (List.replicate n z).toArray (P.elem t)), ?_, F, ρ', w.heap.size :: fp, ?_⟩
      rotate_left
      · have := h5.put (some d) (SV.ref_mk h4 0 n)
        simpa [sput] using this
      · simp [execOp, hr.ex hl, hr.ex hc, hrun]

end
end Eng
end Go.Proofs.Ytpbokegnbipbjaa
