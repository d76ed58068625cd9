/- The engine, part H: stores, appends, cuts, struct values, results. No condition. -/
import Derived.Test.YtpbokegnbipbjaaEngG
namespace Go.Proofs.Ytpbokegnbipbjaa
namespace Eng
open Go.RowKit

theorem RelX.setElem {E s a w F ρ fp n k els i e} (h : RelX E s a w F ρ fp) (ho : olook n s.O = some (k, els)) (he : els[i]? = some e) :
    ∃ b ty c ce fe, (ρ n).1 = some b ∧ (ρ n).2.1 = k ∧ 0 < k ∧ w.heap[b]? = some (.cells c ty (0, 0)) ∧ i * k + k ≤ c.size ∧ ce.length = k ∧ (∀ j y, ce[j]? = some y → c[i * k + j]? = some y) ∧ OE w F ρ k [e] ce fe ∧
      ∀ e' ce' fe', ce'.length = k → OE w F ρ k [e'] ce' fe' → fe'.Sublist fe →
        ∃ fp', RelX E ⟨s.fr, oset n (els.set i e') s.O⟩ a (w.setRow b (c.toList.take (i * k) ++ ce' ++ c.toList.drop (i * k + k)).toArray) F ρ fp' := by
  obtain ⟨fp', hr'⟩ := h.front ho
  have hlt : i < els.length := (List.getElem?_eq_some_iff.1 he).1
  obtain ⟨b, ty, c, fp1, fp2, hk, hρ, hρb, hb, hs, hl, hm, hE, hO2, rfl⟩ := hr'.O.head (by rintro rfl; simp at hlt)
  obtain ⟨c1, ce, c2, f1, fe, f2, hcs, hc1, hce, rfl, hE1, hE2, hE3⟩ := hE.at he
  have hik : i * k + k ≤ els.length * k := by
    have := Nat.mul_le_mul_right k (show i + 1 ≤ els.length by omega)
    rw [Nat.add_mul] at this; omega
  have hcap : els.length * k ≤ c.size := by rw [hs]; exact Nat.mul_le_mul_right _ hl
  refine ⟨b, ty, c, ce, fe, hρb, hρ, hk, hb, by omega, hce, ?_, hE2, ?_⟩
  · intro j y hj
    have hj' : j < ce.length := (List.getElem?_eq_some_iff.1 hj).1
    have : (c.toList.take (els.length * k))[i * k + j]? = some y := by
      rw [hcs, List.getElem?_append_right (by omega), hc1, show i * k + j - i * k = j by omega, List.getElem?_append_left hj']
      exact hj
    rw [List.getElem?_take] at this
    split at this
    · simpa using this
    · cases this
  · intro e' ce' fe' hce' hE' hsub
    have htake : (c.toList.take (i * k) ++ ce' ++ c.toList.drop (i * k + k)).take (els.length * k) = c1 ++ (ce' ++ c2) := by
      have h1 : c.toList.take (i * k) = c1 := by
        have := congrArg (List.take (i * k)) hcs
        rw [List.take_take, Nat.min_eq_left (by omega), List.take_left' hc1] at this
        exact this
      have h2 : (c.toList.drop (i * k + k)).take (els.length * k - (i * k + k)) = c2 := by
        have := congrArg (List.drop (i * k + k)) hcs
        rw [List.drop_take, ← List.append_assoc, List.drop_left' (by simp [hc1, hce])] at this
        exact this
      rw [h1, List.take_append, List.take_of_length_le (by simp [hc1, hce']; omega)]
      rw [show els.length * k - (c1 ++ ce').length = els.length * k - (i * k + k) by simp [hc1, hce'], h2, List.append_assoc]
    have hset : els.set i e' = els.take i ++ ([e'] ++ els.drop (i + 1)) := by
      rw [List.set_eq_take_append_cons_drop, if_pos hlt]; rfl
    have hEn : OE w F ρ k (els.set i e') (c1 ++ (ce' ++ c2)) (f1 ++ (fe' ++ f2)) := by
      rw [hset]; exact hE1.append (hE'.append hE3)
    have hsubl : (b :: ((f1 ++ (fe' ++ f2)) ++ fp2)).Sublist (b :: ((f1 ++ (fe ++ f2)) ++ fp2)) := by
      refine List.Sublist.cons_cons _ (List.Sublist.append ?_ (List.Sublist.refl _))
      exact (List.Sublist.refl _).append (hsub.append (List.Sublist.refl _))
    have hsz : (c.toList.take (i * k) ++ ce' ++ c.toList.drop (i * k + k)).toArray.size = c.size := by simp [hce']; omega
    have hfin := hr'.modify (els' := els.set i e') (ty := ty) (c' := (c.toList.take (i * k) ++ ce' ++ c.toList.drop (i * k + k)).toArray) (fp1' := f1 ++ (fe' ++ f2))
      (w' := w.setRow b (c.toList.take (i * k) ++ ce' ++ c.toList.drop (i * k + k)).toArray) hk hρ hρb hm hO2 (by simp) (fun j hj => setRow_other w b j _ hj) (setRow_heap w b c _ ty _ hb) (by rw [hsz, hs]) (by simpa using hl)
      (by rw [List.length_set]; rw [htake]; exact hEn) (hr'.nodup.sublist hsubl)
      (fun x hx => by
        have hmem : x ∈ b :: ((f1 ++ (fe ++ f2)) ++ fp2) := hsubl.subset (by simp only [List.mem_cons, List.mem_append] at hx ⊢; exact .inr (.inl hx))
        exact ⟨hr'.fpF x hmem, hr'.fpE x hmem⟩) rfl rfl rfl
    rw [← oerase_oset n (els.set i e') s.O] at hfin
    exact hfin.back (olook_oset ho)

def RV.setCell (e : RV) (j : Nat) (r : RV) : RV := match e with | .agg l => .agg (l.set j r) | _ => r

theorem OE.setCell {w F ρ k e ce fe j r y} (h : OE w F ρ k [e] ce fe) (hj : j < e.cellsL.length) (hr : OE w F ρ 1 [r] [y] []) : ∃ fe', OE w F ρ k [e.setCell j r] (ce.set j y) fe' ∧ fe'.Sublist fe := by
  have hw := h.width
  have h1 := h.cellsL
  obtain ⟨c1, d, c2, f1, fd, f2, rfl, hc1, hd, rfl, h2, _, h3⟩ := h1.at (List.getElem?_eq_getElem hj)
  match d, hd with
  | [y0], _ =>
    have hset : (c1 ++ ([y0] ++ c2)).set j y = c1 ++ ([y] ++ c2) := by
      rw [List.set_append_right _ _ (by omega), hc1]; simp
    have hl : e.cellsL.set j r = e.cellsL.take j ++ ([r] ++ e.cellsL.drop (j + 1)) := by
      rw [List.set_eq_take_append_cons_drop, if_pos hj]; rfl
    refine ⟨f1 ++ ([] ++ f2), ?_, (List.Sublist.refl _).append ((List.nil_sublist _).append (List.Sublist.refl _))⟩
    have h4 : OE w F ρ 1 (e.cellsL.set j r) (c1 ++ ([y] ++ c2)) (f1 ++ ([] ++ f2)) := by rw [hl]; exact h2.append (hr.append h3)
    rw [hset]
    cases e with
    | agg l => exact OE.of_cellsL (e := .agg (l.set j r)) (by simpa [RV.cellsL] using h4) (by simpa [RV.width] using hw)
    | _ =>
      simp only [RV.cellsL, List.length_singleton] at hj
      obtain rfl : j = 0 := by omega
      simp only [RV.width] at hw
      subst hw
      simpa [RV.cellsL, RV.setCell] using h4

theorem OE.stores {w F ρ l cs fp} (h : OE w F ρ 1 l cs fp) (hst : l.all RV.stores = true) : ∀ y ∈ cs, y.oneCell' = true := by
  induction l generalizing cs fp with
  | nil => cases h; simp
  | cons r l ih =>
    simp only [List.all_cons, Bool.and_eq_true] at hst
    obtain ⟨c1, c2, f1, f2, rfl, rfl, hc1, h1, h2⟩ := h.cons_inv
    match c1, hc1 with
    | [y], _ =>
      intro x hx
      rcases List.mem_cons.1 hx with rfl | hx
      · have hp : r.plain = true := by cases r <;> simp [RV.stores, RV.plain] at hst ⊢
        have hf := h1.plain_fp hp
        subst hf
        exact ((SV.of_plain h1 hp).to_cell hst.1).2
      · exact ih h2 hst.2 x hx

section
variable {P : Program} {s : St} {ty : TypeId} {pos : String} {after : Array Edge} {g : Option (Nat × Bool)}

theorem ops_store {x v t n i j k els e r} (hx : s.get x = .ptr n i j) (hv : s.get v = r) (ho : olook n s.O = some (k, els)) (he : els[i]? = some e) (hj : j < e.cellsL.length) (hst : r.stores = true) (ht : P.cellsOf t = 1) :
    OpS P ⟨none, .store t x v, ty, pos, after, g⟩ s ⟨s.fr, oset n (els.set i (e.setCell j r)) s.O⟩ :=
  ops_of_skip fun E a w F ρ fp hr => by
    have h1 := hr.get x
    rw [hx] at h1
    have h2 := hr.get v
    rw [hv] at h2
    obtain ⟨h3, h4⟩ := h2.to_cell hst
    obtain ⟨b, tb, c, ce, fe, hρb, hρ, hk, hb, hsz, hce, hcell, hE, hset⟩ := hr.setElem ho he
    obtain ⟨fe', h5, h6⟩ := hE.setCell hj h3
    obtain ⟨fp', h7⟩ := hset _ _ _ (by simp [hce]) h5 h6
    have hj2 : j < k := by have := hE.cellsL.length; omega
    have hp := h1.ptr_inv
    simp only [hρb, Option.map_some, hρ] at hp
    have hcells : (a.eval v).cells = #[a.eval v] := by cases hy : a.eval v <;> simp [hy, Value.oneCell', Value.cells] at h4 ⊢
    have hrun := run_storeCells_at P b (i * k + j) tb [a.eval v] 0 c w hb (by simp; omega) (by simpa using h4)
    refine ⟨_, ?_, F, ρ, fp', h7⟩
    have e1 : (c.toList.take (i * k) ++ ce.set j (a.eval v) ++ c.toList.drop (i * k + k)) = (c.toList.take (i * k + j) ++ [a.eval v] ++ c.toList.drop (i * k + j + 1)) := by
      apply List.ext_getElem?
      intro q
      by_cases q1 : q < i * k
      · rw [List.append_assoc, List.getElem?_append_left (by simp; omega), List.append_assoc, List.getElem?_append_left (by simp; omega)]
        rw [List.getElem?_take, List.getElem?_take, if_pos q1, if_pos (by omega)]
      · rw [List.append_assoc, List.getElem?_append_right (by simp; omega)]
        have l1 : (c.toList.take (i * k)).length = i * k := by simp; omega
        have l2 : (c.toList.take (i * k + j)).length = i * k + j := by simp; omega
        rw [l1]
        by_cases q2 : q < i * k + j
        · rw [List.getElem?_append_left (by simp; omega), List.getElem?_set_ne (by omega), List.append_assoc, List.getElem?_append_left (by omega), List.getElem?_take, if_pos q2]
          have hq : q - i * k < ce.length := by omega
          rw [List.getElem?_eq_getElem hq]
          have := hcell (q - i * k) _ (List.getElem?_eq_getElem hq)
          rw [show i * k + (q - i * k) = q by omega] at this
          simpa using this.symm
        · by_cases q3 : q = i * k + j
          · subst q3
            rw [List.getElem?_append_left (by simp; omega), show i * k + j - i * k = j by omega, List.getElem?_set_self (by omega), List.append_assoc, List.getElem?_append_right (by omega), l2]
            simp
          · rw [List.append_assoc, List.getElem?_append_right (l₁ := c.toList.take (i * k + j)) (by omega), l2, List.getElem?_append_right (l₁ := [a.eval v]) (by simp; omega)]
            simp only [List.length_singleton, List.getElem?_drop]
            by_cases q4 : q < i * k + k
            · have hq : q - i * k < ce.length := by omega
              rw [List.getElem?_append_left (by simp; omega), List.getElem?_set_ne (by omega), List.getElem?_eq_getElem hq]
              have := hcell (q - i * k) _ (List.getElem?_eq_getElem hq)
              rw [show i * k + (q - i * k) = q by omega] at this
              rw [show i * k + j + 1 + (q - (i * k + j) - 1) = q by omega]
              simpa using this.symm
            · rw [List.getElem?_append_right (by simp; omega)]
              simp only [List.length_set, hce, List.getElem?_drop]
              congr 1
              omega
    rw [e1]
    simp only [Nat.add_zero, List.length_singleton] at hrun
    have hrun' : (storeCells ⟨b, i * k + j, none⟩ [a.eval v]).run P w = .ok () (w.setRow b (c.toList.take (i * k + j) ++ [a.eval v] ++ c.toList.drop (i * k + j + 1)).toArray) := hrun
    simp only [execOp, Instr.storeAt, Instr.sureAddr, hp, storeVar, hcells, Sem.run_bind, Sem.run_pure, Result.andThen_ok, run_sizeOf ht (by omega)]
    simp [hrun']

theorem ops_storea {x v t n i k els e l} (hx : s.get x = .ptr n i 0) (hv : s.get v = .agg l) (ho : olook n s.O = some (k, els)) (he : els[i]? = some e) (hl : l.length = k) (hst : l.all RV.stores = true) (ht : P.cellsOf t = l.length) :
    OpS P ⟨none, .store t x v, ty, pos, after, g⟩ s ⟨s.fr, oset n (els.set i (.agg l)) s.O⟩ :=
  ops_of_skip fun E a w F ρ fp hr => by
    have h1 := hr.get x
    rw [hx] at h1
    have h2 := hr.get v
    rw [hv] at h2
    obtain ⟨cv, hcv, h3⟩ := h2.agg_inv
    have hlv := h3.length
    obtain ⟨b, tb, c, ce, fe, hρb, hρ, hk, hb, hsz, hce, hcell, hE, hset⟩ := hr.setElem ho he
    obtain ⟨fp', h7⟩ := hset (.agg l) cv.toList [] (by omega) (OE.of_cellsL (e := .agg l) h3 hl) (List.nil_sublist _)
    have hp := h1.ptr_inv
    simp only [hρb, Option.map_some, hρ, Nat.add_zero] at hp
    have hrun := run_storeCells_at P b (i * k) tb cv.toList 0 c w hb (by omega) (h3.stores hst)
    simp only [Nat.add_zero] at hrun
    refine ⟨_, ?_, F, ρ, fp', h7⟩
    have hlk : cv.toList.length = k := by omega
    rw [hlk] at hrun
    have hsv : cv.size = l.length := by rw [← Array.length_toList]; omega
    simp only [execOp, Instr.storeAt, Instr.sureAddr, hp, storeVar, hcv, Value.cells, Sem.run_bind, Sem.run_pure, Result.andThen_ok, run_sizeOf ht (by omega)]
    simp [hsv, hrun]

end
end Eng
end Go.Proofs.Ytpbokegnbipbjaa
