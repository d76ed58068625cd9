/- The engine, part J: appends as operations, cuts, struct values, several results. No condition. -/
import Derived.Test.YtpbokegnbipbjaaEngI
namespace Go.Proofs.Ytpbokegnbipbjaa
namespace Eng
open Go.RowKit

theorem OE.block {w : World} {b : Nat} {c : Array Value} {ty : TypeId} (hb : w.heap[b]? = some (.cells c ty (0, 0))) (n : Nat) : CellsAt w ⟨b, 0, none⟩ (c.toList.take n) := by
  intro j y hj
  rw [Addr.add_lit, cell_of_row w b _ c ty _ hb]
  rw [List.getElem?_take] at hj
  split at hj
  · simpa using hj
  · cases hj

theorem olook_ne {n m k els} {O : List Bk} (h : olook n O = some (k, els)) (hne : n ≠ m) : olook n (oerase m O) = some (k, els) := by
  induction O with
  | nil => simp [olook] at h
  | cons x O ih =>
    obtain ⟨q, k', e⟩ := x
    simp only [olook] at h
    simp only [oerase]
    split at h
    · rename_i hq; subst hq; rw [if_neg hne]; simp [olook, h]
    · rename_i hq
      split
      · exact h
      · simp only [olook, if_neg hq]; exact ih h

section
variable {P : Program} {s : St} {d : Tmp} {ty : TypeId} {pos : String} {after : Array Edge} {g : Option (Nat × Bool)}

/-- append(x, y...) where y is a block of its own that is used up. -/
theorem ops_append_own {x y t n m k els els2} (hx : s.get x = .ref n 0 els.length) (hy : s.get y = .ref m 0 els2.length) (ho : olook n s.O = some (k, els)) (ho2 : olook m s.O = some (k, els2)) (hne : n ≠ m) (h0 : els2 ≠ [])
    (hn1 : n ∉ RV.namesL els) (hn2 : n ∉ RV.namesL els2) (hn3 : n ∉ onames (oerase n (oerase m s.O)))
    (ht : P.underlying t = some (.slice (P.elem t))) (hw : P.cellsOf (P.elem t) = k) (hz : (zeroOf P (P.elem t)).map (fun z => decide (z.cells.size = k)) = some true) (hb : (P.info? (P.elem t)).map (fun i => decide (i.bytes ≤ 64)) = some true) (hlen : els.length + els2.length ≤ 1099511627776) :
    OpS P ⟨some d, .call ⟨.builtin .append, #[x, y], #[t, t]⟩, ty, pos, after, g⟩ s ⟨lset (RV.killL n s.fr) d (.ref n 0 (els.length + els2.length)), oset n (els ++ els2) (oerase m s.O)⟩ :=
  ops_of fun E a w F ρ fp hr => by
    have h1 := (show SV w F ρ (.ref n 0 els.length) (a.eval x) [] from hx ▸ hr.get x).ref_inv
    have h2 := (show SV w F ρ (.ref m 0 els2.length) (a.eval y) [] from hy ▸ hr.get y).ref_inv
    obtain ⟨fpm, hrm⟩ := hr.front ho2
    have ho' := olook_ne ho hne
    obtain ⟨b, tb, c, fp1, fpr, hk, hρ, hρb, hbb, hs, hl, hm, hE, hO2, rfl⟩ := hrm.O.head h0
    obtain ⟨fpn, hOn, hpn⟩ := hO2.pull ho'
    have hnd := hrm.nodup
    have hrel : RelX E ⟨s.fr, (n, k, els) :: oerase n (oerase m s.O)⟩ a w F ρ fpn :=
      hrm.weakO hOn (hpn.nodup_iff.1 (hnd.sublist ((List.sublist_append_right _ _).cons _))) fun x hx => by simp [hpn.mem_iff.2 hx]
    have hnd2 : (fp1 ++ fpn).Nodup := ((List.Perm.refl fp1).append hpn).nodup_iff.1 (hnd.sublist (List.sublist_cons_self _ _))
    obtain ⟨yv, w', ρ', fp', hrun, hsv, hfin⟩ := hrel.append (P := P) (cap2 := (ρ m).2.2 - 0) (OE.block hbb _) hE hE.one hnd2
      (fun z hz => ⟨hrm.fpF z (by simp [hz]), hrm.fpE z (by simp [hz])⟩) hn1 hn2 hn3 (t := t) (ty := ty) ht hw hz hb hlen
    have hfin' := hfin.put (some d) hsv
    have hback : ∃ fp'', RelX E ⟨lset (RV.killL n s.fr) d (.ref n 0 (els.length + els2.length)), oset n (els ++ els2) (oerase m s.O)⟩ (a.put (some d) yv) w' F ρ' fp'' := by
      refine RelX.back (fp := fp') (n := n) (k := k) (els := els ++ els2) ?_ (olook_oset ho')
      rw [oerase_oset]
      exact hfin'
    refine ⟨yv, w', ?_, F, ρ', hback⟩
    simp only [Nat.zero_mul, hρb, Option.map_some] at h1 h2
    simp only [Nat.sub_zero] at h1 h2 hrun
    simp [execOp, resolve, invoke, builtin, h1, h2, hrun]

/-- append(x, y...) where y is frozen. -/
theorem ops_append_sh {x y t n k els els2} (hx : s.get x = .ref n 0 els.length) (hy : s.get y = .sh els2) (ho : olook n s.O = some (k, els)) (hwd : els2.all (fun e => e.width == k) = true) (hn1 : n ∉ RV.namesL els) (hn3 : n ∉ onames (oerase n s.O))
    (ht : P.underlying t = some (.slice (P.elem t))) (hw : P.cellsOf (P.elem t) = k) (hz : (zeroOf P (P.elem t)).map (fun z => decide (z.cells.size = k)) = some true) (hb : (P.info? (P.elem t)).map (fun i => decide (i.bytes ≤ 64)) = some true) (hlen : els.length + els2.length ≤ 1099511627776) :
    OpS P ⟨some d, .call ⟨.builtin .append, #[x, y], #[t, t]⟩, ty, pos, after, g⟩ s ⟨lset (RV.killL n s.fr) d (.ref n 0 (els.length + els2.length)), oset n (els ++ els2) s.O⟩ :=
  ops_of fun E a w F ρ fp hr => by
    have h1 := (show SV w F ρ (.ref n 0 els.length) (a.eval x) [] from hx ▸ hr.get x).ref_inv
    have h2 := (show SV w F ρ (.sh els2) (a.eval y) [] from hy ▸ hr.get y).sh_inv
    obtain ⟨fpn, hrn⟩ := hr.front ho
    have fin : ∀ (a2 : Addr) (cap2 : Nat) (cells : List Value), a.eval y = .slice (some a2) els2.length cap2 → CellsAt w a2 cells → FE w F k els2 cells → ∃ y_1 w', (execOp a.eval ⟨some d, .call ⟨.builtin .append, #[x, y], #[t, t]⟩, ty, pos, after, g⟩).run P w = .ok (.value y_1) w' ∧
        Rel E ⟨lset (RV.killL n s.fr) d (.ref n 0 (els.length + els2.length)), oset n (els ++ els2) s.O⟩ (a.put (some d) y_1) w' := by
      intro a2 cap2 cells hey hc hf
      obtain ⟨yv, w', ρ', fp', hrun, hsv, hfin⟩ := hrn.append (P := P) (cap2 := cap2) hc (OE.of_FE hf) hf.one (by simpa using hrn.nodup) (by simp) hn1 (by rw [hf.names]; simp) hn3 (t := t) (ty := ty) ht hw hz hb hlen
      have hfin' := hfin.put (some d) hsv
      have hback : ∃ fp'', RelX E ⟨lset (RV.killL n s.fr) d (.ref n 0 (els.length + els2.length)), oset n (els ++ els2) s.O⟩ (a.put (some d) yv) w' F ρ' fp'' := by
        refine RelX.back (fp := fp') (n := n) (k := k) (els := els ++ els2) ?_ (olook_oset ho)
        rw [oerase_oset]
        exact hfin'
      refine ⟨yv, w', ?_, F, ρ', hback⟩
      simp only [Nat.zero_mul, Nat.sub_zero] at h1
      simp [execOp, resolve, invoke, builtin, h1, hey, hrun]
    rcases h2 with ⟨_, ⟨rfl, a2, cap, h2⟩ | ⟨a2, cap, k', cells, h2, hk', hF, hm, hc, hf⟩⟩
    · -- nothing is put behind
      have hkf : ∀ i, SV w F ρ (lget (RV.killL n s.fr) i) (a.tmps.getD i undef) [] := fun i => by
        rw [lget_killL]; exact (hr.fr i).kill n (fun _ _ => rfl)
      have hkill : RelX E ⟨RV.killL n s.fr, s.O⟩ a w F ρ fp := { hr with size := by simpa using hr.size, fr := hkf }
      have hsv : SV w F ρ (.ref n 0 els.length) (a.eval x) [] := hx ▸ hr.get x
      refine ⟨a.eval x, w, ?_, F, ρ, ?_⟩
      · cases hi : P.info? (P.elem t) with
        | none => simp [hi] at hb
        | some i =>
          have hle : els.length ≤ (ρ n).2.2 := by
            cases hrn.O with
            | nilb _ hρ _ => simp
            | cons _ _ _ _ _ hl _ _ _ _ => exact hl
          simp only [Nat.zero_mul, Nat.sub_zero] at h1
          cases hρb : (ρ n).1 with
          | none => cases a2 <;> simp [execOp, resolve, invoke, builtin, h1, h2, hρb, Builtin.append_, run_underlying ht, sizeOf, typeInfo, hi, Builtin.lenOf, Builtin.firstCells, loadCells, loadCellsFrom, hle]
          | some b => cases a2 <;> simp [execOp, resolve, invoke, builtin, h1, h2, hρb, Builtin.append_, run_underlying ht, sizeOf, typeInfo, hi, Builtin.lenOf, Builtin.firstCells, loadCells, loadCellsFrom, hle, storeCells]
      · have hso : oset n (els ++ []) s.O = s.O := by
          rw [List.append_nil]
          have : ∀ O : List Bk, olook n O = some (k, els) → oset n els O = O := by
            intro O
            induction O with
            | nil => simp [olook]
            | cons x O ih =>
              obtain ⟨q, k', e⟩ := x
              intro hq
              simp only [olook] at hq
              simp only [oset]
              split at hq
              · rename_i hqn; simp at hq; simp [hqn, hq]
              · rename_i hqn; simp [hqn, ih hq]
          exact this _ ho
        rw [hso]
        have := hkill.put (some d) hsv
        exact ⟨fp, by simpa [sput] using this⟩
    · have hkk : k' = k ∨ els2 = [] := by
        cases els2 with
        | nil => exact .inr rfl
        | cons e es =>
          left
          obtain ⟨c1, c2, _, _, h3, _⟩ := hf.cons_inv
          simp only [List.all_cons, Bool.and_eq_true, beq_iff_eq] at hwd
          rw [← hwd.1, h3.width]
      rcases hkk with rfl | rfl
      · exact fin a2 cap cells h2 hc hf
      · cases hf; exact fin a2 cap [] h2 (fun j y hj => by simp at hj) (.nil _)

end
end Eng
end Go.Proofs.Ytpbokegnbipbjaa
