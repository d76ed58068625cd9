/- The engine, part I: appends, cuts, struct values, results. No condition. -/
import Derived.Test.YtpbokegnbipbjaaEngH
namespace Go.Proofs.Ytpbokegnbipbjaa
namespace Eng
open Go.RowKit

/-- append onto the head block; what is put behind it stands at an address. -/
theorem RelX.append {P : Program} {E fr Or a w F ρ n k els} {fp fp2 : List Nat} (h : RelX E ⟨fr, (n, k, els) :: Or⟩ a w F ρ fp) {els2 : List RV} {news : List Value} {a2 : Addr} {cap2 : Nat} (hc2 : CellsAt w a2 news) (h2 : OE w F ρ k els2 news fp2) (hone : ∀ y ∈ news, y.oneCell' = true)
    (hnd : (fp2 ++ fp).Nodup) (hfp2 : ∀ x ∈ fp2, ¬ F x ∧ (E.B0 x ∨ E.w0.heap.size ≤ x)) (hn1 : n ∉ RV.namesL els) (hn2 : n ∉ RV.namesL els2) (hn3 : n ∉ onames Or) {t ty : TypeId}
    (ht : P.underlying t = some (.slice (P.elem t))) (hw : P.cellsOf (P.elem t) = k) (hz : (zeroOf P (P.elem t)).map (fun z => decide (z.cells.size = k)) = some true) (hb : (P.info? (P.elem t)).map (fun i => decide (i.bytes ≤ 64)) = some true) (hlen : els.length + els2.length ≤ 1099511627776) :
    ∃ y w' ρ' fp', (Builtin.append_ #[t, t] ty #[.slice ((ρ n).1.map fun b => ⟨b, 0, none⟩) els.length (ρ n).2.2, .slice (some a2) els2.length cap2]).run P w = .ok y w' ∧ SV w' F ρ' (.ref n 0 (els.length + els2.length)) y [] ∧ RelX E ⟨RV.killL n fr, (n, k, els ++ els2) :: Or⟩ a w' F ρ' fp' := by
  cases hi : P.info? (P.elem t) with
  | none => simp [hi] at hb
  | some i =>
    simp only [hi, Option.map_some, Option.some.injEq, decide_eq_true_eq] at hb
    cases hzz : i.zero with
    | none => simp [zeroOf, hi, hzz] at hz
    | some z =>
    have hz' : z.cells.size = k := by simpa [zeroOf, hi, hzz] using hz
    have hw' : i.size = k := by simpa [Program.cellsOf, hi] using hw
    have hln := h2.length
    have hbytes : (els.length + els2.length) * i.bytes ≤ 140737488355328 := by
      have := Nat.mul_le_mul_left (els.length + els2.length) hb
      omega
    have hkill : ∀ s : List RV, ∀ n : Nat, ∀ F ρ w, (∀ i, SV w F ρ (lget s i) (a.tmps.getD i undef) []) → ∀ i, SV w F ρ (lget (RV.killL n s) i) (a.tmps.getD i undef) [] := fun s n F ρ w hs i => by
      rw [lget_killL]; exact (hs i).kill n (fun _ _ => rfl)
    -- behind a new block
    have renewed : ∀ (b0 : Nat) (fp1 fpr : List Nat) (olds : List Value) (cap : Nat), 0 < k → OL w F ρ Or fpr → OE w F ρ k els olds fp1 → (fp1 ++ fpr).Sublist fp → cap ≤ maxLen → els.length + els2.length ≤ cap →
        ∃ ρ' fp', SV (w.drew.alloc (.cells ((olds.toArray ++ news.toArray) ++ Builtin.zeroCells z.cells (cap - (els.length + els2.length))) (P.elem t))) F ρ' (.ref n 0 (els.length + els2.length)) (.slice (some ⟨w.heap.size, 0, none⟩) (els.length + els2.length) cap) [] ∧
          RelX E ⟨RV.killL n fr, (n, k, els ++ els2) :: Or⟩ a (w.drew.alloc (.cells ((olds.toArray ++ news.toArray) ++ Builtin.zeroCells z.cells (cap - (els.length + els2.length))) (P.elem t))) F ρ' fp' := by
      intro _ fp1 fpr olds cap hk hOr hE hsub hcap hle
      have hlo := hE.length
      have hnd1 : ((fp1 ++ fp2) ++ fpr).Nodup := by
        have h3 : (fp2 ++ (fp1 ++ fpr)).Nodup := hnd.sublist ((List.Sublist.refl _).append hsub)
        refine (List.Perm.nodup_iff ?_).1 h3
        rw [List.append_assoc]
        exact List.perm_append_comm_assoc _ _ _
      have hrel : RelX E ⟨fr, Or⟩ a w F ρ fpr := h.weakO hOr ((List.nodup_append.1 hnd1).2.1) fun x hx => hsub.subset (by simp [hx])
      obtain ⟨ρ', h4, h5⟩ := hrel.renew (n := n) (k := k) (els' := els ++ els2) (ty := P.elem t) (c' := (olds.toArray ++ news.toArray) ++ Builtin.zeroCells z.cells (cap - (els.length + els2.length))) (fp1' := fp1 ++ fp2) hk hOr cap hcap
        (by simp only [Array.size_append, List.size_toArray, size_zeroCells, hz', hlo, hln, ← Nat.add_mul]; congr 1; omega) (by simpa using hle)
        (by
          have e : (((olds.toArray ++ news.toArray) ++ Builtin.zeroCells z.cells (cap - (els.length + els2.length))).toList.take ((els ++ els2).length * k)) = olds ++ news := by
            simp only [Array.toList_append]
            refine List.take_left' ?_
            simp [hlo, hln, Nat.add_mul]
          rw [e]; exact hE.append h2)
        hnd1
        (fun x hx => by
          simp only [List.mem_append] at hx
          rcases hx with (hx | hx) | hx
          · exact ⟨h.fpF x (hsub.subset (by simp [hx])), h.fpE x (hsub.subset (by simp [hx]))⟩
          · exact hfp2 x hx
          · exact ⟨h.fpF x (hsub.subset (by simp [hx])), h.fpE x (hsub.subset (by simp [hx]))⟩)
        (by
          have : ∀ l : List RV, n ∉ RV.namesL l → n ∉ RV.namesL (l ++ els2) := by
            intro l
            induction l with
            | nil => intro _; simpa using hn2
            | cons x xs ih => intro hx; simp only [RV.namesL, List.mem_append, not_or, List.cons_append] at hx ⊢; exact ⟨hx.1, ih hx.2⟩
          exact this _ hn1) hn3
      exact ⟨ρ', _, by simpa using SV.ref_mk (w := w.drew.alloc _) (F := F) h4 0 (els.length + els2.length), h5⟩
    cases h.O with
    | nilb hk hρ hOr =>
      simp only [hρ, Option.map_none, List.length_nil, Nat.zero_add, List.nil_append]
      by_cases h0 : els2.length = 0
      · have he2 : els2 = [] := List.eq_nil_of_length_eq_zero h0
        subst he2
        cases h2
        refine ⟨.slice none 0 0, w, ρ, fp, ?_, ?_, ?_⟩
        · simp [Builtin.append_, run_underlying ht, sizeOf, typeInfo, hi, Builtin.lenOf, Builtin.firstCells, loadCells, loadCellsFrom]
        · have := OE.ref (w := w) (F := F) (ρ := ρ) n 0 0 (.nil _ _)
          simp only [hρ, Option.map_none] at this
          exact .one (.cell rfl this)
        · exact { h with size := by simpa using h.size, fr := hkill fr n F ρ w h.fr }
      · have hrun := run_append_nil (P := P) w t ty (P.elem t) i z ht hi hzz a2 els2.length cap2 news (by rw [hw']; exact hln) hc2 (by omega) (by omega) (by simp only [List.length_nil, Nat.zero_add] at hbytes; omega)
        obtain ⟨ρ', fp', h5, h6⟩ := renewed 0 [] fp [] (grownCap w els2.length 0 (P.elem t)) hk hOr (.nil _ _) (by simp) (grownCap_le_maxLen w _ _ _ (by simp only [maxLen]; omega)) (by simpa using grownCap_ge w els2.length 0 (P.elem t))
        exact ⟨_, _, ρ', fp', hrun, by simpa using h5, by simpa using h6⟩
    | @cons _ b _ _ tb c cells _ fp1 fpr hk hρ hρb hb' hs hl hm hc hE hOr =>
      simp only [hρb, Option.map_some]
      have hlo := hE.length
      have hcsz : els.length * k ≤ c.size := by rw [hs]; exact Nat.mul_le_mul_right _ hl
      by_cases hroom : els.length + els2.length ≤ (ρ n).2.2
      · have hfit : els.length * k + news.length ≤ c.size := by rw [hln, hs, ← Nat.add_mul]; exact Nat.mul_le_mul_right _ hroom
        have hf := run_firstCells_some (P := P) w i.size els2.length a2 els2.length cap2 news (by rw [hw']; exact hln) hc2
        have hst := run_storeCells_at P b (els.length * k) tb news 0 c w hb' (by simpa using hfit) hone
        simp only [Nat.add_zero] at hst
        have hrun : (Builtin.append_ #[t, t] ty #[.slice (some ⟨b, 0, none⟩) els.length (ρ n).2.2, .slice (some a2) els2.length cap2]).run P w =
            .ok (.slice (some ⟨b, 0, none⟩) (els.length + els2.length) (ρ n).2.2) (w.setRow b (c.toList.take (els.length * k) ++ news ++ c.toList.drop (els.length * k + news.length)).toArray) := by
          subst hw'
          simp [Builtin.append_, run_underlying ht, sizeOf, typeInfo, hi, Builtin.lenOf, hroom, hf, Addr.add_lit, hst]
        have hsub : (b :: (fp1 ++ fpr)).Sublist (b :: (fp1 ++ fpr)) := List.Sublist.refl _
        have hnd1 : (b :: ((fp1 ++ fp2) ++ fpr)).Nodup := by
          refine (List.Perm.nodup_iff ?_).1 hnd
          have e1 : fp2 ++ b :: (fp1 ++ fpr) = fp2 ++ (([b] ++ fp1) ++ fpr) := by simp
          have e2 : (b :: ((fp1 ++ fp2) ++ fpr)) = ([b] ++ fp1) ++ (fp2 ++ fpr) := by simp
          rw [e1, e2]
          exact List.perm_append_comm_assoc _ _ _
        have hmod := h.modify (els' := els ++ els2) (ty := tb) (c' := (c.toList.take (els.length * k) ++ news ++ c.toList.drop (els.length * k + news.length)).toArray) (fp1' := fp1 ++ fp2)
          (w' := w.setRow b (c.toList.take (els.length * k) ++ news ++ c.toList.drop (els.length * k + news.length)).toArray) hk hρ hρb hm hOr (by simp) (fun j hj => setRow_other w b j _ hj) (setRow_heap w b c _ tb _ hb')
          (by rw [← hs]; simp; omega) (by simpa using hroom)
          (by
            have e : (c.toList.take (els.length * k) ++ news ++ c.toList.drop (els.length * k + news.length)).toArray.toList.take ((els ++ els2).length * k) = cells ++ news := by
              rw [hc]
              refine List.take_left' ?_
              simp [hlo, hln, Nat.add_mul]
            rw [e]; exact hE.append h2) hnd1
          (fun x hx => by
            simp only [List.mem_append] at hx
            rcases hx with hx | hx
            · exact ⟨h.fpF x (by simp [hx]), h.fpE x (by simp [hx])⟩
            · exact hfp2 x hx) rfl rfl rfl
        refine ⟨_, _, ρ, _, hrun, ?_, { hmod with size := by simpa using hmod.size, fr := hkill fr n F ρ _ hmod.fr }⟩
        have := SV.ref_mk (w := w.setRow b (c.toList.take (els.length * k) ++ news ++ c.toList.drop (els.length * k + news.length)).toArray) (F := F) (ρ := ρ) (n := n) (k := k) (cap := (ρ n).2.2) (b := b) (by rw [← hρ, ← hρb]) 0 (els.length + els2.length)
        simpa using this
      · have holds : ∀ j u, cells[j]? = some u → w.cell? ((⟨b, 0, none⟩ : Addr).add j) = some u := by
          intro j u hj
          rw [Addr.add_lit, cell_of_row w b _ c tb _ hb']
          rw [← hc, List.getElem?_take] at hj
          split at hj
          · simpa using hj
          · cases hj
        have hrun := run_append_grow (P := P) w t ty (P.elem t) i z ht hi hzz ⟨b, 0, none⟩ els.length (ρ n).2.2 cells (by rw [hw']; exact hlo) holds a2 els2.length cap2 news (by rw [hw']; exact hln) hc2 (by omega) (by omega) (growslice_fits (by omega) hbytes)
        obtain ⟨ρ', fp', h5, h6⟩ := renewed b fp1 fpr cells (grownCap w (els.length + els2.length) (ρ n).2.2 (P.elem t)) hk hOr hE (List.sublist_cons_self _ _) (grownCap_le_maxLen w _ _ _ (by simp only [maxLen]; omega)) (grownCap_ge w _ _ _)
        exact ⟨_, _, ρ', fp', hrun, h5, h6⟩

end Eng
end Go.Proofs.Ytpbokegnbipbjaa
