/- The engine, part F: named blocks are made, written, lengthened. No condition. -/
import Derived.Test.YtpbokegnbipbjaaEngE
namespace Go.Proofs.Ytpbokegnbipbjaa
namespace Eng
open Go.RowKit

theorem S1.places {w F ρ ρ' e y fp} (h : S1 w F ρ e y fp) (hn : ∀ n ∈ e.names, ρ' n = ρ n) : S1 w F ρ' e y fp := by
  cases h with
  | any => exact .any _
  | v => exact .v _
  | cell ha h => exact .cell ha (h.places fun n hx => hn n (by simpa [RV.namesL] using hx))
  | agg h => exact .agg (h.places fun n hx => hn n (by simpa [RV.names] using hx))
  | fn h => exact .fn (h.places fun n hx => hn n (by simpa [RV.names] using hx))
theorem SL.places {w F ρ ρ' es ys fp} (h : SL w F ρ es ys fp) (hn : ∀ n ∈ RV.namesL es, ρ' n = ρ n) : SL w F ρ' es ys fp := by
  induction h with
  | nil => exact .nil
  | cons h1 _ ih => exact .cons (h1.places fun n hx => hn n (by simp [RV.namesL, hx])) (ih fun n hx => hn n (by simp [RV.namesL, hx]))
theorem SV.places {w F ρ ρ' e y fp} (h : SV w F ρ e y fp) (hn : ∀ n ∈ e.names, ρ' n = ρ n) : SV w F ρ' e y fp := by
  cases h with
  | one h => exact .one (h.places hn)
  | tup h => exact .tup (h.places fun n hx => hn n (by simpa [RV.names] using hx))
theorem names_lget (l : List RV) (i n : Nat) (h : n ∈ (lget l i).names) : n ∈ RV.namesL l := by
  induction l generalizing i with
  | nil => simp [lget, RV.names] at h
  | cons x xs ih => cases i with
    | zero => simp [RV.namesL]; exact .inl h
    | succ i => simp [RV.namesL]; exact .inr (ih i h)

theorem SV.agg_inv {w F ρ l y fp} (h : SV w F ρ (.agg l) y fp) : ∃ c, y = .agg c ∧ OE w F ρ 1 l c.toList fp := by
  cases h with
  | one h => cases h with
    | cell ha => simp [RV.isAgg] at ha
    | agg h => exact ⟨_, rfl, h⟩

/-- Another place for a name that stands nowhere, a new block with it. -/
theorem RelX.alloc {E s a w F ρ fp} (h : RelX E s a w F ρ fp) (dn k : Nat) (els : List RV) (ty : TypeId) (c : Array Value) (hk : 0 < k) (hs : c.size = els.length * k) (hl : els.length ≤ maxLen) (he : OE w F ρ k els c.toList [])
    (hd : dn ∉ RV.namesL s.fr) (hO : dn ∉ onames s.O) (hn : dn ∉ RV.namesL els) :
    ∃ ρ', ρ' dn = (some w.heap.size, k, els.length) ∧ RelX E ⟨s.fr, (dn, k, els) :: s.O⟩ a (w.alloc (.cells c ty)) F ρ' (w.heap.size :: fp) := by
  refine ⟨fun m => if m = dn then (some w.heap.size, k, els.length) else ρ m, by simp, ?_⟩
  have hne : ∀ m, m ≠ dn → (if m = dn then (some w.heap.size, k, els.length) else ρ m) = ρ m := fun m hm => by simp [hm]
  have hw := h.world (w' := w.alloc (.cells c ty)) (F' := F) (fun _ hx => hx) (fun b hx => ⟨.inl hx, by have := h.Fs b hx; simp; omega⟩) (fun b hb => _root_.Go.heap_alloc_old w _ hb) (by simp) rfl rfl rfl
  refine ⟨hw.defers, hw.size, fun i => (hw.fr i).places fun m hm => hne m (fun e => hd (e ▸ names_lget _ _ _ hm)), ?_, ?_, ?_, ?_, hw.F0, hw.Fn, hw.Fs, hw.keep, hw.hsize, hw.os, hw.tape, hw.output⟩
  · have hE : OE (w.alloc (.cells c ty)) F (fun m => if m = dn then (some w.heap.size, k, els.length) else ρ m) k els c.toList [] :=
      (he.mono (fun b hb => ⟨hb, _root_.Go.heap_alloc_old w _ (h.Fs b hb)⟩) (by simp)).places fun m hm => hne m (fun e => hn (e ▸ hm))
    have hOL := hw.O.places (ρ' := fun m => if m = dn then (some w.heap.size, k, els.length) else ρ m) fun m hm => hne m (fun e => hO (e ▸ hm))
    have := OL.cons (n := dn) (b := w.heap.size) (k := k) (els := els) (ty := ty) (c := c) (cells := c.toList) (w := w.alloc (.cells c ty)) (F := F) (ρ := fun m => if m = dn then (some w.heap.size, k, els.length) else ρ m)
      hk (by simp) (by simp) (_root_.Go.heap_alloc_new w _) (by simp [hs]) (by simp) (by simpa using hl) (by rw [List.take_of_length_le]; simp [hs]) hE hOL
    simpa using this
  · refine List.nodup_cons.2 ⟨fun hx => ?_, h.nodup⟩
    have := h.O.lt _ hx
    omega
  · intro b hb
    rcases List.mem_cons.1 hb with rfl | hb
    · exact fun hx => absurd (h.Fs _ hx) (by omega)
    · exact h.fpF b hb
  · intro b hb
    rcases List.mem_cons.1 hb with rfl | hb
    · exact .inr h.hsize
    · exact h.fpE b hb

theorem SV.ptr_mk {w F} {ρ : Places} {n k cap b : Nat} (h : ρ n = (some b, k, cap)) (i j : Nat) : SV w F ρ (.ptr n i j) (.pointer (some ⟨b, i * k + j, none⟩)) [] := by
  have := OE.ptr (w := w) (F := F) (ρ := ρ) n i j (.nil _ _)
  simp only [h, Option.map_some] at this
  exact .one (.cell rfl this)
theorem SV.ref_mk {w F} {ρ : Places} {n k cap b : Nat} (h : ρ n = (some b, k, cap)) (off len : Nat) : SV w F ρ (.ref n off len) (.slice (some ⟨b, off * k, none⟩) len (cap - off)) [] := by
  have := OE.ref (w := w) (F := F) (ρ := ρ) n off len (.nil _ _)
  simp only [h, Option.map_some] at this
  exact .one (.cell rfl this)

/-- The head block is written. -/
theorem RelX.modify {E fr Or a w F ρ n k els els' b ty c' fp1 fp1' fpr w'} (h : RelX E ⟨fr, (n, k, els) :: Or⟩ a w F ρ (b :: (fp1 ++ fpr))) (hk : 0 < k) (hρ : (ρ n).2.1 = k) (hρb : (ρ n).1 = some b) (hm : (ρ n).2.2 ≤ maxLen) (hOr : OL w F ρ Or fpr)
    (hsz : w'.heap.size = w.heap.size) (hoth : ∀ j, j ≠ b → w'.heap[j]? = w.heap[j]?) (hb' : w'.heap[b]? = some (.cells c' ty (0, 0))) (hs' : c'.size = (ρ n).2.2 * k) (hl' : els'.length ≤ (ρ n).2.2)
    (he : OE w F ρ k els' (c'.toList.take (els'.length * k)) fp1') (hnd : (b :: (fp1' ++ fpr)).Nodup) (hF1 : ∀ x ∈ fp1', ¬ F x ∧ (E.B0 x ∨ E.w0.heap.size ≤ x)) (h1 : w'.os = w.os) (h2 : w'.tape = w.tape) (h3 : w'.output = w.output) :
    RelX E ⟨fr, (n, k, els') :: Or⟩ a w' F ρ (b :: (fp1' ++ fpr)) := by
  have hbF : ¬ F b := h.fpF b (by simp)
  have hFb : ∀ x, F x → F x ∧ w'.heap[x]? = w.heap[x]? := fun x hx => ⟨hx, hoth x (fun e => hbF (e ▸ hx))⟩
  have hnd' := List.nodup_cons.1 hnd
  have hnb : ∀ x ∈ fp1' ++ fpr, x ≠ b := fun x hx e => hnd'.1 (e ▸ hx)
  refine ⟨h.defers, h.size, fun i => (h.fr i).mono hFb (by simp), ?_, hnd, ?_, ?_, h.F0, h.Fn, fun x hx => by rw [hsz]; exact h.Fs x hx, ?_, by rw [hsz]; exact h.hsize, h1.trans h.os, h2.trans h.tape, h3.trans h.output⟩
  · exact .cons hk hρ hρb hb' hs' hl' hm rfl (he.mono hFb fun x hx => hoth x (hnb x (by simp [hx]))) (hOr.mono hFb fun x hx => hoth x (hnb x (by simp [hx])))
  · intro x hx
    simp only [List.mem_cons, List.mem_append] at hx
    rcases hx with rfl | hx | hx
    · exact hbF
    · exact (hF1 x hx).1
    · exact h.fpF x (by simp [hx])
  · intro x hx
    simp only [List.mem_cons, List.mem_append] at hx
    rcases hx with rfl | hx | hx
    · exact h.fpE x (by simp)
    · exact (hF1 x hx).2
    · exact h.fpE x (by simp [hx])
  · intro x hx hB
    rw [hoth x (fun e => ?_)]
    · exact h.keep x hx hB
    · subst e
      rcases h.fpE x (by simp) with h4 | h4
      · exact hB h4
      · omega

/-- The head block is laid anew. -/
theorem RelX.renew {E fr Or a w F ρ n k els' ty c' fpo fp1' fpr} (h : RelX E ⟨fr, Or⟩ a w F ρ fpo) (hk : 0 < k) (hOr : OL w F ρ Or fpr) (cap : Nat) (hcap : cap ≤ maxLen) (hs' : c'.size = cap * k) (hl' : els'.length ≤ cap)
    (he : OE w F ρ k els' (c'.toList.take (els'.length * k)) fp1') (hnd : (fp1' ++ fpr).Nodup) (hF1 : ∀ x ∈ fp1' ++ fpr, ¬ F x ∧ (E.B0 x ∨ E.w0.heap.size ≤ x)) (hn1 : n ∉ RV.namesL els') (hn2 : n ∉ onames Or) :
    ∃ ρ', ρ' n = (some w.heap.size, k, cap) ∧ RelX E ⟨RV.killL n fr, (n, k, els') :: Or⟩ a (w.drew.alloc (.cells c' ty)) F ρ' (w.heap.size :: (fp1' ++ fpr)) := by
  refine ⟨fun m => if m = n then (some w.heap.size, k, cap) else ρ m, by simp, ?_⟩
  have hne : ∀ m, m ≠ n → (if m = n then (some w.heap.size, k, cap) else ρ m) = ρ m := fun m hm => by simp [hm]
  have hold : ∀ b, b < w.heap.size → (w.drew.alloc (.cells c' ty)).heap[b]? = w.heap[b]? := fun b hb => _root_.Go.heap_alloc_old w.drew _ hb
  have hw := h.world (w' := w.drew.alloc (.cells c' ty)) (F' := F) (fun _ hx => hx) (fun b hx => ⟨.inl hx, by have := h.Fs b hx; simp; omega⟩) hold (by simp) rfl rfl rfl
  have hFb : ∀ x, F x → F x ∧ (w.drew.alloc (.cells c' ty)).heap[x]? = w.heap[x]? := fun x hx => ⟨hx, hold x (h.Fs x hx)⟩
  refine ⟨hw.defers, by simpa using hw.size, fun i => ?_, ?_, ?_, ?_, ?_, hw.F0, hw.Fn, hw.Fs, hw.keep, hw.hsize, hw.os, hw.tape, hw.output⟩
  · show SV _ _ _ (lget (RV.killL n fr) i) _ _
    rw [lget_killL]
    exact (hw.fr i).kill n hne
  · have hE := (he.mono hFb fun x hx => hold x (he.lt x hx)).places (ρ' := fun m => if m = n then (some w.heap.size, k, cap) else ρ m) fun m hm => hne m (fun e => hn1 (e ▸ hm))
    have hOL := (hOr.mono hFb fun x hx => hold x (hOr.lt x hx)).places (ρ' := fun m => if m = n then (some w.heap.size, k, cap) else ρ m) fun m hm => hne m (fun e => hn2 (e ▸ hm))
    exact .cons hk (by simp) (by simp) (_root_.Go.heap_alloc_new w.drew _) (by simp [hs']) (by simpa using hl') (by simpa using hcap) rfl hE hOL
  · refine List.nodup_cons.2 ⟨fun hx => ?_, hnd⟩
    have h5 : ∀ x ∈ fp1' ++ fpr, x < w.heap.size := fun x hx => by
      rcases List.mem_append.1 hx with hx | hx
      · exact he.lt x hx
      · exact hOr.lt x hx
    have := h5 _ hx
    omega
  · intro x hx
    rcases List.mem_cons.1 hx with rfl | hx
    · exact fun hx => absurd (h.Fs _ hx) (by omega)
    · exact (hF1 x hx).1
  · intro x hx
    rcases List.mem_cons.1 hx with rfl | hx
    · exact .inr h.hsize
    · exact (hF1 x hx).2

theorem RelX.weakO {E s a w F ρ fp O' fp'} (h : RelX E s a w F ρ fp) (hO : OL w F ρ O' fp') (hn : fp'.Nodup) (hs : ∀ b ∈ fp', b ∈ fp) : RelX E ⟨s.fr, O'⟩ a w F ρ fp' :=
  { h with O := hO, nodup := hn, fpF := fun b hb => h.fpF b (hs b hb), fpE := fun b hb => h.fpE b (hs b hb) }

section
variable {P : Program} {s : St} {d : Tmp} {ty : TypeId} {pos : String} {after : Array Edge} {g : Option (Nat × Bool)}

/-- An operation that yields a value in a new world. -/
theorem ops_of {o : Oper} {s' : St} (h : ∀ E a w F ρ fp, RelX E s a w F ρ fp → ∃ y w', (execOp a.eval o).run P w = .ok (.value y) w' ∧ Rel E s' (a.put o.dst y) w') : OpS P o s s' := by
  rintro E a w ⟨F, ρ, fp, hr⟩ K Q hK
  obtain ⟨y, w', h1, h2⟩ := h E a w F ρ fp hr
  simp only [Oper.wp, h1, Oper.upon_value]
  exact hK _ _ h2
theorem ops_of_skip {o : Oper} {s' : St} (h : ∀ E a w F ρ fp, RelX E s a w F ρ fp → ∃ w', (execOp a.eval o).run P w = .ok .skip w' ∧ Rel E s' (a.put o.dst undef) w') : OpS P o s s' := by
  rintro E a w ⟨F, ρ, fp, hr⟩ K Q hK
  obtain ⟨w', h1, h2⟩ := h E a w F ρ fp hr
  simp only [Oper.wp, h1, Oper.upon_skip]
  exact hK _ _ h2

theorem ops_box {x t r} (hx : s.get x = r) (hst : r.stores = true) (hd : d ∉ RV.namesL s.fr) (hO : d ∉ onames s.O) (hn : d ∉ r.names) : OpS P ⟨some d, .box t x, ty, pos, after, g⟩ s ⟨lset s.fr d (.ptr d 0 0), (d, 1, [r]) :: s.O⟩ :=
  ops_of fun E a w F ρ fp hr => by
    have h1 := hr.get x
    rw [hx] at h1
    obtain ⟨h2, h3⟩ := h1.to_cell hst
    obtain ⟨ρ', h4, h5⟩ := hr.alloc d 1 [r] t #[a.eval x] (by omega) (by simp) (by simp [maxLen]) h2 hd hO (by simpa [RV.namesL] using hn)
    have hcells : (a.eval x).cells = #[a.eval x] := by cases hy : a.eval x <;> simp [hy, Value.oneCell', Value.cells] at h3 ⊢
    refine ⟨.pointer (some ⟨w.heap.size, 0, none⟩), w.alloc (.cells #[a.eval x] t), ?_, _, _, _, h5.put (some d) (SV.ptr_mk h4 0 0)⟩
    simp [execOp, Instr.box, newVar, newRow, hcells]

theorem ops_boxa {x t l} (hx : s.get x = .agg l) (h0 : 0 < l.length) (hd : d ∉ RV.namesL s.fr) (hO : d ∉ onames s.O) (hn : d ∉ RV.namesL l) : OpS P ⟨some d, .box t x, ty, pos, after, g⟩ s ⟨lset s.fr d (.ptr d 0 0), (d, l.length, [.agg l]) :: s.O⟩ :=
  ops_of fun E a w F ρ fp hr => by
    have h1 := hr.get x
    rw [hx] at h1
    obtain ⟨c, h2, h3⟩ := h1.agg_inv
    have hl := h3.length
    have h3' : OE w F ρ l.length [.agg l] c.toList [] := OE.of_cellsL (e := .agg l) h3 rfl
    obtain ⟨ρ', h4, h5⟩ := hr.alloc d l.length [.agg l] t c h0 (by simpa using hl) (by simp [maxLen]) h3' hd hO (by simpa [RV.namesL, RV.names] using hn)
    refine ⟨.pointer (some ⟨w.heap.size, 0, none⟩), w.alloc (.cells c t), ?_, F, ρ', w.heap.size :: fp, ?_⟩
    · simp [execOp, Instr.box, newVar, newRow, h2, Value.cells]
    · have := h5.put (some d) (SV.ptr_mk h4 0 0); simpa [sput] using this

/-- The zero value's cells. -/
def zeroOf (P : Program) (t : TypeId) : Option Value := (P.info? t).bind (·.zero)
theorem run_zeroValue {P : Program} {t : TypeId} {z : Value} (h : zeroOf P t = some z) (w : World) : (zeroValue t).run P w = .ok z w := by
  unfold zeroOf at h
  cases hi : P.info? t with
  | none => simp [hi] at h
  | some i => simp [hi] at h; simp [zeroValue, typeInfo, hi, h]

theorem OE.vs {w F ρ} (zs : List Value) (h : ∀ z ∈ zs, z.oneCell' = true) : OE w F ρ 1 (zs.map .v) zs [] := by
  refine OE.of_FE ?_
  induction zs with
  | nil => exact .nil _
  | cons z zs ih => exact .v z (h z (by simp)) (ih fun y hy => h y (by simp [hy]))
theorem namesL_vs (zs : List Value) : RV.namesL (zs.map .v) = [] := by
  induction zs with
  | nil => simp [RV.namesL]
  | cons z zs ih => simp [RV.namesL, RV.names, ih]

theorem ops_alloc {t z} (hz : zeroOf P t = some z) (h1 : z.oneCell' = true) (hd : d ∉ RV.namesL s.fr) (hO : d ∉ onames s.O) : OpS P ⟨some d, .alloc t, ty, pos, after, g⟩ s ⟨lset s.fr d (.ptr d 0 0), (d, 1, [.v z]) :: s.O⟩ :=
  ops_of fun E a w F ρ fp hr => by
    obtain ⟨ρ', h4, h5⟩ := hr.alloc d 1 [.v z] t #[z] (by omega) (by simp) (by simp [maxLen]) (OE.vs [z] (by simpa using h1)) hd hO (by simp [RV.namesL, RV.names])
    have hcells : z.cells = #[z] := by cases z <;> simp [Value.oneCell', Value.cells] at h1 ⊢
    refine ⟨.pointer (some ⟨w.heap.size, 0, none⟩), w.alloc (.cells #[z] t), ?_, _, _, _, h5.put (some d) (SV.ptr_mk h4 0 0)⟩
    simp [execOp, Instr.alloc, run_zeroValue hz, newVar, newRow, hcells]
theorem ops_alloca {t zs} (hz : zeroOf P t = some (.agg (List.toArray zs))) (h0 : 0 < zs.length) (h1 : zs.all Value.oneCell' = true) (hd : d ∉ RV.namesL s.fr) (hO : d ∉ onames s.O) : OpS P ⟨some d, .alloc t, ty, pos, after, g⟩ s ⟨lset s.fr d (.ptr d 0 0), (d, zs.length, [.agg (zs.map .v)]) :: s.O⟩ :=
  ops_of fun E a w F ρ fp hr => by
    have h2 : OE w F ρ zs.length [.agg (zs.map .v)] zs [] := OE.of_cellsL (e := .agg (zs.map .v)) (OE.vs zs (by simpa using h1)) (by simp [RV.width])
    obtain ⟨ρ', h4, h5⟩ := hr.alloc d zs.length [.agg (zs.map .v)] t zs.toArray h0 (by simp) (by simp [maxLen]) (by simpa using h2) hd hO (by simp [RV.namesL, RV.names, namesL_vs])
    refine ⟨.pointer (some ⟨w.heap.size, 0, none⟩), w.alloc (.cells zs.toArray t), ?_, F, ρ', w.heap.size :: fp, ?_⟩
    · simp [execOp, Instr.alloc, run_zeroValue hz, newVar, newRow, Value.cells]
    · have := h5.put (some d) (SV.ptr_mk h4 0 0); simpa [sput] using this

end
end Eng
end Go.Proofs.Ytpbokegnbipbjaa
