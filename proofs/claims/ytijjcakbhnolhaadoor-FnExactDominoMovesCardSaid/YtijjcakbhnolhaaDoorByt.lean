/- Rules of the engine: bytes made of a string, written, and made a string again. No condition. -/
import Derived.Laws.IdiomStrings
import Derived.Test.YtijjcakbhnolhaaDoorMp
namespace Go.Proofs.YtijjcakbhnolhaaDoor
set_option linter.unusedSimpArgs false
set_option linter.unusedVariables false
set_option maxHeartbeats 0
set_option maxRecDepth 100000
namespace Eng
open Go.RowKit
section
variable {P : Program} {s : St} {d : Tmp} {ty : TypeId} {pos : String} {after : Array Edge} {g : Option (Nat × Bool)}
theorem byEls_inj {b b' cap cap' : Nat} {l l' : List UInt8} (h : byEls b cap l = byEls b' cap' l') : b = b' ∧ cap = cap' ∧ l = l' := by
  unfold byEls at h
  simp only [List.cons.injEq, RV.v.injEq, Value.slice.injEq, Option.some.injEq, Value.string.injEq, ByteArray.mk.injEq, and_true] at h
  obtain ⟨⟨h1, _, h3⟩, h4⟩ := h
  exact ⟨by simpa using h1, h3, by simpa using h4⟩
theorem byEls_names (b cap : Nat) (l : List UInt8) : RV.namesL (byEls b cap l) = [] := by simp [byEls, RV.namesL, RV.names]
theorem RelX.byHead {E fr Or a w F ρ fp n b cap l} (h : RelX E ⟨fr, (n, 0, byEls b cap l) :: Or⟩ a w F ρ fp) : ∃ fpr c ty z, w.heap[b]? = some (.cells c ty z) ∧ c.size ≤ z.1 ∧ l.length ≤ c.size ∧ (c.toList.take l.length = l.map fun x : UInt8 => Value.int .u8 ((x.toNat : Nat) : Int)) ∧
    ∀ c' l', c'.size = c.size → l'.length = l.length → (c'.toList.take l'.length = l'.map fun x : UInt8 => Value.int .u8 ((x.toNat : Nat) : Int)) → RelX E ⟨fr, (n, 0, byEls b cap l') :: Or⟩ a { w with heap := w.heap.setIfInBounds b (.cells c' ty z) } F ρ (b :: fpr) := by
  have hO := h.O
  generalize hz0 : byEls b cap l = els at hO
  generalize hk : 0 = k at hO
  cases hO with
  | nilb h0 => exact absurd h0 (by omega)
  | cons h0 => exact absurd h0 (by omega)
  | @map _ b' _ _ fpr hρ hb0 hOr =>
    cases hb0 with
    | map => simp [mapEls, byEls] at hz0
    | iter => simp [itEls, byEls] at hz0
    | @byt _ _ c ty z hb hz hl hc =>
    obtain ⟨rfl, rfl, rfl⟩ := byEls_inj hz0
    refine ⟨fpr, c, ty, z, hb, hz, hl, hc, fun c' l' h1 h2 h3 => ?_⟩
    have hbF : ¬ F b := h.fpF b (by simp)
    have hlt : b < w.heap.size := (Array.getElem?_eq_some_iff.1 hb).1
    have hoth : ∀ j, j ≠ b → (w.heap.setIfInBounds b (.cells c' ty z))[j]? = w.heap[j]? := fun j hj => by simp [Ne.symm hj]
    have hFb : ∀ x, F x → F x ∧ (w.heap.setIfInBounds b (.cells c' ty z))[x]? = w.heap[x]? := fun x hx => ⟨hx, hoth x (fun e => hbF (e ▸ hx))⟩
    have hnd := h.nodup
    have hnd' := List.nodup_cons.1 hnd
    refine ⟨h.defers, h.size, fun i => (h.fr i).mono hFb (by simp), ?_, hnd, h.fpF, h.fpE, h.F0, h.Fn, fun x hx => by simpa using h.Fs x hx, ?_, by simpa using h.hsize, h.os, h.tape, h.output, h.pin⟩
    · exact .map hρ (.byt (c := c') (ty := ty) (z := z) (by simp [hlt]) (by omega) (by omega) h3) (hOr.mono hFb fun x hx => hoth x fun e => hnd'.1 (e ▸ hx))
    · intro x h1 h2
      have hne : x ≠ b := by
        rintro rfl
        rcases h.fpE x (by simp) with h3 | h3
        · exact h2 h3
        · omega
      rw [show ({ w with heap := w.heap.setIfInBounds b (.cells c' ty z) } : World).heap[x]? = w.heap[x]? from hoth x hne]
      exact h.keep x h1 h2
theorem opx_bytes {t u e x} {bs : List UInt8} (hx : s.get x = RV.str bs) (ht : P.underlying t = some .string) (hu : P.underlying u = some (.slice e)) (he : P.underlying e = some (.int .u8)) (hd : d < 1000000000000 ∧ d ∉ RV.namesL s.fr) (hO : d ∉ onames s.O) :
    OpX' P ⟨some d, .convert t u x, ty, pos, after, g⟩ s (fun _ : Nat × Nat => True) fun q => ⟨lset s.fr d (.v (.slice (some ⟨q.1, 0, none⟩) bs.length q.2)), (d, 0, byEls q.1 q.2 bs) :: s.O⟩ := by
  rintro E a w ⟨F, ρ, fp, h⟩ K Q hK
  obtain ⟨G, hG⟩ : ∃ G, grownCap w (⟨bs.toArray⟩ : ByteArray).size 0 e = G := ⟨_, rfl⟩
  obtain ⟨C, hC⟩ : ∃ C, bytesRow ⟨bs.toArray⟩ G = C := ⟨_, rfl⟩
  have hrun : (execOp a.eval ⟨some d, .convert t u x, ty, pos, after, g⟩).run P w = .ok (.value (.slice (some ⟨w.heap.size, 0, none⟩) bs.length G)) (w.drew.alloc (.cells C e (C.size, C.size + 1))) := by
    have := run_bytes_of_string (P := P) w t u e ⟨bs.toArray⟩ ht hu he
    rw [hG, hC] at this
    simp only [execOp, h.ex hx]
    simp [this, ByteArray.size]
  have hCs : bs.length ≤ C.size := by rw [← hC]; simp [bytesRow]
  have hCt : C.toList.take bs.length = bs.map fun x : UInt8 => Value.int .u8 ((x.toNat : Nat) : Int) := by
    rw [← hC]
    simp [bytesRow]
  simp only [Oper.wp, hrun, Oper.upon_value]
  refine hK (w.heap.size, G) trivial _ _ ⟨F, fun m => if m = d then (some w.heap.size, 0, 0) else ρ m, w.heap.size :: fp, ?_⟩
  have hne : ∀ m, m ≠ d → (if m = d then (some w.heap.size, 0, 0) else ρ m) = ρ m := fun m hm => by simp [hm]
  have hw := h.world (w' := w.drew.alloc (.cells C e (C.size, C.size + 1))) (F' := F) (fun _ hx => hx) (fun b hx => ⟨.inl hx, by have := h.Fs b hx; simp; omega⟩) (fun b hb => _root_.Go.heap_alloc_old w.drew _ hb) (by simp) rfl ⟨rfl, .inl (by first | exact Nat.le_refl _ | exact Nat.le_succ _)⟩ rfl
  have hx : RelX E ⟨s.fr, (d, 0, byEls w.heap.size G bs) :: s.O⟩ a (w.drew.alloc (.cells C e (C.size, C.size + 1))) F (fun m => if m = d then (some w.heap.size, 0, 0) else ρ m) (w.heap.size :: fp) := by
    refine ⟨hw.defers, hw.size, fun i => (hw.fr i).places fun m hm => hne m (fun e => hd.2 (e ▸ names_lget _ _ _ hm)), ?_, ?_, ?_, ?_, hw.F0, hw.Fn, hw.Fs, hw.keep, hw.hsize, hw.os, hw.tape, hw.output, fun n hn => (hne n (fun e => by rw [e] at hn; exact Nat.lt_irrefl _ (Nat.lt_of_lt_of_le hd.1 hn))).trans (hw.pin n hn)⟩
    · have hOL := hw.O.places (ρ' := fun m => if m = d then (some w.heap.size, 0, 0) else ρ m) fun m hm => hne m (fun e => hO (e ▸ hm))
      exact OL.map (by simp) (KObj.byt (_root_.Go.heap_alloc_new w.drew _) (Nat.le_refl _) hCs hCt) hOL
    · refine List.nodup_cons.2 ⟨fun hx => ?_, h.nodup⟩
      have := h.O.lt _ hx
      omega
    · intro b hb
      rcases List.mem_cons.1 hb with rfl | hb
      · exact fun hx => absurd (h.Fs _ hx) (by omega)
      · exact h.fpF b hb
    · intro b hb
      rcases List.mem_cons.1 hb with rfl | hb
      · exact .inr h.hsize
      · exact h.fpE b hb
  exact hx.put (some d) (.one (.v _))
theorem l_bytes {ops rest R} {fr : List RV} {O : List Bk} {t u e x} {bs : List UInt8} {fr' : Nat → Nat → List RV} (ht : P.underlying t = some .string) (hu : P.underlying u = some (.slice e)) (he : P.underlying e = some (.int .u8)) (hx : St.get ⟨fr, O⟩ x = RV.str bs := by rfl) (hd : d < 1000000000000 ∧ d ∉ RV.namesL fr := by simp [nm]) (hO : d ∉ onames O := by simp [nm, onames]) (e : ∀ b cap, lset fr d (.v (.slice (some ⟨b, 0, none⟩) bs.length cap)) = fr' b cap := by intro b cap; simp only [lset] <;> rfl)
    (hk : ∀ b cap, L P ops rest R ⟨fr' b cap, (d, 0, byEls b cap bs) :: O⟩) : L P ops (⟨some d, .convert t u x, ty, pos, after, none⟩ :: rest) R ⟨fr, O⟩ :=
  l_opx' rfl (opx_bytes hx ht hu he hd hO) fun q _ => by have := hk q.1 q.2; rw [← e q.1 q.2] at this; exact this
theorem ops_byidx {x ix c k b len cap i} (hx : s.get x = .v (.slice (some ⟨b, 0, none⟩) len cap)) (hi : s.get ix = .v (.int k (i : Nat))) (hl : i < len) (ht : P.underlying c = some (.slice (P.elem c))) (hw : P.cellsOf (P.elem c) = 1) :
    OpS P ⟨some d, .indexAddr c x ix, ty, pos, after, g⟩ s ⟨lset s.fr d (.v (.pointer (some ⟨b, i, none⟩))), s.O⟩ :=
  ops_exact fun _ a w F ρ fp hr => by
    have h5 := run_sizeOf (P := P) (e := P.elem c) (k := 1) hw (by omega) w
    simp only [execOp, hr.ex hx, hr.ex hi, Sem.run_bind, run_indexAt_slice _ _ _ _ _ _ _ ht]
    rw [if_pos (by omega)]
    simp [h5, Addr.add_lit]
theorem ops_bystore {x v t n b cap i} {l : List UInt8} {y : UInt8} (hx : s.get x = .v (.pointer (some ⟨b, i, none⟩))) (hv : s.get v = RVy y) (ho : olook n s.O = some (0, byEls b cap l)) (hi : i < l.length) (ht : P.cellsOf t = 1) :
    OpS P ⟨none, .store t x v, ty, pos, after, g⟩ s ⟨s.fr, oset n (byEls b cap (l.set i y)) s.O⟩ :=
  ops_of_skip fun E a w F ρ fp h => by
    obtain ⟨fp', h'⟩ := h.front ho
    obtain ⟨fpr, c, tb, z, hb, hz, hl, hc, hset⟩ := h'.byHead
    have hcs : i < c.size := by omega
    have hx' := hset (c.setIfInBounds i (.int .u8 (y.toNat : Nat))) (l.set i y) (by simp) (by simp) (by
      rw [List.length_set, Array.toList_setIfInBounds, List.take_set, hc, List.map_set])
    obtain ⟨fp'', h4⟩ := RelX.back (n := n) (k := 0) (els := byEls b cap (l.set i y)) (O := oset n (byEls b cap (l.set i y)) s.O) (fp := b :: fpr) (by rw [oerase_oset]; exact hx') (olook_oset ho)
    refine ⟨_, ?_, F, ρ, fp'', h4.put none (r := .any) (.one (.any _))⟩
    have hcell : w.cell? ⟨b, i, none⟩ = some c[i] := by simp [World.cell?, hb, hcs]
    have hfz : w.frozen? ⟨b, i, none⟩ = false := by
      obtain ⟨z1, z2⟩ := z
      simp only [World.frozen?, hb]
      have : ¬ z1 ≤ i := by simp only at hz; omega
      simp [this]
    have hset2 : w.setCell ⟨b, i, none⟩ (.int .u8 (y.toNat : Nat)) = { w with heap := w.heap.setIfInBounds b (.cells (c.setIfInBounds i (.int .u8 (y.toNat : Nat))) tb z) } := by
      unfold World.setCell
      congr 1
      apply Array.ext_getElem?
      intro q
      rw [Array.getElem?_modify]
      by_cases hq : b = q
      · subst hq
        have hlt : b < w.heap.size := (Array.getElem?_eq_some_iff.1 hb).1
        have hbb : w.heap[b] = .cells c tb z := (Array.getElem?_eq_some_iff.1 hb).2
        simp [hbb, hlt]
      · simp [hq]
    obtain ⟨ti, hti, hsz⟩ : ∃ ti, P.info? t = some ti ∧ ti.size = 1 := by
      unfold Program.cellsOf at ht
      cases hi : P.info? t with
      | none => simp [hi] at ht
      | some ti => simp [hi] at ht; exact ⟨ti, rfl, ht⟩
    have hst := run_storeCells_cells (P := P) b i [.int .u8 (y.toNat : Nat)] 0 w (fun j hj => by
      obtain rfl : j = 0 := by simpa using hj
      simpa using (by rw [hcell]; rfl : (w.cell? ⟨b, i, none⟩).isSome = true)) (fun j hj => by
      obtain rfl : j = 0 := by simpa using hj
      simpa using hfz) (fun v hv => by simp at hv; subst hv; rfl)
    simp [execOp, h.ex hx, h.ex hv, Instr.storeAt, Instr.sureAddr, storeVar, sizeOf, typeInfo, hti, hsz, Value.cells, hst]
    refine Eq.trans ?_ hset2
    simp [World.setCells]
theorem ops_bystr {x t u e n b cap} {l : List UInt8} (hx : s.get x = .v (.slice (some ⟨b, 0, none⟩) l.length cap)) (ho : olook n s.O = some (0, byEls b cap l)) (hs : P.underlying t = some (.slice e)) (he : P.underlying e = some (.int .u8)) (hd : P.underlying u = some .string) :
    OpS P ⟨some d, .convert t u x, ty, pos, after, g⟩ s ⟨lset s.fr d (RV.str l), s.O⟩ :=
  ops_of fun E a w F ρ fp h => by
    obtain ⟨fp', h'⟩ := h.front ho
    obtain ⟨fpr, c, tb, z, hb, hz, hl, hc, hset⟩ := h'.byHead
    have hrun := run_convert_bytes_back (P := P) w t u e ⟨b, 0, none⟩ cap l hs he hd (fun j hj => by
      rw [Addr.add_lit]
      have e1 : w.cell? ⟨b, 0 + j, none⟩ = c[j]? := by simp [World.cell?, hb]
      have h2 : (c.toList.take l.length)[j]? = some (.int .u8 (l[j].toNat : Int)) := by rw [hc]; simp [hj]
      rw [List.getElem?_take_of_lt hj] at h2
      rw [e1]
      simpa using h2)
    refine ⟨.string ⟨l.toArray⟩, w, by simp only [execOp, h.ex hx]; simp [hrun], F, ρ, fp, h.put (some d) (.one (.v _))⟩
end
end Eng
end Go.Proofs.YtijjcakbhnolhaaDoor
