/- Rules of the engine: strings that are gone through letter by letter, of letters below 128. No condition. -/
import Derived.Laws.RangeString
import Derived.Test.YtijjcakbhnolhaaDoorMp
namespace Go.Proofs.YtijjcakbhnolhaaDoor
set_option linter.unusedSimpArgs false
set_option linter.unusedVariables false
set_option maxHeartbeats 0
set_option maxRecDepth 100000
namespace Eng
open Go.RowKit
section
variable {P : Program} {s : St} {d : Tmp} {ty : TypeId} {pos : String} {after : Array Edge} {g : Option (Nat × Bool)}
theorem itEls_inj {b b' : Nat} {s s' : ByteArray} {p p' : Nat} (h : itEls b s p = itEls b' s' p') : b = b' ∧ s = s' ∧ p = p' := by
  unfold itEls at h
  simp only [List.cons.injEq, RV.v.injEq, Value.pointer.injEq, Option.some.injEq, Value.string.injEq, Value.int.injEq, and_true, true_and] at h
  refine ⟨?_, h.2.1, by have := h.2.2; omega⟩
  have := h.1
  simpa using this
theorem RelX.itHead {E fr Or a w F ρ fp n b t p} (h : RelX E ⟨fr, (n, 0, itEls b t p) :: Or⟩ a w F ρ fp) : ∃ fpr, w.heap[b]? = some (.stringIter t p) ∧
    ∀ p', RelX E ⟨fr, (n, 0, itEls b t p') :: Or⟩ a { w with heap := w.heap.setIfInBounds b (.stringIter t p') } F ρ (b :: fpr) := by
  have hO := h.O
  generalize hz : itEls b t p = els at hO
  generalize hk : 0 = k at hO
  cases hO with
  | nilb h0 => exact absurd h0 (by omega)
  | cons h0 => exact absurd h0 (by omega)
  | @map _ b' _ _ fpr hρ hb0 hOr =>
    cases hb0 with
    | map => simp [mapEls, itEls] at hz
    | byt => simp [byEls, itEls] at hz
    | iter hb =>
    obtain ⟨rfl, rfl, rfl⟩ := itEls_inj hz
    refine ⟨fpr, hb, fun p' => ?_⟩
    have hbF : ¬ F b := h.fpF b (by simp)
    have hlt : b < w.heap.size := (Array.getElem?_eq_some_iff.1 hb).1
    have hoth : ∀ j, j ≠ b → (w.heap.setIfInBounds b (.stringIter t p'))[j]? = w.heap[j]? := fun j hj => by simp [Ne.symm hj]
    have hFb : ∀ x, F x → F x ∧ (w.heap.setIfInBounds b (.stringIter t p'))[x]? = w.heap[x]? := fun x hx => ⟨hx, hoth x (fun e => hbF (e ▸ hx))⟩
    have hnd := h.nodup
    have hnd' := List.nodup_cons.1 hnd
    refine ⟨h.defers, h.size, fun i => (h.fr i).mono hFb (by simp), ?_, hnd, h.fpF, h.fpE, h.F0, h.Fn, fun x hx => by simpa using h.Fs x hx, ?_, by simpa using h.hsize, h.os, h.tape, h.output, h.pin⟩
    · exact .map hρ (.iter (by simp [hlt])) (hOr.mono hFb fun x hx => hoth x fun e => hnd'.1 (e ▸ hx))
    · intro x h1 h2
      have hne : x ≠ b := by
        rintro rfl
        rcases h.fpE x (by simp) with h3 | h3
        · exact h2 h3
        · omega
      rw [show ({ w with heap := w.heap.setIfInBounds b (.stringIter t p') } : World).heap[x]? = w.heap[x]? from hoth x hne]
      exact h.keep x h1 h2
theorem opx_range {t x} {bs : List UInt8} (hx : s.get x = RV.str bs) (ht : P.underlying t = some .string) (hd : d < 1000000000000 ∧ d ∉ RV.namesL s.fr) (hO : d ∉ onames s.O) :
    OpX' P ⟨some d, .range t x, ty, pos, after, g⟩ s (fun _ : Nat => True) fun b => ⟨lset s.fr d (.v (.pointer (some ⟨b, 0, none⟩))), (d, 0, itEls b ⟨bs.toArray⟩ 0) :: s.O⟩ := by
  rintro E a w ⟨F, ρ, fp, h⟩ K Q hK
  have hrun : (execOp a.eval ⟨some d, .range t x, ty, pos, after, g⟩).run P w = .ok (.value (.pointer (some ⟨w.heap.size, 0, none⟩))) (w.alloc (.stringIter ⟨bs.toArray⟩ 0)) := by
    have := run_range_string w t ⟨bs.toArray⟩ ht
    simp only [execOp, h.ex hx]
    simp [this, World.iter]
  simp only [Oper.wp, hrun, Oper.upon_value]
  refine hK w.heap.size trivial _ _ ⟨F, fun m => if m = d then (some w.heap.size, 0, 0) else ρ m, w.heap.size :: fp, ?_⟩
  have hne : ∀ m, m ≠ d → (if m = d then (some w.heap.size, 0, 0) else ρ m) = ρ m := fun m hm => by simp [hm]
  have hw := h.world (w' := w.alloc (.stringIter ⟨bs.toArray⟩ 0)) (F' := F) (fun _ hx => hx) (fun b hx => ⟨.inl hx, by have := h.Fs b hx; simp; omega⟩) (fun b hb => _root_.Go.heap_alloc_old w _ hb) (by simp) rfl ⟨rfl, .inl (Nat.le_refl _)⟩ rfl
  have hx : RelX E ⟨s.fr, (d, 0, itEls w.heap.size ⟨bs.toArray⟩ 0) :: s.O⟩ a (w.alloc (.stringIter ⟨bs.toArray⟩ 0)) F (fun m => if m = d then (some w.heap.size, 0, 0) else ρ m) (w.heap.size :: fp) := by
    refine ⟨hw.defers, hw.size, fun i => (hw.fr i).places fun m hm => hne m (fun e => hd.2 (e ▸ names_lget _ _ _ hm)), ?_, ?_, ?_, ?_, hw.F0, hw.Fn, hw.Fs, hw.keep, hw.hsize, hw.os, hw.tape, hw.output, fun n hn => (hne n (fun e => by rw [e] at hn; exact Nat.lt_irrefl _ (Nat.lt_of_lt_of_le hd.1 hn))).trans (hw.pin n hn)⟩
    · have hOL := hw.O.places (ρ' := fun m => if m = d then (some w.heap.size, 0, 0) else ρ m) fun m hm => hne m (fun e => hO (e ▸ hm))
      exact OL.map (by simp) (KObj.iter (_root_.Go.heap_alloc_new w _)) hOL
    · refine List.nodup_cons.2 ⟨fun hx => ?_, h.nodup⟩
      have := h.O.lt _ hx
      omega
    · intro b hb
      rcases List.mem_cons.1 hb with rfl | hb
      · exact fun hx => absurd (h.Fs _ hx) (by omega)
      · exact h.fpF b hb
    · intro b hb
      rcases List.mem_cons.1 hb with rfl | hb
      · exact .inr h.hsize
      · exact h.fpE b hb
  exact hx.put (some d) (.one (.v _))
theorem l_range {ops rest R} {fr : List RV} {O : List Bk} {t x} {bs : List UInt8} {fr' : Nat → List RV} (ht : P.underlying t = some .string) (hx : St.get ⟨fr, O⟩ x = RV.str bs := by rfl) (hd : d < 1000000000000 ∧ d ∉ RV.namesL fr := by simp [nm]) (hO : d ∉ onames O := by simp [nm, onames]) (e : ∀ b, lset fr d (.v (.pointer (some ⟨b, 0, none⟩))) = fr' b := by intro b; simp only [lset] <;> rfl)
    (hk : ∀ b, L P ops rest R ⟨fr' b, (d, 0, itEls b ⟨bs.toArray⟩ 0) :: O⟩) : L P ops (⟨some d, .range t x, ty, pos, after, none⟩ :: rest) R ⟨fr, O⟩ :=
  l_opx' rfl (opx_range hx ht hd hO) fun b _ => by have := hk b; rw [← e b] at this; exact this
theorem run_next_at' (w : World) (b : Nat) (s : ByteArray) (p : Nat) (ty : TypeId) (hb : w.heap[b]? = some (.stringIter s p)) (h : p < s.size) (ha : (s[p]'h).toNat < 128) :
    (Instr.next (.pointer (some ⟨b, 0, none⟩)) true ty).run P w = .ok (.tuple #[.bool true, .int .i64 p, .int .i32 (s[p]'h).toNat]) { w with heap := w.heap.setIfInBounds b (.stringIter s (p + 1)) } := by
  have hlt : b < w.heap.size := (Array.getElem?_eq_some_iff.1 hb).1
  simp only [Instr.next, getObj, setObj, Sem.run_bind, Sem.run, hb, Result.andThen, h, if_true, decode_ascii s p h ha]
  simp [goInt, Sem.run, hlt]
theorem run_next_end' (w : World) (b : Nat) (s : ByteArray) (p : Nat) (ty : TypeId) (hb : w.heap[b]? = some (.stringIter s p)) (h : ¬ p < s.size) :
    (Instr.next (.pointer (some ⟨b, 0, none⟩)) true ty).run P w = .ok (.tuple #[.bool false]) w := by
  simp [Instr.next, getObj, Sem.run, hb, h]
theorem ops_nextA {x b n p} {bs : List UInt8} (hx : s.get x = .v (.pointer (some ⟨b, 0, none⟩))) (ho : olook n s.O = some (0, itEls b ⟨bs.toArray⟩ p)) (hp : p < bs.length) (ha : bs[p].toNat < 128) :
    OpS P ⟨some d, .next x true, ty, pos, after, g⟩ s ⟨lset s.fr d (.tup [RVb true, RVn p, .v (.int .i32 (bs[p].toNat : Nat))]), oset n (itEls b ⟨bs.toArray⟩ (p + 1)) s.O⟩ :=
  ops_of fun E a w F ρ fp h => by
    obtain ⟨fp', h'⟩ := h.front ho
    obtain ⟨fpr, hb, hset⟩ := h'.itHead
    have hp' : p < (⟨bs.toArray⟩ : ByteArray).size := by simpa [ByteArray.size] using hp
    have he : ((⟨bs.toArray⟩ : ByteArray)[p]'hp') = bs[p] := by
      show (⟨bs.toArray⟩ : ByteArray).data[p] = _
      simp
    have hrun := run_next_at' (P := P) w b ⟨bs.toArray⟩ p ty hb hp' (by rw [he]; exact ha)
    rw [he] at hrun
    refine ⟨.tuple #[.bool true, .int .i64 p, .int .i32 (bs[p].toNat : Nat)], { w with heap := w.heap.setIfInBounds b (.stringIter ⟨bs.toArray⟩ (p + 1)) }, by simp only [execOp, h.ex hx]; simp [hrun], F, ρ, ?_⟩
    obtain ⟨fp'', h4⟩ := RelX.back (n := n) (k := 0) (els := itEls b ⟨bs.toArray⟩ (p + 1)) (O := oset n (itEls b ⟨bs.toArray⟩ (p + 1)) s.O) (fp := b :: fpr) (by rw [oerase_oset]; exact hset (p + 1)) (olook_oset ho)
    refine ⟨fp'', h4.put (some d) ?_⟩
    exact .tup (SL.cons (fp1 := []) (fp2 := []) (.v _) (SL.cons (fp1 := []) (fp2 := []) (.v _) (SL.cons (fp1 := []) (fp2 := []) (.v _) .nil)))
theorem ops_nextZ {x b n p} {bs : List UInt8} (hx : s.get x = .v (.pointer (some ⟨b, 0, none⟩))) (ho : olook n s.O = some (0, itEls b ⟨bs.toArray⟩ p)) (hp : bs.length ≤ p) :
    OpS P ⟨some d, .next x true, ty, pos, after, g⟩ s ⟨lset s.fr d (.tup [RVb false]), s.O⟩ :=
  ops_of fun E a w F ρ fp h => by
    obtain ⟨fp', h'⟩ := h.front ho
    obtain ⟨fpr, hb, _⟩ := h'.itHead
    have hrun := run_next_end' (P := P) w b ⟨bs.toArray⟩ p ty hb (by simp [ByteArray.size]; omega)
    refine ⟨.tuple #[.bool false], w, by simp only [execOp, h.ex hx]; simp [hrun], F, ρ, fp, h.put (some d) ?_⟩
    exact .tup (SL.cons (fp1 := []) (fp2 := []) (.v _) .nil)
theorem itEls_names (b : Nat) (s : ByteArray) (p : Nat) : RV.namesL (itEls b s p) = [] := by simp [itEls, RV.namesL, RV.names]
end
theorem k_next {P : Program} {s s' : St} {d : Option Tmp} {ty : TypeId} {pos : String} {after : Array Edge} {g : Option (Nat × Bool)} {x : Operand} {b : Bool} (h : OpS P ⟨d, .next x b, ty, pos, after, g⟩ s s') : OpS P ⟨d, .next x b, ty, pos, after, g⟩ s s' := h
end Eng
end Go.Proofs.YtijjcakbhnolhaaDoor
