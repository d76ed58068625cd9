/- Maps: made, looked up, written. No condition. -/
import Derived.MapKept
import Derived.Carry
import Derived.Test.YtmfbcipjknjicaaGreatDoorEf
namespace Go.Proofs.YtmfbcipjknjicaaGreatDoor
set_option linter.unusedSectionVars false
variable [One Bool]
set_option linter.unusedSimpArgs false
set_option maxHeartbeats 0
set_option maxRecDepth 100000
namespace Eng
open Go.RowKit
section
variable {P : Program} {s : St} {d : Tmp} {ty : TypeId} {pos : String} {after : Array Edge} {g : Option (Nat × Bool)}
theorem RelX.mapHead {E fr Or a w F ρ fp n b m} (h : RelX E ⟨fr, (n, 0, mapEls b m) :: Or⟩ a w F ρ fp) : ∃ es clock fpr, w.heap[b]? = some (.map es clock) ∧ MapKept.Stamped es clock ∧ es.toList.map (fun x => (x.key, x.val)) = m ∧
    ∀ es' clock', MapKept.Stamped es' clock' → RelX E ⟨fr, (n, 0, mapEls b (es'.toList.map fun x => (x.key, x.val))) :: Or⟩ a { w with heap := w.heap.setIfInBounds b (.map es' clock') } F ρ (b :: fpr) := by
  have hO := h.O
  generalize hz : mapEls b m = els at hO
  generalize hk : 0 = k at hO
  cases hO with
  | nilb h0 => exact absurd h0 (by omega)
  | cons h0 => exact absurd h0 (by omega)
  | @map _ b' _ _ fpr hρ hb0 hOr =>
    cases hb0 with
    | iter => simp [mapEls, itEls] at hz
    | @map es clock m' hb hs hm =>
    unfold mapEls at hz
    simp only [List.cons.injEq, RV.v.injEq, Value.map.injEq, Option.some.injEq] at hz
    obtain ⟨rfl, hz2⟩ := hz
    have hmm : m = m' := by
      have key : ∀ m m' : List (Value × Value), (m.map fun p => RV.agg [.v p.1, .v p.2]) = m'.map (fun p => RV.agg [.v p.1, .v p.2]) → m = m' := by
       intro m
       induction m with
        | nil => intro m' hz2; cases m' with
          | nil => rfl
          | cons y ys => simp at hz2
        | cons x xs ih => intro m' hz2; cases m' with
          | nil => simp at hz2
          | cons y ys =>
            simp only [List.map_cons, List.cons.injEq, RV.agg.injEq, RV.v.injEq, and_true] at hz2
            obtain ⟨⟨e1, e2⟩, e3⟩ := hz2
            rw [ih ys e3]
            congr 1
            exact Prod.ext e1 e2
      exact key _ _ hz2
    subst hmm
    refine ⟨es, clock, fpr, hb, hs, hm, fun es' clock' hs' => ?_⟩
    have hbF : ¬ F b := h.fpF b (by simp)
    have hlt : b < w.heap.size := (Array.getElem?_eq_some_iff.1 hb).1
    have hoth : ∀ j, j ≠ b → (w.heap.setIfInBounds b (.map es' clock'))[j]? = w.heap[j]? := fun j hj => by simp [Ne.symm hj]
    have hFb : ∀ x, F x → F x ∧ (w.heap.setIfInBounds b (.map es' clock'))[x]? = w.heap[x]? := fun x hx => ⟨hx, hoth x (fun e => hbF (e ▸ hx))⟩
    have hnd := h.nodup
    have hnd' := List.nodup_cons.1 hnd
    refine ⟨h.defers, h.size, fun i => (h.fr i).mono hFb (by simp), ?_, hnd, h.fpF, h.fpE, h.F0, h.Fn, fun x hx => by simpa using h.Fs x hx, ?_, by simpa using h.hsize, h.os, h.tape, h.output, h.pin⟩
    · exact .map hρ (.map (by simp [hlt]) hs' rfl) (hOr.mono hFb fun x hx => hoth x fun e => hnd'.1 (e ▸ hx))
    · intro x h1 h2
      have hne : x ≠ b := by
        rintro rfl
        rcases h.fpE x (by simp) with h3 | h3
        · exact h2 h3
        · omega
      rw [show ({ w with heap := w.heap.setIfInBounds b (.map es' clock') } : World).heap[x]? = w.heap[x]? from hoth x hne]
      exact h.keep x h1 h2

theorem find_keys {D : TypeDesc} {k : Value} (hk : MapKept.IsKey D k) {es : Array MapEntry} {clock : Nat} (hs : MapKept.Stamped es clock) (hks : ∀ x ∈ es.toList, MapKept.IsKey D x.key) :
    (Instr.findNow D k es.toList 0 = some none ∧ ∀ x ∈ es.toList, x.key ≠ k) ∨ ∃ j e, Instr.findNow D k es.toList 0 = some (some (j, e.val)) ∧ es[j]? = some e ∧ e.key = k := by
  rcases MapKept.findNow_spec hk es.toList 0 hks with h | ⟨j, e, h1, h2, h3⟩
  · exact .inl h
  · exact .inr ⟨j, e, by simpa using h1, by simpa using h2, h3⟩

def vget (m : List (Value × Value)) (k : Value) (z : Value) (r : Value × Bool) : Prop := (r = (z, false) ∧ ∀ p ∈ m, p.1 ≠ k) ∨ ∃ v, r = (v, true) ∧ (k, v) ∈ m
def vset (m m' : List (Value × Value)) (k v : Value) : Prop := (m' = m ++ [(k, v)] ∧ ∀ p ∈ m, p.1 ≠ k) ∨ ∃ j, (∃ v0, m[j]? = some (k, v0)) ∧ m' = m.set j (k, v)

theorem run_lookup {w : World} {b : Nat} {es : Array MapEntry} {clock : Nat} {t kt et : TypeId} {D : TypeDesc} {key z : Value} {ok : Bool} (ht : P.underlying t = some (.map kt et)) (hd : P.underlying kt = some D) (hk : MapKept.IsKey D key) (hb : w.heap[b]? = some (.map es clock)) (hs : MapKept.Stamped es clock) (hks : ∀ x ∈ es.toList, MapKept.IsKey D x.key) (hz : zeroOf P et = some z) :
    ∃ r, vget (es.toList.map fun x => (x.key, x.val)) key z r ∧ (Instr.lookup t (.map (some b)) key ok).run P w = .ok (if ok then .tuple #[r.1, .bool r.2] else r.1) w := by
  have hzr : (zeroValue et).run P w = .ok z w := by
    cases hi : P.info? et with
    | none => simp [zeroOf, hi] at hz
    | some i =>
      have : i.zero = some z := by simpa [zeroOf, hi] using hz
      simp [zeroValue, typeInfo, hi, this, Result.andThen]
  rcases find_keys hk hs hks with ⟨h1, h2⟩ | ⟨j, e, h1, h2, h3⟩
  · refine ⟨(z, false), .inl ⟨rfl, by simpa using h2⟩, ?_⟩
    cases ok <;> simp [Instr.lookup, run_underlying ht, MapKept.run_getObj_map hb, MapKept.run_checkKey hd hk, MapKept.run_findKey hd h1, hzr, Result.andThen]
  · refine ⟨(e.val, true), .inr ⟨e.val, rfl, ?_⟩, ?_⟩
    · rw [← h3]
      exact List.mem_map.2 ⟨e, Array.mem_toList_iff.2 (Array.mem_of_getElem? h2), rfl⟩
    · cases ok <;> simp [Instr.lookup, run_underlying ht, MapKept.run_getObj_map hb, MapKept.run_checkKey hd hk, MapKept.run_findKey hd h1, Result.andThen]

theorem run_update {w : World} {b : Nat} {es : Array MapEntry} {clock : Nat} {t kt et : TypeId} {D : TypeDesc} {key v : Value} (ht : P.underlying t = some (.map kt et)) (hd : P.underlying kt = some D) (hk : MapKept.IsKey D key) (hb : w.heap[b]? = some (.map es clock)) (hs : MapKept.Stamped es clock) (hks : ∀ x ∈ es.toList, MapKept.IsKey D x.key) :
    ∃ es' clock', vset (es.toList.map fun x => (x.key, x.val)) (es'.toList.map fun x => (x.key, x.val)) key v ∧ MapKept.Stamped es' clock' ∧ (Instr.mapUpdate t (.map (some b)) key v).run P w = .ok () { w with heap := w.heap.setIfInBounds b (.map es' clock') } := by
  rcases find_keys hk hs hks with ⟨h1, h2⟩ | ⟨j, e, h1, h2, h3⟩
  · refine ⟨_, _, .inl ⟨by simp; exact rfl, by simpa using h2⟩, MapKept.stamped_push hs h2, ?_⟩
    simp [Instr.mapUpdate, run_underlying ht, MapKept.run_getObj_map hb, MapKept.run_checkKey hd hk, MapKept.run_findKey hd h1, MapKept.run_setObj_map _ hb, Result.andThen]
  · have hkey : ∀ e', es[j]? = some e' → ({ e' with key := key, val := v } : MapEntry).key = e'.key := fun e' he' => by rw [h2] at he'; cases he'; exact h3.symm
    refine ⟨es.modify j fun e => { e with key := key, val := v }, clock, .inr ⟨j, ⟨e.val, ?_⟩, ?_⟩, MapKept.stamped_modify hs _ _ (fun _ _ => rfl) (fun e' _ he' => hkey e' he'), ?_⟩
    · simp only [List.getElem?_map, Array.getElem?_toList, h2, Option.map_some, h3]
    · apply List.ext_getElem?
      intro i
      simp only [List.getElem?_map, Array.getElem?_toList, Array.getElem?_modify, List.getElem?_set, List.length_map, Array.length_toList]
      by_cases hij : j = i
      · subst hij
        have : j < es.size := (Array.getElem?_eq_some_iff.1 h2).1
        simp [h2, this]
      · simp [hij]
    · simp [Instr.mapUpdate, run_underlying ht, MapKept.run_getObj_map hb, MapKept.run_checkKey hd hk, MapKept.run_findKey hd h1, h2, h3, MapKept.run_keyThatStays hk, MapKept.run_setObj_map _ hb, Result.andThen]

def OpX' {ι : Type} (P : Program) (o : Oper) (s : St) (C : ι → Prop) (S : ι → St) : Prop :=
  ∀ E a w, Rel E s a w → ∀ (K : Act → World → Prop) (Q : Exit → Act → World → Prop), (∀ x, C x → ∀ a' w', Rel E (S x) a' w' → K a' w') → o.wp P a w K Q
theorem l_opx' {ι : Type} {ops o rest R} {C : ι → Prop} {S : ι → St} (hg : o.guard = none) (h : OpX' P o s C S) (hk : ∀ x, C x → L P ops rest R (S x)) : L P ops (o :: rest) R s :=
  ⟨fun E a w hr Q hQ => wpList_plain hg fun K hK => h E a w hr K Q fun x hx a' w' hr' => hK _ _ ((hk x hx).out E a' w' hr' Q hQ)⟩
theorem opx_makeMap {t} (hd : d < 1000000000000 ∧ d ∉ RV.namesL s.fr) (hO : d ∉ onames s.O) :
    OpX' P ⟨some d, .makeMap t none, ty, pos, after, g⟩ s (fun _ : Nat => True) fun b => ⟨lset s.fr d (.v (.map (some b))), (d, 0, mapEls b []) :: s.O⟩ := by
  rintro E a w ⟨F, ρ, fp, h⟩ K Q hK
  have hrun : (execOp a.eval ⟨some d, .makeMap t none, ty, pos, after, g⟩).run P w = .ok (.value (.map (some w.heap.size))) (w.alloc (.map #[] 0)) := by
    simp [execOp, run_makeMap]
  simp only [Oper.wp, hrun, Oper.upon_value]
  refine hK w.heap.size trivial _ _ ⟨F, fun m => if m = d then (some w.heap.size, 0, 0) else ρ m, w.heap.size :: fp, ?_⟩
  have hne : ∀ m, m ≠ d → (if m = d then (some w.heap.size, 0, 0) else ρ m) = ρ m := fun m hm => by simp [hm]
  have hw := h.world (w' := w.alloc (.map #[] 0)) (F' := F) (fun _ hx => hx) (fun b hx => ⟨.inl hx, by have := h.Fs b hx; simp; omega⟩) (fun b hb => _root_.Go.heap_alloc_old w _ hb) (by simp) rfl ⟨rfl, .inl (Nat.le_refl _)⟩ rfl
  have hx : RelX E ⟨s.fr, (d, 0, mapEls w.heap.size []) :: s.O⟩ a (w.alloc (.map #[] 0)) F (fun m => if m = d then (some w.heap.size, 0, 0) else ρ m) (w.heap.size :: fp) := by
    refine ⟨hw.defers, hw.size, fun i => (hw.fr i).places fun m hm => hne m (fun e => hd.2 (e ▸ names_lget _ _ _ hm)), ?_, ?_, ?_, ?_, hw.F0, hw.Fn, hw.Fs, hw.keep, hw.hsize, hw.os, hw.tape, hw.output, fun n hn => (hne n (fun e => by rw [e] at hn; exact Nat.lt_irrefl _ (Nat.lt_of_lt_of_le hd.1 hn))).trans (hw.pin n hn)⟩
    · have hOL := hw.O.places (ρ' := fun m => if m = d then (some w.heap.size, 0, 0) else ρ m) fun m hm => hne m (fun e => hO (e ▸ hm))
      exact OL.map (by simp) (KObj.map (es := #[]) (clock := 0) (_root_.Go.heap_alloc_new w _) (MapKept.stamped_empty 0) rfl) hOL
    · refine List.nodup_cons.2 ⟨fun hx => ?_, h.nodup⟩
      have := h.O.lt _ hx
      omega
    · intro b hb
      rcases List.mem_cons.1 hb with rfl | hb
      · exact fun hx => absurd (h.Fs _ hx) (by omega)
      · exact h.fpF b hb
    · intro b hb
      rcases List.mem_cons.1 hb with rfl | hb
      · exact .inr h.hsize
      · exact h.fpE b hb
  exact hx.put (some d) (.one (.v _))

def MKeys (D : TypeDesc) (m : List (Value × Value)) : Prop := ∀ p ∈ m, MapKept.IsKey D p.1

theorem ops_vlookup {t x y b n m kt et z key ok r} {D : TypeDesc} (hx : s.get x = .v (.map (some b))) (hy : s.get y = .v key) (ho : olook n s.O = some (0, mapEls b m)) (ht : P.underlying t = some (.map kt et)) (hd : P.underlying kt = some D) (hk : MapKept.IsKey D key) (hm : MKeys D m) (hz : zeroOf P et = some z)
    (hr : ∀ r', vget m key z r' → r' = r) : OpS P ⟨some d, .lookup t x y ok, ty, pos, after, g⟩ s ⟨lset s.fr d (if ok then .tup [.v r.1, .v (.bool r.2)] else .v r.1), s.O⟩ :=
  ops_of fun E a w F ρ fp h => by
    obtain ⟨fp', h'⟩ := h.front ho
    obtain ⟨es, clock, fpr, hb, hs, hmm, _⟩ := h'.mapHead
    obtain ⟨r', h1, h2⟩ := run_lookup (P := P) (w := w) (ok := ok) ht hd hk hb hs (fun q hq => hm (q.key, q.val) (by rw [← hmm]; exact List.mem_map.2 ⟨q, hq, rfl⟩)) hz
    rw [hmm] at h1
    have e := hr r' h1
    subst e
    refine ⟨_, w, by simp only [execOp, h.ex hx, h.ex hy]; simp [h2]; rfl, F, ρ, fp, ?_⟩
    refine h.put (some d) ?_
    cases ok with
    | true => exact .tup (SL.cons (fp1 := []) (fp2 := []) (.v _) (SL.cons (fp1 := []) (fp2 := []) (.v _) .nil))
    | false => exact .one (.v _)
theorem ops_vupdate {t x y v b n m m' kt et key val} {D : TypeDesc} (hx : s.get x = .v (.map (some b))) (hy : s.get y = .v key) (hv : s.get v = .v val) (ho : olook n s.O = some (0, mapEls b m)) (ht : P.underlying t = some (.map kt et)) (hd : P.underlying kt = some D) (hk : MapKept.IsKey D key) (hm : MKeys D m)
    (hr : ∀ m1, vset m m1 key val → m1 = m') : OpS P ⟨none, .mapUpdate t x y v, ty, pos, after, g⟩ s ⟨s.fr, oset n (mapEls b m') s.O⟩ :=
  ops_of_skip fun E a w F ρ fp h => by
    obtain ⟨fp', h'⟩ := h.front ho
    obtain ⟨es, clock, fpr, hb, hs, hmm, hset⟩ := h'.mapHead
    obtain ⟨es', clock', h1, h2, h3⟩ := run_update (P := P) (w := w) (v := val) ht hd hk hb hs (fun q hq => hm (q.key, q.val) (by rw [← hmm]; exact List.mem_map.2 ⟨q, hq, rfl⟩))
    rw [hmm] at h1
    have e := hr _ h1
    have hx' := hset es' clock' h2
    rw [e] at hx'
    refine ⟨_, by simp only [execOp, h.ex hx, h.ex hy, h.ex hv]; simp [h3]; rfl, ?_⟩
    obtain ⟨fp'', h4⟩ := RelX.back (n := n) (k := 0) (els := mapEls b m') (O := oset n (mapEls b m') s.O) (fp := b :: fpr) (by rw [oerase_oset]; exact hx') (olook_oset ho)
    exact ⟨F, ρ, fp'', h4.put none (r := .any) (.one (.any _))⟩
end

/-! Maps from strings to ints. -/
abbrev mSI (l : List (List UInt8 × Int)) : List (Value × Value) := l.map fun p => (.string ⟨p.1.toArray⟩, .int .i64 p.2)
def MSI (b : Nat) (l : List (List UInt8 × Int)) : List RV := mapEls b (mSI l)
@[simp] theorem MSI_names (b : Nat) (l : List (List UInt8 × Int)) : RV.namesL (MSI b l) = [] := mapEls_names _ _
@[simp] theorem MSI_ren (σ : Nat → Nat) (b : Nat) (l : List (List UInt8 × Int)) : RV.renL σ (MSI b l) = MSI b l := mapEls_ren _ _ _
def sput2 {α : Type} [BEq α] [LawfulBEq α] {β : Type} (l : List (α × β)) (k : α) (v : β) : List (α × β) := if l.any (fun p => p.1 == k) then l.map (fun p => if p.1 == k then (k, v) else p) else l ++ [(k, v)]
theorem str_inj {a b : List UInt8} (h : (Value.string ⟨a.toArray⟩) = .string ⟨b.toArray⟩) : a = b := by
  simp only [Value.string.injEq, ByteArray.mk.injEq] at h
  simpa using congrArg Array.toList h
theorem mSI_keys (l : List (List UInt8 × Int)) : MKeys .string (mSI l) := by
  intro p hp
  obtain ⟨q, _, rfl⟩ := List.mem_map.1 hp
  trivial
/-! .. and from ints to bools. -/
abbrev mIB (l : List (Int × Bool)) : List (Value × Value) := l.map fun p => (.int .i64 p.1, .bool p.2)
def MIB (b : Nat) (l : List (Int × Bool)) : List RV := mapEls b (mIB l)
@[simp] theorem MIB_names (b : Nat) (l : List (Int × Bool)) : RV.namesL (MIB b l) = [] := mapEls_names _ _
@[simp] theorem MIB_ren (σ : Nat → Nat) (b : Nat) (l : List (Int × Bool)) : RV.renL σ (MIB b l) = MIB b l := mapEls_ren _ _ _
theorem mIB_keys (l : List (Int × Bool)) : MKeys (.int .i64) (mIB l) := by
  intro p hp
  obtain ⟨q, _, rfl⟩ := List.mem_map.1 hp
  exact rfl
def Once {α β : Type} (l : List (α × β)) : Prop := (l.map (·.1)).Nodup
theorem once_put {α β : Type} [BEq α] [LawfulBEq α] {l : List (α × β)} (h : Once l) (k : α) (v : β) : Once (sput2 l k v) := by
  unfold sput2 Once
  split
  · have : (l.map fun p => if p.1 == k then (k, v) else p).map (·.1) = l.map (·.1) := by
      rw [List.map_map]
      apply List.map_congr_left
      intro p _
      simp only [Function.comp]
      split <;> simp_all
    rw [this]; exact h
  · rename_i hn
    rw [List.map_append, List.nodup_append]
    refine ⟨h, by simp, ?_⟩
    intro a ha b hb
    simp only [List.map_cons, List.map_nil, List.mem_singleton] at hb
    subst hb
    rintro rfl
    apply hn
    obtain ⟨p, hp, rfl⟩ := List.mem_map.1 ha
    exact List.any_eq_true.2 ⟨p, hp, by simp⟩
theorem once_at {α β : Type} {l : List (α × β)} (h : Once l) {k : α} {a b : β} (ha : (k, a) ∈ l) (hb : (k, b) ∈ l) : a = b := by
  unfold Once at h
  induction l with
  | nil => cases ha
  | cons x xs ih =>
    rw [List.map_cons, List.nodup_cons] at h
    rcases List.mem_cons.1 ha with e | ha
    · rcases List.mem_cons.1 hb with e2 | hb
      · rw [← e] at e2; cases e2; rfl
      · exact absurd (List.mem_map.2 ⟨_, hb, by rw [← e]⟩) h.1
    · rcases List.mem_cons.1 hb with e2 | hb
      · exact absurd (List.mem_map.2 ⟨_, ha, by rw [← e2]⟩) h.1
      · exact ih h.2 ha hb
theorem lookup_mem {α β : Type} [BEq α] [LawfulBEq α] {l : List (α × β)} {k : α} {v : β} (h : l.lookup k = some v) : (k, v) ∈ l := by
  induction l with
  | nil => simp at h
  | cons x xs ih =>
    obtain ⟨a, b⟩ := x
    rw [List.lookup_cons] at h
    by_cases e : k = a
    · subst e; simp at h; simp [h]
    · have : (k == a) = false := by simpa using e
      rw [this] at h
      exact List.mem_cons_of_mem _ (ih h)
theorem lookup_none {α β : Type} [BEq α] [LawfulBEq α] {l : List (α × β)} {k : α} (h : l.lookup k = none) : ∀ p ∈ l, p.1 ≠ k := by
  induction l with
  | nil => simp
  | cons x xs ih =>
    obtain ⟨a, b⟩ := x
    rw [List.lookup_cons] at h
    by_cases e : k = a
    · subst e; simp at h
    · have : (k == a) = false := by simpa using e
      rw [this] at h
      intro p hp
      rcases List.mem_cons.1 hp with rfl | hp
      · exact fun e' => e e'.symm
      · exact ih h p hp
theorem mem_lookup {α β : Type} [BEq α] [LawfulBEq α] {l : List (α × β)} (h : Once l) {k : α} {v : β} (hm : (k, v) ∈ l) : l.lookup k = some v := by
  cases hl : l.lookup k with
  | none => exact absurd rfl (lookup_none hl _ hm)
  | some u => rw [once_at h (lookup_mem hl) hm]
theorem vget_of {α β : Type} [BEq α] [LawfulBEq α] (ek : α → Value) (ev : β → Value) (hek : ∀ a b, ek a = ek b → a = b) {l : List (α × β)} (ho : Once l) (k : α) (z : β) {r : Value × Bool} (h : vget (l.map fun p => (ek p.1, ev p.2)) (ek k) (ev z) r) : r = (ev ((l.lookup k).getD z), (l.lookup k).isSome) := by
  rcases h with ⟨rfl, h⟩ | ⟨v, rfl, h⟩
  · cases hl : l.lookup k with
    | none => rfl
    | some u => exact absurd rfl (h _ (List.mem_map.2 ⟨_, lookup_mem hl, rfl⟩))
  · obtain ⟨p, hp, e⟩ := List.mem_map.1 h
    simp only [Prod.mk.injEq] at e
    have e1 := hek _ _ e.1
    obtain ⟨a, b⟩ := p
    simp only at e1 e
    subst e1
    rw [mem_lookup ho hp]
    simp [e.2]
theorem vset_of {α β : Type} [BEq α] [LawfulBEq α] (ek : α → Value) (ev : β → Value) (hek : ∀ a b, ek a = ek b → a = b) {l : List (α × β)} (ho : Once l) (k : α) (v : β) {m' : List (Value × Value)} (h : vset (l.map fun p => (ek p.1, ev p.2)) m' (ek k) (ev v)) : m' = (sput2 l k v).map fun p => (ek p.1, ev p.2) := by
  unfold sput2
  rcases h with ⟨rfl, h⟩ | ⟨j, ⟨v0, h1⟩, rfl⟩
  · rw [if_neg]
    · simp
    · intro hx
      obtain ⟨p, hp, e⟩ := List.any_eq_true.1 hx
      exact h _ (List.mem_map.2 ⟨p, hp, rfl⟩) (by rw [LawfulBEq.eq_of_beq e])
  · simp only [List.getElem?_map, Option.map_eq_some_iff, Prod.mk.injEq] at h1
    obtain ⟨p, hp, e1, e2⟩ := h1
    have e3 := hek _ _ e1
    have hpm := List.mem_of_getElem? hp
    rw [if_pos (List.any_eq_true.2 ⟨p, hpm, by simp [e3]⟩)]
    apply List.ext_getElem?
    intro i
    simp only [List.getElem?_set, List.length_map, List.getElem?_map]
    by_cases hij : j = i
    · subst hij
      have hlt := (List.getElem?_eq_some_iff.1 hp).1
      have e4 : l[j].1 = k := by rw [(List.getElem?_eq_some_iff.1 hp).2, e3]
      simp [hlt, e4]
    · simp only [hij, if_false]
      cases hq : l[i]? with
      | none => rfl
      | some q =>
        simp only [Option.map_some, Option.some.injEq]
        have : q.1 ≠ k := by
          intro e
          have hi : (l.map (·.1))[i]? = some k := by simp [hq, e]
          have hj : (l.map (·.1))[j]? = some k := by simp [hp, e3]
          have hlt : i < (l.map (·.1)).length := (List.getElem?_eq_some_iff.1 hi).1
          exact hij ((List.getElem?_inj hlt ho).1 (by rw [hi, hj])).symm
        simp [this]
section
variable {P : Program} {s : St} {d : Tmp} {ty : TypeId} {pos : String} {after : Array Edge} {g : Option (Nat × Bool)}
theorem ops_getSI {t x y b n l kt et} {key : List UInt8} (ho1 : Once l) (hx : s.get x = .v (.map (some b))) (hy : s.get y = .str key) (ho : olook n s.O = some (0, MSI b l)) (ht : P.underlying t = some (.map kt et)) (hd : P.underlying kt = some .string) (hz : zeroOf P et = some (.int .i64 0)) :
    OpS P ⟨some d, .lookup t x y true, ty, pos, after, g⟩ s ⟨lset s.fr d (.tup [RVi ((l.lookup key).getD 0), RVb (l.lookup key).isSome]), s.O⟩ :=
  ops_vlookup (ok := true) (r := (.int .i64 ((l.lookup key).getD 0), (l.lookup key).isSome)) hx hy ho ht hd (by trivial) (mSI_keys l) hz fun r' h => vget_of (α := List UInt8) (β := Int) (fun k => .string ⟨k.toArray⟩) (fun v => .int .i64 v) (fun _ _ => str_inj) ho1 key 0 h
theorem ops_putSI {t x y v b n l kt et} {key : List UInt8} {val : Int} (ho1 : Once l) (hx : s.get x = .v (.map (some b))) (hy : s.get y = .str key) (hv : s.get v = RVi val) (ho : olook n s.O = some (0, MSI b l)) (ht : P.underlying t = some (.map kt et)) (hd : P.underlying kt = some .string) :
    OpS P ⟨none, .mapUpdate t x y v, ty, pos, after, g⟩ s ⟨s.fr, oset n (MSI b (sput2 l key val)) s.O⟩ :=
  ops_vupdate hx hy hv ho ht hd (by trivial) (mSI_keys l) fun m1 h => vset_of (α := List UInt8) (β := Int) (fun k => .string ⟨k.toArray⟩) (fun v => .int .i64 v) (fun _ _ => str_inj) ho1 key val h
theorem ops_getIB {t x y b n l kt et} {key : Int} (ho1 : Once l) (hx : s.get x = .v (.map (some b))) (hy : s.get y = RVi key) (ho : olook n s.O = some (0, MIB b l)) (ht : P.underlying t = some (.map kt et)) (hd : P.underlying kt = some (.int .i64)) (hz : zeroOf P et = some (.bool false)) :
    OpS P ⟨some d, .lookup t x y false, ty, pos, after, g⟩ s ⟨lset s.fr d (RVb ((l.lookup key).getD false)), s.O⟩ :=
  ops_vlookup (ok := false) (r := (.bool ((l.lookup key).getD false), (l.lookup key).isSome)) hx hy ho ht hd (by rfl) (mIB_keys l) hz fun r' h => vget_of (α := Int) (β := Bool) (fun k => .int .i64 k) (fun v => .bool v) (fun _ _ h => by simpa using h) ho1 key false h
theorem ops_putIB {t x y v b n l kt et} {key : Int} {val : Bool} (ho1 : Once l) (hx : s.get x = .v (.map (some b))) (hy : s.get y = RVi key) (hv : s.get v = RVb val) (ho : olook n s.O = some (0, MIB b l)) (ht : P.underlying t = some (.map kt et)) (hd : P.underlying kt = some (.int .i64)) :
    OpS P ⟨none, .mapUpdate t x y v, ty, pos, after, g⟩ s ⟨s.fr, oset n (MIB b (sput2 l key val)) s.O⟩ :=
  ops_vupdate hx hy hv ho ht hd (by rfl) (mIB_keys l) fun m1 h => vset_of (α := Int) (β := Bool) (fun k => .int .i64 k) (fun v => .bool v) (fun _ _ h => by simpa using h) ho1 key val h
end
end Eng
end Go.Proofs.YtmfbcipjknjicaaGreatDoor
