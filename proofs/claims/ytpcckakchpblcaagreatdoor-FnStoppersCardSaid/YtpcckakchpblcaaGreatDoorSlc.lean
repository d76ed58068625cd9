/- More of slices that are one's own: the tail of one, a part written over, cleared, appended within; what is left is let go. For elements that own nothing. -/
import Derived.Test.YtpcckakchpblcaaGreatDoorJ8
namespace Go.Proofs.YtpcckakchpblcaaGreatDoor
namespace Eng
open Go.RowKit
set_option maxHeartbeats 0
set_option maxRecDepth 100000

/-- How elements that own nothing lie in cells. -/
structure PE {α : Type} (k : Nat) (f : α → RV) (enc : α → List Value) : Prop where
  pos : 0 < k
  mk1 : ∀ {w F ρ} (x : α), OE w F ρ k [f x] (enc x) []
  inv : ∀ {w F ρ c fp} (x : α), OE w F ρ k [f x] c fp → c = enc x ∧ fp = []
  one : ∀ x, ∀ v ∈ enc x, v.oneCell' = true
  len : ∀ x, (enc x).length = k
theorem pe_v {α : Type} (f : α → RV) (enc : α → Value) (hf : ∀ x, f x = .v (enc x)) (h1 : ∀ x, (enc x).oneCell' = true) : PE 1 f (fun x => [enc x]) where
  pos := by omega
  mk1 x := by rw [hf]; exact OE.fz (c := [enc x]) (.v _ (h1 x) (.nil _)) (.nil _ _)
  inv x h := by
    rw [hf] at h
    cases h with
    | fz h1 h =>
      cases h
      cases h1 with
      | v _ _ h2 => cases h2; exact ⟨rfl, rfl⟩
  one x v hv := by rw [List.mem_singleton.1 hv]; exact h1 x
  len _ := rfl
theorem pe_i : PE 1 RVi (fun x => [Value.int .i64 x]) := pe_v RVi _ (fun _ => rfl) (fun _ => rfl)
section
variable {α : Type} {k : Nat} {f : α → RV} {enc : α → List Value}
theorem PE.list (p : PE k f enc) {w F ρ} : ∀ l : List α, OE w F ρ k (l.map f) (l.flatMap enc) []
  | [] => .nil _ _
  | x :: l => by
    rw [List.map_cons, List.flatMap_cons]
    exact OE.cons (p.mk1 x) (p.list l)
theorem PE.linv (p : PE k f enc) {w F ρ} : ∀ {l : List α} {c fp}, OE w F ρ k (l.map f) c fp → c = l.flatMap enc ∧ fp = []
  | [], c, fp, h => by cases h; exact ⟨rfl, rfl⟩
  | x :: l, c, fp, h => by
    rw [List.map_cons] at h
    obtain ⟨c1, c2, f1, f2, rfl, rfl, _, h1, h2⟩ := h.cons_inv
    obtain ⟨rfl, rfl⟩ := p.inv x h1
    obtain ⟨rfl, rfl⟩ := p.linv h2
    exact ⟨rfl, rfl⟩
theorem PE.fl_len (p : PE k f enc) (l : List α) : (l.flatMap enc).length = l.length * k := by
  induction l with
  | nil => simp
  | cons x l ih => rw [List.flatMap_cons, List.length_append, ih, p.len, List.length_cons, Nat.add_mul]; omega
theorem PE.fl_one (p : PE k f enc) (l : List α) : ∀ v ∈ l.flatMap enc, v.oneCell' = true := by
  intro v hv
  obtain ⟨x, _, hx⟩ := List.mem_flatMap.1 hv
  exact p.one x v hx
theorem PE.fl_take (p : PE k f enc) (l : List α) (i : Nat) : (l.flatMap enc).take (i * k) = (l.take i).flatMap enc := by
  induction l generalizing i with
  | nil => simp
  | cons x l ih =>
    cases i with
    | zero => simp
    | succ i =>
      rw [List.flatMap_cons, List.take_succ_cons, List.flatMap_cons, List.take_append, p.len, List.take_of_length_le (by rw [p.len, Nat.add_mul]; omega), show (i + 1) * k - k = i * k by rw [Nat.add_mul]; omega, ih]
theorem PE.fl_drop (p : PE k f enc) (l : List α) (i : Nat) : (l.flatMap enc).drop (i * k) = (l.drop i).flatMap enc := by
  induction l generalizing i with
  | nil => simp
  | cons x l ih =>
    cases i with
    | zero => simp
    | succ i =>
      rw [List.flatMap_cons, List.drop_succ_cons, List.drop_append, p.len, List.drop_of_length_le (by rw [p.len, Nat.add_mul]; omega), List.nil_append, show (i + 1) * k - k = i * k by rw [Nat.add_mul]; omega, ih]

/-- A part of a named block is written over. -/
theorem RelX.range {E s a w F ρ fp n} {l : List α} (p : PE k f enc) (h : RelX E s a w F ρ fp) (ho : olook n s.O = some (k, l.map f)) (hne : l ≠ []) :
    ∃ b ty c, (ρ n).1 = some b ∧ (ρ n).2.1 = k ∧ w.heap[b]? = some (.cells c ty (0, 0)) ∧ c.size = (ρ n).2.2 * k ∧ l.length ≤ (ρ n).2.2 ∧ l.length * k ≤ c.size ∧ c.toList.take (l.length * k) = l.flatMap enc ∧
      ∀ (m : List α) (o : Nat), o + m.length ≤ l.length →
        ∃ fp', RelX E ⟨s.fr, oset n ((l.take o ++ m ++ l.drop (o + m.length)).map f) s.O⟩ a (w.setRow b (c.toList.take (o * k) ++ m.flatMap enc ++ c.toList.drop (o * k + (m.flatMap enc).length)).toArray) F ρ fp' := by
  obtain ⟨fp', hr'⟩ := h.front ho
  obtain ⟨b, ty, c, fp1, fp2, hk, hρ, hρb, hb, hs, hl, hm, hE, hO2, rfl⟩ := hr'.O.head (by simpa using hne)
  rw [List.length_map] at hl hE
  have hcap : l.length * k ≤ c.size := by rw [hs]; exact Nat.mul_le_mul_right _ hl
  obtain ⟨hcl, rfl⟩ := p.linv hE
  refine ⟨b, ty, c, hρb, hρ, hb, hs, hl, hcap, hcl, fun m o hom => ?_⟩
  have hml := p.fl_len m
  have hok : o * k + m.length * k ≤ l.length * k := by rw [← Nat.add_mul]; exact Nat.mul_le_mul_right _ hom
  have htk : c.toList.take (o * k) = (l.take o).flatMap enc := by
    rw [← p.fl_take, ← hcl, List.take_take, Nat.min_eq_left (by omega)]
  have hlen2 : (l.take o ++ m ++ l.drop (o + m.length)).length = l.length := by simp; omega
  have hnew : (c.toList.take (o * k) ++ m.flatMap enc ++ c.toList.drop (o * k + (m.flatMap enc).length)).take (l.length * k) = (l.take o ++ m ++ l.drop (o + m.length)).flatMap enc := by
    rw [List.flatMap_append, List.flatMap_append, ← htk, ← p.fl_drop, List.take_append, List.take_of_length_le (by simp [hml]; omega)]
    congr 1
    have e1 : l.length * k - (c.toList.take (o * k) ++ m.flatMap enc).length = l.length * k - (o + m.length) * k := by
      simp only [List.length_append, List.length_take, hml, Array.length_toList, Nat.add_mul]; omega
    rw [e1, hml, ← Nat.add_mul, ← hcl, List.drop_take]
  have hsz : (c.toList.take (o * k) ++ m.flatMap enc ++ c.toList.drop (o * k + (m.flatMap enc).length)).toArray.size = c.size := by
    simp [hml]; omega
  have hfin := hr'.modify (els' := (l.take o ++ m ++ l.drop (o + m.length)).map f) (ty := ty) (c' := (c.toList.take (o * k) ++ m.flatMap enc ++ c.toList.drop (o * k + (m.flatMap enc).length)).toArray) (fp1' := [])
    (w' := w.setRow b (c.toList.take (o * k) ++ m.flatMap enc ++ c.toList.drop (o * k + (m.flatMap enc).length)).toArray) hk hρ hρb hm hO2 (by simp) (fun j hj => setRow_other w b j _ hj) (setRow_heap w b c _ ty _ hb) (by rw [hsz, hs]) (by rw [List.length_map, hlen2]; exact hl)
    (by rw [List.length_map, hlen2]; rw [hnew]; exact p.list _) hr'.nodup (fun x hx => by cases hx) rfl rfl rfl
  have ho' : olook n (oset n ((l.take o ++ m ++ l.drop (o + m.length)).map f) s.O) = some (k, (l.take o ++ m ++ l.drop (o + m.length)).map f) := olook_oset ho
  rw [← oerase_oset n ((l.take o ++ m ++ l.drop (o + m.length)).map f) s.O] at hfin
  exact hfin.back ho'
/-- The rest of a named block is let go. -/
theorem le_cut {fr : List RV} {O : List Bk} (n : Nat) {l : List α} (i : Nat) (p : PE k f enc) (ho : olook n O = some (k, l.map f)) : LE ⟨fr, O⟩ ⟨fr, oset n ((l.take i).map f) O⟩ := by
  refine ⟨?_⟩
  rintro E a w ⟨F, ρ, fp, hr⟩
  obtain ⟨fp', hr'⟩ := hr.front ho
  have ho' : olook n (oset n ((l.take i).map f) O) = some (k, (l.take i).map f) := olook_oset ho
  have key : ∃ fp2, OL w F ρ ((n, k, (l.take i).map f) :: oerase n O) fp2 ∧ fp2 = fp' := by
    generalize hels : l.map f = els at hr'
    cases hr'.O with
    | nilb hk hρ h =>
      have : l = [] := List.map_eq_nil_iff.1 hels
      subst this
      rw [List.take_nil, List.map_nil]
      exact ⟨_, .nilb hk hρ h, rfl⟩
    | @cons _ b _ _ tb c cells _ fp1 fpr hk hρ hρb hb hs hl hm hc he h =>
      subst hels
      obtain ⟨h1, rfl⟩ := p.linv he
      rw [List.length_map] at hl hc
      refine ⟨_, .cons (cells := (l.take i).flatMap enc) hk hρ hρb hb hs (by simp; omega) hm ?_ (p.list _) h, rfl⟩
      have hq : (l.take i).length ≤ l.length := by simp; omega
      have e : l.take i = l.take (l.take i).length := by rw [List.length_take]; exact List.take_eq_take_min
      have e2 : (l.take i).flatMap enc = (c.toList.take (l.length * k)).take ((l.take i).length * k) := by rw [hc, h1, p.fl_take, ← e]
      rw [List.length_map, e2, List.take_take, Nat.min_eq_left (Nat.mul_le_mul_right _ hq)]
  obtain ⟨fp2, hO, rfl⟩ := key
  have hfin : RelX E ⟨fr, (n, k, (l.take i).map f) :: oerase n O⟩ a w F ρ fp2 := { hr' with O := hO }
  have hfin2 : RelX E ⟨fr, (n, k, (l.take i).map f) :: oerase n (oset n ((l.take i).map f) O)⟩ a w F ρ fp2 := by rw [oerase_oset]; exact hfin
  obtain ⟨fp3, h3⟩ := hfin2.back ho'
  exact ⟨F, ρ, fp3, h3⟩
theorem le_cut' {fr : List RV} {O O' : List Bk} (n : Nat) {l l' : List α} (i : Nat) (p : PE k f enc) (ho : olook n O = some (k, l.map f)) (e : l.take i = l') (e2 : oset n (l'.map f) O = O') : LE ⟨fr, O⟩ ⟨fr, O'⟩ := by
  subst e; subst e2
  exact le_cut n i p ho
end
section
variable {P : Program} {s : St} {d : Option Tmp} {ty : TypeId} {pos : String} {after : Array Edge} {g : Option (Nat × Bool)}
/-- The tail of a slice that is one's own. -/
theorem ops_rcutl {x lo t n off len k1 kk els} {l : Nat} (hx : s.get x = .ref n off len) (hlo : s.get lo = .v (.int k1 (l : Nat))) (ho : olook n s.O = some (kk, els)) (h1 : l < len) (h2 : off + len ≤ els.length) (ht : P.underlying t = some (.slice (P.elem t))) (hw : P.cellsOf (P.elem t) = kk) :
    OpS P ⟨d, .slice t x (some lo) none none, ty, pos, after, g⟩ s ⟨sput d (.ref n (off + l) (len - l)) s.fr, s.O⟩ :=
  ops_val fun _ a w F ρ _ hr => by
    have h3 := (show SV w F ρ (.ref n off len) (a.eval x) [] from hx ▸ hr.get x).ref_inv
    obtain ⟨fp', hr'⟩ := hr.front ho
    obtain ⟨b, tb, c, fp1, fp2, hk, hρ, hρb, hb, hs, hl, hm, _⟩ := hr'.O.head (by rintro rfl; simp at h2; omega)
    simp only [hρb, Option.map_some, hρ] at h3
    have hsv := SV.ref_mk (w := w) (F := F) (ρ := ρ) (n := n) (k := kk) (cap := (ρ n).2.2) (b := b) (by rw [← hρb, ← hρ]) (off + l) (len - l)
    refine ⟨_, ?_, hsv⟩
    have h5 : ¬ ((ρ n).2.2 - off = l) := by omega
    simp [execOp, h3, hr.ex hlo, Instr.sliceAt, Instr.slice, Instr.sliceBounds, run_underlying ht, run_bound (show l ≤ len by omega), run_size hw hk, h5]
    refine ⟨?_, by omega⟩
    rw [Addr.add_lit, Nat.add_mul]
theorem ops_rfront {x hi t n len k2 kk els} {h : Nat} (hx : s.get x = .ref n 0 len) (hh : s.get hi = .v (.int k2 (h : Nat))) (ho : olook n s.O = some (kk, els)) (h2 : h ≤ els.length) (hne : els ≠ []) (ht : P.underlying t = some (.slice (P.elem t))) (hw : P.cellsOf (P.elem t) = kk) :
    OpS P ⟨d, .slice t x none (some hi) none, ty, pos, after, g⟩ s ⟨sput d (.ref n 0 h) s.fr, s.O⟩ := ops_rcuth hx hh ho h2 hne ht hw
theorem fs_rfront {RO x hi t n len k2 kk els} {h : Nat} (hx : s.get x = .ref n 0 len) (hh : s.get hi = .v (.int k2 (h : Nat))) (hro : RO n = true) (ho : olook n s.O = some (kk, els)) (h2 : h ≤ els.length) (hne : els ≠ []) (ht : P.underlying t = some (.slice (P.elem t))) (hw : P.cellsOf (P.elem t) = kk) :
    Fs P RO ⟨d, .slice t x none (some hi) none, ty, pos, after, g⟩ s (.ref n 0 h) := fun s2 hs hO => ops_rcuth ((hs _ (by simp [Op.operands, Call.operands])).trans hx) ((hs _ (by simp [Op.operands, Call.operands])).trans hh) ((hO _ hro).trans ho) h2 hne ht hw
theorem fs_rcutl {RO x lo t n off len k1 kk els} {l : Nat} (hx : s.get x = .ref n off len) (hlo : s.get lo = .v (.int k1 (l : Nat))) (hro : RO n = true) (ho : olook n s.O = some (kk, els)) (h1 : l < len) (h2 : off + len ≤ els.length) (ht : P.underlying t = some (.slice (P.elem t))) (hw : P.cellsOf (P.elem t) = kk) :
    Fs P RO ⟨d, .slice t x (some lo) none none, ty, pos, after, g⟩ s (.ref n (off + l) (len - l)) := fun s2 hs hO => ops_rcutl ((hs _ (by simp [Op.operands, Call.operands])).trans hx) ((hs _ (by simp [Op.operands, Call.operands])).trans hlo) ((hO _ hro).trans ho) h1 h2 ht hw
theorem zeroCells_flat {α : Type} {k : Nat} {f : α → RV} {enc : α → List Value} (p : PE k f enc) (z0 : α) (n : Nat) : (Builtin.zeroCells (enc z0).toArray n).toList = (List.replicate n z0).flatMap enc := by
  have hk := p.len z0
  have hp := p.pos
  have hsz : (enc z0).toArray.size = k := by simpa using hk
  apply List.ext_getElem
  · rw [p.fl_len]; simp [Builtin.zeroCells, hk]
  · intro i h1 h2
    have hik : i % k < (enc z0).length := by rw [hk]; exact Nat.mod_lt _ hp
    have h3 : ∀ (n i : Nat) (h : i < ((List.replicate n z0).flatMap enc).length), ((List.replicate n z0).flatMap enc)[i] = (enc z0)[i % k]'(by rw [hk]; exact Nat.mod_lt _ hp) := by
      intro n
      induction n with
      | zero => intro i h; simp at h
      | succ n ih =>
        intro i h
        simp only [List.replicate_succ, List.flatMap_cons]
        by_cases hi : i < k
        · rw [List.getElem_append_left (by rw [hk]; exact hi)]
          congr 1
          rw [Nat.mod_eq_of_lt hi]
        · rw [List.getElem_append_right (by rw [hk]; omega), ih]
          congr 1
          rw [hk, ← Nat.mod_eq_sub_mod (by omega)]
    rw [h3]
    simp only [Builtin.zeroCells]
    simp [hk]
    rw [List.getElem?_eq_getElem hik]; rfl
/-- A part of a slice that is one's own is cleared. -/
theorem ops_clear {α : Type} {k : Nat} {f : α → RV} {enc : α → List Value} {l : List α} {x t n off m} (z0 : α) (p : PE k f enc) (hx : s.get x = .ref n off m) (ho : olook n s.O = some (k, l.map f)) (h0 : 0 < m) (h1 : off + m ≤ l.length)
    (ht : P.underlying t = some (.slice (P.elem t))) {zv : Value} (hz : zeroOf P (P.elem t) = some zv) (hzc : zv.cells = (enc z0).toArray) :
    OpS P ⟨d, .call ⟨.builtin .clear, #[x], #[t]⟩, ty, pos, after, g⟩ s ⟨sput d (.tup []) s.fr, oset n ((l.take off ++ List.replicate m z0 ++ l.drop (off + m)).map f) s.O⟩ :=
  ops_of fun E a w F ρ fp hr => by
    have h3 := (show SV w F ρ (.ref n off m) (a.eval x) [] from hx ▸ hr.get x).ref_inv
    obtain ⟨b, tb, c, hρb, hρ, hb, hs, hl, hcap, hcl, hset⟩ := hr.range p ho (by rintro rfl; simp at h1; omega)
    obtain ⟨fp', hfin⟩ := hset (List.replicate m z0) off (by simpa using h1)
    rw [List.length_replicate] at hfin
    have hfl := p.fl_len (List.replicate m z0)
    rw [List.length_replicate] at hfl
    simp only [hρb, Option.map_some, hρ] at h3
    have hik : off * k + m * k ≤ c.size := by
      have : (off + m) * k ≤ l.length * k := Nat.mul_le_mul_right _ h1
      rw [Nat.add_mul] at this; omega
    have hst := run_storeCells_at P b (off * k) tb ((List.replicate m z0).flatMap enc) 0 c w hb (by rw [hfl]; simpa using hik) (p.fl_one _)
    simp only [Nat.add_zero] at hst
    have hzz := zeroCells_flat p z0 m
    obtain ⟨m', rfl⟩ : ∃ m', m = m' + 1 := ⟨m - 1, by omega⟩
    refine ⟨_, _, ?_, F, ρ, fp', hfin.put d (.tup .nil)⟩
    simp [execOp, resolve, invoke, builtin, h3, Builtin.clear_, run_underlying ht, run_zeroValue hz, hzc, hzz, hst]
end
section
variable {P : Program} {ops : Array Oper} {s : St} {d : Tmp} {ty : TypeId} {pos : String} {after : Array Edge}
end
end Eng
end Go.Proofs.YtpcckakchpblcaaGreatDoor
