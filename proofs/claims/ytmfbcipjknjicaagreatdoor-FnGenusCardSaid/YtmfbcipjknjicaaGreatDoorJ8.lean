/- More of slices that are one's own: the tail of one, a part written over, cleared, appended within; what is left is let go. For elements that own nothing. -/
import Derived.Test.YtmfbcipjknjicaaGreatDoorEf
import Derived.Test.YtmfbcipjknjicaaGreatDoorJ6
namespace Go.Proofs.YtmfbcipjknjicaaGreatDoor
set_option linter.unusedSectionVars false
variable [One Bool]
namespace Eng
open Go.RowKit
set_option linter.unusedSimpArgs false
set_option maxHeartbeats 0
set_option maxRecDepth 100000

structure PE {α : Type} (k : Nat) (f : α → RV) (enc : α → List Value) : Prop where
  pos : 0 < k
  mk1 : ∀ {w F ρ} (x : α), OE w F ρ k [f x] (enc x) []
  inv : ∀ {w F ρ c fp} (x : α), OE w F ρ k [f x] c fp → c = enc x ∧ fp = []
  one : ∀ x, ∀ v ∈ enc x, v.oneCell' = true
  len : ∀ x, (enc x).length = k
section
variable {α : Type} {k : Nat} {f : α → RV} {enc : α → List Value}
theorem PE.list (p : PE k f enc) {w F ρ} : ∀ l : List α, OE w F ρ k (l.map f) (l.flatMap enc) []
  | [] => .nil _ _
  | x :: l => by
    rw [List.map_cons, List.flatMap_cons]
    exact OE.cons (p.mk1 x) (p.list l)
theorem PE.linv (p : PE k f enc) {w F ρ} : ∀ {l : List α} {c fp}, OE w F ρ k (l.map f) c fp → c = l.flatMap enc ∧ fp = []
  | [], c, fp, h => by cases h; exact ⟨rfl, rfl⟩
  | x :: l, c, fp, h => by
    rw [List.map_cons] at h
    obtain ⟨c1, c2, f1, f2, rfl, rfl, _, h1, h2⟩ := h.cons_inv
    obtain ⟨rfl, rfl⟩ := p.inv x h1
    obtain ⟨rfl, rfl⟩ := p.linv h2
    exact ⟨rfl, rfl⟩
theorem PE.fl_len (p : PE k f enc) (l : List α) : (l.flatMap enc).length = l.length * k := by
  induction l with
  | nil => simp
  | cons x l ih => rw [List.flatMap_cons, List.length_append, ih, p.len, List.length_cons, Nat.add_mul]; omega
theorem PE.fl_take (p : PE k f enc) (l : List α) (i : Nat) : (l.flatMap enc).take (i * k) = (l.take i).flatMap enc := by
  induction l generalizing i with
  | nil => simp
  | cons x l ih =>
    cases i with
    | zero => simp
    | succ i =>
      rw [List.flatMap_cons, List.take_succ_cons, List.flatMap_cons, List.take_append, p.len, List.take_of_length_le (by rw [p.len, Nat.add_mul]; omega), show (i + 1) * k - k = i * k by rw [Nat.add_mul]; omega, ih]
theorem PE.fl_drop (p : PE k f enc) (l : List α) (i : Nat) : (l.flatMap enc).drop (i * k) = (l.drop i).flatMap enc := by
  induction l generalizing i with
  | nil => simp
  | cons x l ih =>
    cases i with
    | zero => simp
    | succ i =>
      rw [List.flatMap_cons, List.drop_succ_cons, List.drop_append, p.len, List.drop_of_length_le (by rw [p.len, Nat.add_mul]; omega), List.nil_append, show (i + 1) * k - k = i * k by rw [Nat.add_mul]; omega, ih]

theorem RelX.range {E s a w F ρ fp n} {l : List α} (p : PE k f enc) (h : RelX E s a w F ρ fp) (ho : olook n s.O = some (k, l.map f)) (hne : l ≠ []) :
    ∃ b ty c, (ρ n).1 = some b ∧ (ρ n).2.1 = k ∧ w.heap[b]? = some (.cells c ty (0, 0)) ∧ c.size = (ρ n).2.2 * k ∧ l.length ≤ (ρ n).2.2 ∧ l.length * k ≤ c.size ∧ c.toList.take (l.length * k) = l.flatMap enc ∧
      ∀ (m : List α) (o : Nat), o + m.length ≤ l.length →
        ∃ fp', RelX E ⟨s.fr, oset n ((l.take o ++ m ++ l.drop (o + m.length)).map f) s.O⟩ a (w.setRow b (c.toList.take (o * k) ++ m.flatMap enc ++ c.toList.drop (o * k + (m.flatMap enc).length)).toArray) F ρ fp' := by
  obtain ⟨fp', hr'⟩ := h.front ho
  obtain ⟨b, ty, c, fp1, fp2, hk, hρ, hρb, hb, hs, hl, hm, hE, hO2, rfl⟩ := hr'.O.head (by simpa using hne) (hr'.O.pos_of (by have := p.pos; omega))
  rw [List.length_map] at hl hE
  have hcap : l.length * k ≤ c.size := by rw [hs]; exact Nat.mul_le_mul_right _ hl
  obtain ⟨hcl, rfl⟩ := p.linv hE
  refine ⟨b, ty, c, hρb, hρ, hb, hs, hl, hcap, hcl, fun m o hom => ?_⟩
  have hml := p.fl_len m
  have hok : o * k + m.length * k ≤ l.length * k := by rw [← Nat.add_mul]; exact Nat.mul_le_mul_right _ hom
  have htk : c.toList.take (o * k) = (l.take o).flatMap enc := by
    rw [← p.fl_take, ← hcl, List.take_take, Nat.min_eq_left (by omega)]
  have hlen2 : (l.take o ++ m ++ l.drop (o + m.length)).length = l.length := by simp; omega
  have hnew : (c.toList.take (o * k) ++ m.flatMap enc ++ c.toList.drop (o * k + (m.flatMap enc).length)).take (l.length * k) = (l.take o ++ m ++ l.drop (o + m.length)).flatMap enc := by
    rw [List.flatMap_append, List.flatMap_append, ← htk, ← p.fl_drop, List.take_append, List.take_of_length_le (by simp [hml]; omega)]
    congr 1
    have e1 : l.length * k - (c.toList.take (o * k) ++ m.flatMap enc).length = l.length * k - (o + m.length) * k := by
      simp only [List.length_append, List.length_take, hml, Array.length_toList, Nat.add_mul]; omega
    rw [e1, hml, ← Nat.add_mul, ← hcl, List.drop_take]
  have hsz : (c.toList.take (o * k) ++ m.flatMap enc ++ c.toList.drop (o * k + (m.flatMap enc).length)).toArray.size = c.size := by
    simp [hml]; omega
  have hfin := hr'.modify (els' := (l.take o ++ m ++ l.drop (o + m.length)).map f) (ty := ty) (c' := (c.toList.take (o * k) ++ m.flatMap enc ++ c.toList.drop (o * k + (m.flatMap enc).length)).toArray) (fp1' := [])
    (w' := w.setRow b (c.toList.take (o * k) ++ m.flatMap enc ++ c.toList.drop (o * k + (m.flatMap enc).length)).toArray) hk hρ hρb hm hO2 (by simp) (fun j hj => setRow_other w b j _ hj) (setRow_heap w b c _ ty _ hb) (by rw [hsz, hs]) (by rw [List.length_map, hlen2]; exact hl)
    (by rw [List.length_map, hlen2]; rw [hnew]; exact p.list _) hr'.nodup (fun x hx => by cases hx) rfl ⟨rfl, .inl (Nat.le_refl _)⟩ rfl
  have ho' : olook n (oset n ((l.take o ++ m ++ l.drop (o + m.length)).map f) s.O) = some (k, (l.take o ++ m ++ l.drop (o + m.length)).map f) := olook_oset ho
  rw [← oerase_oset n ((l.take o ++ m ++ l.drop (o + m.length)).map f) s.O] at hfin
  exact hfin.back ho'
end
section
variable {P : Program} {s : St} {d : Option Tmp} {ty : TypeId} {pos : String} {after : Array Edge} {g : Option (Nat × Bool)}
theorem ops_rcutl {x lo t n off len k1 kk els} {l : Nat} (hx : s.get x = .ref n off len) (hlo : s.get lo = .v (.int k1 (l : Nat))) (ho : olook n s.O = some (kk, els)) (h1 : l < len) (h2 : off + len ≤ els.length) (ht : P.underlying t = some (.slice (P.elem t))) (hw : P.cellsOf (P.elem t) = kk) :
    OpS P ⟨d, .slice t x (some lo) none none, ty, pos, after, g⟩ s ⟨sput d (.ref n (off + l) (len - l)) s.fr, s.O⟩ :=
  ops_val fun _ a w F ρ _ hr => by
    have h3 := (show SV w F ρ (.ref n off len) (a.eval x) [] from hx ▸ hr.get x).ref_inv
    obtain ⟨fp', hr'⟩ := hr.front ho
    obtain ⟨b, tb, c, fp1, fp2, hk, hρ, hρb, hb, hs, hl, hm, _⟩ := hr'.O.head (by rintro rfl; simp at h2; omega) (show SV w F ρ (.ref n off len) (a.eval x) [] from hx ▸ hr.get x).ref_pos
    simp only [hρb, Option.map_some, hρ] at h3
    have hsv := SV.ref_mk (w := w) (F := F) (ρ := ρ) (n := n) (k := kk) (cap := (ρ n).2.2) (b := b) (by rw [← hρb, ← hρ]) (off + l) (len - l)
    refine ⟨_, ?_, hsv⟩
    have h5 : ¬ ((ρ n).2.2 - off = l) := by omega
    simp [execOp, h3, hr.ex hlo, Instr.sliceAt, Instr.slice, Instr.sliceBounds, run_underlying ht, run_bound (show l ≤ len by omega), run_size hw hk, h5]
    refine ⟨?_, by omega⟩
    rw [Addr.add_lit, Nat.add_mul]
theorem ops_rfront {x hi t n len k2 kk els} {h : Nat} (hx : s.get x = .ref n 0 len) (hh : s.get hi = .v (.int k2 (h : Nat))) (ho : olook n s.O = some (kk, els)) (h2 : h ≤ els.length) (hne : els ≠ []) (ht : P.underlying t = some (.slice (P.elem t))) (hw : P.cellsOf (P.elem t) = kk) :
    OpS P ⟨d, .slice t x none (some hi) none, ty, pos, after, g⟩ s ⟨sput d (.ref n 0 h) s.fr, s.O⟩ := ops_rcuth hx hh ho h2 hne ht hw
theorem fs_rfront {RO x hi t n len k2 kk els} {h : Nat} (hx : s.get x = .ref n 0 len) (hh : s.get hi = .v (.int k2 (h : Nat))) (hro : RO n = true) (ho : olook n s.O = some (kk, els)) (h2 : h ≤ els.length) (hne : els ≠ []) (ht : P.underlying t = some (.slice (P.elem t))) (hw : P.cellsOf (P.elem t) = kk) :
    Fs P RO ⟨d, .slice t x none (some hi) none, ty, pos, after, g⟩ s (.ref n 0 h) := fun s2 hs hO => ops_rcuth ((hs _ (by simp [Op.operands, Call.operands])).trans hx) ((hs _ (by simp [Op.operands, Call.operands])).trans hh) ((hO _ hro).trans ho) h2 hne ht hw
theorem fs_rcutl {RO x lo t n off len k1 kk els} {l : Nat} (hx : s.get x = .ref n off len) (hlo : s.get lo = .v (.int k1 (l : Nat))) (hro : RO n = true) (ho : olook n s.O = some (kk, els)) (h1 : l < len) (h2 : off + len ≤ els.length) (ht : P.underlying t = some (.slice (P.elem t))) (hw : P.cellsOf (P.elem t) = kk) :
    Fs P RO ⟨d, .slice t x (some lo) none none, ty, pos, after, g⟩ s (.ref n (off + l) (len - l)) := fun s2 hs hO => ops_rcutl ((hs _ (by simp [Op.operands, Call.operands])).trans hx) ((hs _ (by simp [Op.operands, Call.operands])).trans hlo) ((hO _ hro).trans ho) h1 h2 ht hw
end
section
variable {P : Program} {ops : Array Oper} {s : St} {d : Tmp} {ty : TypeId} {pos : String} {after : Array Edge}
end
end Eng
end Go.Proofs.YtmfbcipjknjicaaGreatDoor
/- Further rules of the engine: calls that float, products of numbers, blocks made in drawn regions, bytes. No condition. -/
namespace Go.Proofs.YtmfbcipjknjicaaGreatDoor
set_option linter.unusedSectionVars false
variable [One Bool]
open Eng

section
variable {P : Program} {RO : Nat → Bool} {ops : Array Oper} {ty : TypeId} {pos : String} {after : Array Edge} {s : St}
theorem fs_callf {d : Tmp} {g : Option (Nat × Bool)} {f : FuncId} {args : Array Operand} {ats : Array TypeId} {argsR : List RV} {r : RV} (hargs : args.toList.map s.get = argsR := by rfl) (hnt : argsR.all RV.notTup = true := by rfl) (hc : callable P f = true := by kernel_rfl) (hfc : FCr P f argsR r) : Fs P RO ⟨some d, .call ⟨.value (.func f), args, ats⟩, ty, pos, after, g⟩ s r.fzR := by
  intro s2 hs _
  have hg : ∀ x ∈ args.toList, s2.get x = s.get x := fun x hx => hs x (by simp only [Op.operands, Call.operands, Array.toList_append]; simp [hx])
  exact ops_callf (by rw [List.map_congr_left hg]; exact hargs) hnt hc hfc
theorem fs_muln {x y t u} {m n : Nat} {d : Option Tmp} {g : Option (Nat × Bool)} (hx : s.get x = .v (.int .i64 (m : Nat))) (hy : s.get y = .v (.int .i64 (n : Nat))) (h2 : m * n ≤ 9223372036854775807) : Fs P RO ⟨d, .binOp .mul t x y u, ty, pos, after, g⟩ s (.v (.int .i64 ((m * n : Nat) : Int))) := by
  have h := fs_mul (P := P) (RO := RO) (d := d) (ty := ty) (pos := pos) (after := after) (g := g) (t := t) (u := u) hx hy (by have := Int.natCast_nonneg (m * n); rw [Int.natCast_mul] at this; omega) (by rw [← Int.natCast_mul]; omega)
  rw [← Int.natCast_mul] at h; exact h
theorem ops_muln {x y t u} {m n : Nat} {d : Option Tmp} {g : Option (Nat × Bool)} (hx : s.get x = .v (.int .i64 (m : Nat))) (hy : s.get y = .v (.int .i64 (n : Nat))) (h2 : m * n ≤ 9223372036854775807) : OpS P ⟨d, .binOp .mul t x y u, ty, pos, after, g⟩ s ⟨sput d (.v (.int .i64 ((m * n : Nat) : Int))) s.fr, s.O⟩ := by
  have h := ops_mul (P := P) (d := d) (ty := ty) (pos := pos) (after := after) (g := g) (t := t) (u := u) hx hy (by have := Int.natCast_nonneg (m * n); rw [Int.natCast_mul] at this; omega) (by rw [← Int.natCast_mul]; omega)
  rw [← Int.natCast_mul] at h; exact h
theorem ops_pred {x t u} {a : Nat} {d : Option Tmp} {g : Option (Nat × Bool)} (hx : s.get x = .v (.int .i64 ((a + 1 : Nat) : Int))) (h : a + 1 ≤ 9223372036854775807) : OpS P ⟨d, .binOp .sub t x (.const (.int .i64 1)) u, ty, pos, after, g⟩ s ⟨sput d (RVn a) s.fr, s.O⟩ := by
  have := ops_sub (P := P) (d := d) (ty := ty) (pos := pos) (after := after) (g := g) (t := t) (u := u) (s := s) (x := x) (y := .const (.int .i64 1)) (m := ((a + 1 : Nat) : Int)) (n := 1) hx rfl (by omega) (by omega)
  rwa [show ((a + 1 : Nat) : Int) - 1 = (a : Int) by omega] at this
theorem fs_pred {x t u} {a : Nat} {d : Option Tmp} {g : Option (Nat × Bool)} (hx : s.get x = .v (.int .i64 ((a + 1 : Nat) : Int))) (h : a + 1 ≤ 9223372036854775807) : Fs P RO ⟨d, .binOp .sub t x (.const (.int .i64 1)) u, ty, pos, after, g⟩ s (RVn a) := fun s2 hs _ => ops_pred ((hs _ (by simp [Op.operands])).trans hx) h
end

end Go.Proofs.YtmfbcipjknjicaaGreatDoor
/- Loops (two lists of lists of ints) measured, copied, compared, as the drawn laws do it. For all loops. -/
namespace Go.Proofs.YtmfbcipjknjicaaGreatDoor
set_option linter.unusedSectionVars false
variable [One Bool]
open Eng
attribute [local irreducible] OpS OpG FC FCr Rel Fl Ef DR Fs
set_option linter.unusedSimpArgs false
set_option maxHeartbeats 0
set_option maxRecDepth 100000

end Go.Proofs.YtmfbcipjknjicaaGreatDoor
