/- More of slices that are one's own: the tail of one, a part written over, cleared, appended within; what is left is let go. For elements that own nothing. -/
import Derived.Test.YtmfbcipjknjicaaGreatDoorEf
import Derived.Test.YtmfbcipjknjicaaGreatDoorJ6
namespace Go.Proofs.YtmfbcipjknjicaaGreatDoor
namespace Eng
open Go.RowKit
set_option maxHeartbeats 0
set_option maxRecDepth 100000

structure PE {α : Type} (k : Nat) (f : α → RV) (enc : α → List Value) : Prop where
  pos : 0 < k
  mk1 : ∀ {w F ρ} (x : α), OE w F ρ k [f x] (enc x) []
  inv : ∀ {w F ρ c fp} (x : α), OE w F ρ k [f x] c fp → c = enc x ∧ fp = []
  one : ∀ x, ∀ v ∈ enc x, v.oneCell' = true
  len : ∀ x, (enc x).length = k
section
variable {α : Type} {k : Nat} {f : α → RV} {enc : α → List Value}
theorem PE.list (p : PE k f enc) {w F ρ} : ∀ l : List α, OE w F ρ k (l.map f) (l.flatMap enc) []
  | [] => .nil _ _
  | x :: l => by
    rw [List.map_cons, List.flatMap_cons]
    exact OE.cons (p.mk1 x) (p.list l)
theorem PE.linv (p : PE k f enc) {w F ρ} : ∀ {l : List α} {c fp}, OE w F ρ k (l.map f) c fp → c = l.flatMap enc ∧ fp = []
  | [], c, fp, h => by cases h; exact ⟨rfl, rfl⟩
  | x :: l, c, fp, h => by
    rw [List.map_cons] at h
    obtain ⟨c1, c2, f1, f2, rfl, rfl, _, h1, h2⟩ := h.cons_inv
    obtain ⟨rfl, rfl⟩ := p.inv x h1
    obtain ⟨rfl, rfl⟩ := p.linv h2
    exact ⟨rfl, rfl⟩
theorem PE.fl_len (p : PE k f enc) (l : List α) : (l.flatMap enc).length = l.length * k := by
  induction l with
  | nil => simp
  | cons x l ih => rw [List.flatMap_cons, List.length_append, ih, p.len, List.length_cons, Nat.add_mul]; omega
theorem PE.fl_take (p : PE k f enc) (l : List α) (i : Nat) : (l.flatMap enc).take (i * k) = (l.take i).flatMap enc := by
  induction l generalizing i with
  | nil => simp
  | cons x l ih =>
    cases i with
    | zero => simp
    | succ i =>
      rw [List.flatMap_cons, List.take_succ_cons, List.flatMap_cons, List.take_append, p.len, List.take_of_length_le (by rw [p.len, Nat.add_mul]; omega), show (i + 1) * k - k = i * k by rw [Nat.add_mul]; omega, ih]
theorem PE.fl_drop (p : PE k f enc) (l : List α) (i : Nat) : (l.flatMap enc).drop (i * k) = (l.drop i).flatMap enc := by
  induction l generalizing i with
  | nil => simp
  | cons x l ih =>
    cases i with
    | zero => simp
    | succ i =>
      rw [List.flatMap_cons, List.drop_succ_cons, List.drop_append, p.len, List.drop_of_length_le (by rw [p.len, Nat.add_mul]; omega), List.nil_append, show (i + 1) * k - k = i * k by rw [Nat.add_mul]; omega, ih]

theorem RelX.range {E s a w F ρ fp n} {l : List α} (p : PE k f enc) (h : RelX E s a w F ρ fp) (ho : olook n s.O = some (k, l.map f)) (hne : l ≠ []) :
    ∃ b ty c, (ρ n).1 = some b ∧ (ρ n).2.1 = k ∧ w.heap[b]? = some (.cells c ty (0, 0)) ∧ c.size = (ρ n).2.2 * k ∧ l.length ≤ (ρ n).2.2 ∧ l.length * k ≤ c.size ∧ c.toList.take (l.length * k) = l.flatMap enc ∧
      ∀ (m : List α) (o : Nat), o + m.length ≤ l.length →
        ∃ fp', RelX E ⟨s.fr, oset n ((l.take o ++ m ++ l.drop (o + m.length)).map f) s.O⟩ a (w.setRow b (c.toList.take (o * k) ++ m.flatMap enc ++ c.toList.drop (o * k + (m.flatMap enc).length)).toArray) F ρ fp' := by
  obtain ⟨fp', hr'⟩ := h.front ho
  obtain ⟨b, ty, c, fp1, fp2, hk, hρ, hρb, hb, hs, hl, hm, hE, hO2, rfl⟩ := hr'.O.head (by simpa using hne) (hr'.O.pos_of (by have := p.pos; omega))
  rw [List.length_map] at hl hE
  have hcap : l.length * k ≤ c.size := by rw [hs]; exact Nat.mul_le_mul_right _ hl
  obtain ⟨hcl, rfl⟩ := p.linv hE
  refine ⟨b, ty, c, hρb, hρ, hb, hs, hl, hcap, hcl, fun m o hom => ?_⟩
  have hml := p.fl_len m
  have hok : o * k + m.length * k ≤ l.length * k := by rw [← Nat.add_mul]; exact Nat.mul_le_mul_right _ hom
  have htk : c.toList.take (o * k) = (l.take o).flatMap enc := by
    rw [← p.fl_take, ← hcl, List.take_take, Nat.min_eq_left (by omega)]
  have hlen2 : (l.take o ++ m ++ l.drop (o + m.length)).length = l.length := by simp; omega
  have hnew : (c.toList.take (o * k) ++ m.flatMap enc ++ c.toList.drop (o * k + (m.flatMap enc).length)).take (l.length * k) = (l.take o ++ m ++ l.drop (o + m.length)).flatMap enc := by
    rw [List.flatMap_append, List.flatMap_append, ← htk, ← p.fl_drop, List.take_append, List.take_of_length_le (by simp [hml]; omega)]
    congr 1
    have e1 : l.length * k - (c.toList.take (o * k) ++ m.flatMap enc).length = l.length * k - (o + m.length) * k := by
      simp only [List.length_append, List.length_take, hml, Array.length_toList, Nat.add_mul]; omega
    rw [e1, hml, ← Nat.add_mul, ← hcl, List.drop_take]
  have hsz : (c.toList.take (o * k) ++ m.flatMap enc ++ c.toList.drop (o * k + (m.flatMap enc).length)).toArray.size = c.size := by
    simp [hml]; omega
  have hfin := hr'.modify (els' := (l.take o ++ m ++ l.drop (o + m.length)).map f) (ty := ty) (c' := (c.toList.take (o * k) ++ m.flatMap enc ++ c.toList.drop (o * k + (m.flatMap enc).length)).toArray) (fp1' := [])
    (w' := w.setRow b (c.toList.take (o * k) ++ m.flatMap enc ++ c.toList.drop (o * k + (m.flatMap enc).length)).toArray) hk hρ hρb hm hO2 (by simp) (fun j hj => setRow_other w b j _ hj) (setRow_heap w b c _ ty _ hb) (by rw [hsz, hs]) (by rw [List.length_map, hlen2]; exact hl)
    (by rw [List.length_map, hlen2]; rw [hnew]; exact p.list _) hr'.nodup (fun x hx => by cases hx) rfl ⟨rfl, Nat.le_refl _⟩ rfl
  have ho' : olook n (oset n ((l.take o ++ m ++ l.drop (o + m.length)).map f) s.O) = some (k, (l.take o ++ m ++ l.drop (o + m.length)).map f) := olook_oset ho
  rw [← oerase_oset n ((l.take o ++ m ++ l.drop (o + m.length)).map f) s.O] at hfin
  exact hfin.back ho'
end
section
variable {P : Program} {s : St} {d : Option Tmp} {ty : TypeId} {pos : String} {after : Array Edge} {g : Option (Nat × Bool)}
theorem ops_rcutl {x lo t n off len k1 kk els} {l : Nat} (hx : s.get x = .ref n off len) (hlo : s.get lo = .v (.int k1 (l : Nat))) (ho : olook n s.O = some (kk, els)) (h1 : l < len) (h2 : off + len ≤ els.length) (ht : P.underlying t = some (.slice (P.elem t))) (hw : P.cellsOf (P.elem t) = kk) :
    OpS P ⟨d, .slice t x (some lo) none none, ty, pos, after, g⟩ s ⟨sput d (.ref n (off + l) (len - l)) s.fr, s.O⟩ :=
  ops_val fun _ a w F ρ _ hr => by
    have h3 := (show SV w F ρ (.ref n off len) (a.eval x) [] from hx ▸ hr.get x).ref_inv
    obtain ⟨fp', hr'⟩ := hr.front ho
    obtain ⟨b, tb, c, fp1, fp2, hk, hρ, hρb, hb, hs, hl, hm, _⟩ := hr'.O.head (by rintro rfl; simp at h2; omega) (show SV w F ρ (.ref n off len) (a.eval x) [] from hx ▸ hr.get x).ref_pos
    simp only [hρb, Option.map_some, hρ] at h3
    have hsv := SV.ref_mk (w := w) (F := F) (ρ := ρ) (n := n) (k := kk) (cap := (ρ n).2.2) (b := b) (by rw [← hρb, ← hρ]) (off + l) (len - l)
    refine ⟨_, ?_, hsv⟩
    have h5 : ¬ ((ρ n).2.2 - off = l) := by omega
    simp [execOp, h3, hr.ex hlo, Instr.sliceAt, Instr.slice, Instr.sliceBounds, run_underlying ht, run_bound (show l ≤ len by omega), run_size hw hk, h5]
    refine ⟨?_, by omega⟩
    rw [Addr.add_lit, Nat.add_mul]
theorem ops_rfront {x hi t n len k2 kk els} {h : Nat} (hx : s.get x = .ref n 0 len) (hh : s.get hi = .v (.int k2 (h : Nat))) (ho : olook n s.O = some (kk, els)) (h2 : h ≤ els.length) (hne : els ≠ []) (ht : P.underlying t = some (.slice (P.elem t))) (hw : P.cellsOf (P.elem t) = kk) :
    OpS P ⟨d, .slice t x none (some hi) none, ty, pos, after, g⟩ s ⟨sput d (.ref n 0 h) s.fr, s.O⟩ := ops_rcuth hx hh ho h2 hne ht hw
theorem fs_rfront {RO x hi t n len k2 kk els} {h : Nat} (hx : s.get x = .ref n 0 len) (hh : s.get hi = .v (.int k2 (h : Nat))) (hro : RO n = true) (ho : olook n s.O = some (kk, els)) (h2 : h ≤ els.length) (hne : els ≠ []) (ht : P.underlying t = some (.slice (P.elem t))) (hw : P.cellsOf (P.elem t) = kk) :
    Fs P RO ⟨d, .slice t x none (some hi) none, ty, pos, after, g⟩ s (.ref n 0 h) := fun s2 hs hO => ops_rcuth ((hs _ (by simp [Op.operands, Call.operands])).trans hx) ((hs _ (by simp [Op.operands, Call.operands])).trans hh) ((hO _ hro).trans ho) h2 hne ht hw
theorem fs_rcutl {RO x lo t n off len k1 kk els} {l : Nat} (hx : s.get x = .ref n off len) (hlo : s.get lo = .v (.int k1 (l : Nat))) (hro : RO n = true) (ho : olook n s.O = some (kk, els)) (h1 : l < len) (h2 : off + len ≤ els.length) (ht : P.underlying t = some (.slice (P.elem t))) (hw : P.cellsOf (P.elem t) = kk) :
    Fs P RO ⟨d, .slice t x (some lo) none none, ty, pos, after, g⟩ s (.ref n (off + l) (len - l)) := fun s2 hs hO => ops_rcutl ((hs _ (by simp [Op.operands, Call.operands])).trans hx) ((hs _ (by simp [Op.operands, Call.operands])).trans hlo) ((hO _ hro).trans ho) h1 h2 ht hw
end
section
variable {P : Program} {ops : Array Oper} {s : St} {d : Tmp} {ty : TypeId} {pos : String} {after : Array Edge}
end
end Eng
end Go.Proofs.YtmfbcipjknjicaaGreatDoor
/- Further rules of the engine: calls that float, products of numbers, blocks made in drawn regions, bytes. No condition. -/
namespace Go.Proofs.YtmfbcipjknjicaaGreatDoor
open Eng

section
variable {P : Program} {RO : Nat → Bool} {ops : Array Oper} {ty : TypeId} {pos : String} {after : Array Edge} {s : St}
theorem fs_callf {d : Tmp} {g : Option (Nat × Bool)} {f : FuncId} {args : Array Operand} {ats : Array TypeId} {argsR : List RV} {r : RV} (hargs : args.toList.map s.get = argsR := by rfl) (hnt : argsR.all RV.notTup = true := by rfl) (hc : callable P f = true := by kernel_rfl) (hfc : FCr P f argsR r) : Fs P RO ⟨some d, .call ⟨.value (.func f), args, ats⟩, ty, pos, after, g⟩ s r.fzR := by
  intro s2 hs _
  have hg : ∀ x ∈ args.toList, s2.get x = s.get x := fun x hx => hs x (by simp only [Op.operands, Call.operands, Array.toList_append]; simp [hx])
  exact ops_callf (by rw [List.map_congr_left hg]; exact hargs) hnt hc hfc
theorem fs_muln {x y t u} {m n : Nat} {d : Option Tmp} {g : Option (Nat × Bool)} (hx : s.get x = .v (.int .i64 (m : Nat))) (hy : s.get y = .v (.int .i64 (n : Nat))) (h2 : m * n ≤ 9223372036854775807) : Fs P RO ⟨d, .binOp .mul t x y u, ty, pos, after, g⟩ s (.v (.int .i64 ((m * n : Nat) : Int))) := by
  have h := fs_mul (P := P) (RO := RO) (d := d) (ty := ty) (pos := pos) (after := after) (g := g) (t := t) (u := u) hx hy (by have := Int.natCast_nonneg (m * n); rw [Int.natCast_mul] at this; omega) (by rw [← Int.natCast_mul]; omega)
  rw [← Int.natCast_mul] at h; exact h
theorem ops_muln {x y t u} {m n : Nat} {d : Option Tmp} {g : Option (Nat × Bool)} (hx : s.get x = .v (.int .i64 (m : Nat))) (hy : s.get y = .v (.int .i64 (n : Nat))) (h2 : m * n ≤ 9223372036854775807) : OpS P ⟨d, .binOp .mul t x y u, ty, pos, after, g⟩ s ⟨sput d (.v (.int .i64 ((m * n : Nat) : Int))) s.fr, s.O⟩ := by
  have h := ops_mul (P := P) (d := d) (ty := ty) (pos := pos) (after := after) (g := g) (t := t) (u := u) hx hy (by have := Int.natCast_nonneg (m * n); rw [Int.natCast_mul] at this; omega) (by rw [← Int.natCast_mul]; omega)
  rw [← Int.natCast_mul] at h; exact h
theorem ops_pred {x t u} {a : Nat} {d : Option Tmp} {g : Option (Nat × Bool)} (hx : s.get x = .v (.int .i64 ((a + 1 : Nat) : Int))) (h : a + 1 ≤ 9223372036854775807) : OpS P ⟨d, .binOp .sub t x (.const (.int .i64 1)) u, ty, pos, after, g⟩ s ⟨sput d (RVn a) s.fr, s.O⟩ := by
  have := ops_sub (P := P) (d := d) (ty := ty) (pos := pos) (after := after) (g := g) (t := t) (u := u) (s := s) (x := x) (y := .const (.int .i64 1)) (m := ((a + 1 : Nat) : Int)) (n := 1) hx rfl (by omega) (by omega)
  rwa [show ((a + 1 : Nat) : Int) - 1 = (a : Int) by omega] at this
end

end Go.Proofs.YtmfbcipjknjicaaGreatDoor
/- Rules of the engine: calls of a function that stands in a slot; a block of frozen lists cut and cleared. No condition. -/
namespace Go.Proofs.YtmfbcipjknjicaaGreatDoor
set_option linter.unusedSimpArgs false
set_option linter.unusedVariables false
set_option maxHeartbeats 0
set_option maxRecDepth 100000
namespace Eng
open Go.RowKit
section
variable {P : Program} {s : St} {d : Tmp} {ty : TypeId} {pos : String} {after : Array Edge} {g : Option (Nat × Bool)}
theorem run_callS {o : Oper} {a : Act} {w : World} {t : Tmp} {f args ats} (ho : o.op = .call ⟨.value (.tmp t), args, ats⟩) (hf : a.eval (.tmp t) = .func (.func f) #[] #[]) (hc : callable P f = true) : (execOp a.eval o).run P w = .ok (.enter f (args.map a.eval)) w := by
  unfold callable at hc
  split at hc
  · rename_i fn hfn
    simp only [Bool.and_eq_true, bne_iff_ne] at hc
    obtain ⟨bd, hb⟩ := Option.isSome_iff_exists.1 hc.1
    simp [execOp, ho, resolve, hf, Deferred.ofValue, invoke, callFunc, hfn, hc.2, hb]
  · cases hc
theorem ops_callS {t : Tmp} {f args ats argsR r} (hfn : s.get (.tmp t) = .v (.func (.func f) #[] #[]) := by rfl) (hargs : args.toList.map s.get = argsR := by rfl) (hnt : argsR.all RV.notTup = true := by rfl) (hc : callable P f = true := by kernel_rfl) (hfc : FCr P f argsR r) :
    OpS P ⟨some d, .call ⟨.value (.tmp t), args, ats⟩, ty, pos, after, g⟩ s ⟨lset s.fr d r.fzR, s.O⟩ := by
  rintro E a w ⟨F, ρ, fp, h⟩ K Q hK
  have hA := h.args args.toList (by rw [hargs]; exact hnt)
  rw [hargs] at hA
  simp only [Oper.wp, run_callS (a := a) (w := w) (o := ⟨some d, .call ⟨.value (.tmp t), args, ats⟩, ty, pos, after, g⟩) rfl (h.ex hfn) hc, Oper.upon_enter]
  have hcall := hfc w F ρ _ [] hA (.nil h.O.gok) List.nodup_nil (fun b hb => nomatch hb) h.Fs
  rw [show (args.toList.map a.eval).toArray = args.map a.eval from Array.ext' (by rw [Array.toList_map])] at hcall
  refine hcall.mono ?_
  rintro e w' ⟨v, rv, Oout, F', ρ', fp1, fp2, rfl, ⟨rfl, rfl⟩, hsv, hO2, hnd, hfp, hF, hF', hb, hsz, h1, h2, h3, _⟩
  have hfp1 : ∀ b ∈ fp1, w.heap.size ≤ b := fun b hb => by have := (hfp b (by simp [hb])).2; simpa using this
  have hx := h.world (w' := w') (F' := fun b => F' b ∨ b ∈ fp1) (fun b hb => .inl (hF b hb)) (fun b hb => by
    rcases hb with hb | hb
    · have := hF' b hb; simpa using this
    · exact ⟨.inr (hfp1 b hb), hsv.lt b hb⟩) (fun b hb' => hb b hb' (by simp)) hsz h1 h2 h3
  have hs' : SV w' (fun b => F' b ∨ b ∈ fp1) ρ' rv.fzR v [] := hsv.fzR (fun b hb => .inl hb) (fun b hb => .inr hb)
  refine hK _ _ ⟨_, _, _, hx.put (some d) ?_⟩
  exact hs'.noName (RV.fzR_names _)
theorem fs_callS {RO : Nat → Bool} {t : Tmp} {f : FuncId} {args : Array Operand} {ats : Array TypeId} {argsR : List RV} {r : RV} (hfn : s.get (.tmp t) = .v (.func (.func f) #[] #[]) := by rfl) (hargs : args.toList.map s.get = argsR := by rfl) (hnt : argsR.all RV.notTup = true := by rfl) (hc : callable P f = true := by kernel_rfl) (hfc : FCr P f argsR r) :
    Fs P RO ⟨some d, .call ⟨.value (.tmp t), args, ats⟩, ty, pos, after, g⟩ s r.fzR := by
  intro s2 hs _
  have hg : ∀ x ∈ args.toList, s2.get x = s.get x := fun x hx => hs x (by simp only [Op.operands, Call.operands, Array.toList_append]; simp [hx])
  exact ops_callS (hfn := (hs _ (by simp [Op.operands, Call.operands])).trans hfn) (hargs := by rw [List.map_congr_left hg]; exact hargs) hnt hc hfc
end
section
variable {P : Program} {RO : Nat → Bool} {s : St} {d : Option Tmp} {ty : TypeId} {pos : String} {after : Array Edge} {g : Option (Nat × Bool)}
theorem fs_subn {x y t u} {a b : Nat} (hx : s.get x = .v (.int .i64 (a : Nat))) (hy : s.get y = .v (.int .i64 (b : Nat))) (h : b ≤ a) (h2 : a ≤ 9223372036854775807) : Fs P RO ⟨d, .binOp .sub t x y u, ty, pos, after, g⟩ s (.v (.int .i64 ((a - b : Nat) : Int))) := fun s2 hs hO =>
  ops_subn ((hs _ (by simp [Op.operands])).trans hx) ((hs _ (by simp [Op.operands])).trans hy) h h2
end
theorem le_cutP {fr : List RV} {O O' : List Bk} (n i : Nat) {k : Nat} {els : List RV} (ho : olook n O = some (k, els)) (hk0 : 0 < k) (hp : ∀ {w : World} {F : Nat → Prop} {ρ : Places} {cs : List Value} {fp : List Nat}, OE w F ρ k els cs fp → fp = []) (e2 : oset n (els.take i) O = O') : LE ⟨fr, O⟩ ⟨fr, O'⟩ := by
  subst e2
  refine ⟨?_⟩
  rintro E a w ⟨F, ρ, fp, hr⟩
  obtain ⟨fp', hr'⟩ := hr.front ho
  have ho' : olook n (oset n (els.take i) O) = some (k, els.take i) := olook_oset ho
  have key : ∃ fp2, OL w F ρ ((n, k, els.take i) :: oerase n O) fp2 ∧ fp2 = fp' := by
    cases hr'.O with
    | map => exact absurd hk0 (by omega)
    | nilb hk hρ h => rw [List.take_nil]; exact ⟨_, .nilb hk hρ h, rfl⟩
    | @cons _ b _ _ tb c cells _ fp1 fpr hk hρ hρb hb hs hl hm hc he h =>
      have h0 := hp he
      subst h0
      have he' := he
      rw [← List.take_append_drop i els] at he'
      obtain ⟨c1, c2, f1, f2, e1, e3, hc1, h1, h2⟩ := he'.split
      obtain ⟨rfl, rfl⟩ := List.append_eq_nil_iff.1 e3.symm
      refine ⟨_, .cons (cells := c1) (fp1 := []) hk hρ hρb hb hs (by simp; omega) hm ?_ h1 h, rfl⟩
      have hq : (els.take i).length ≤ els.length := by simp; omega
      have : (c.toList.take (els.length * k)).take ((els.take i).length * k) = c1 := by rw [hc, e1, List.take_left' hc1]
      rw [List.take_take, Nat.min_eq_left (Nat.mul_le_mul_right _ hq)] at this
      exact this
  obtain ⟨fp2, hO, rfl⟩ := key
  have hfin : RelX E ⟨fr, (n, k, els.take i) :: oerase n O⟩ a w F ρ fp2 := { hr' with O := hO }
  have hfin2 : RelX E ⟨fr, (n, k, els.take i) :: oerase n (oset n (els.take i) O)⟩ a w F ρ fp2 := by rw [oerase_oset]; exact hfin
  obtain ⟨fp3, h3⟩ := hfin2.back ho'
  exact ⟨F, ρ, fp3, h3⟩
theorem ris_nofp : ∀ (l : List (List Int)) {w : World} {F : Nat → Prop} {ρ : Places} {cs : List Value} {fp : List Nat}, OE w F ρ 1 (l.map RIs) cs fp → fp = [] := by
  intro l w F ρ cs fp h
  refine h.plain_fpL ?_
  simp [RV.plain]
theorem le_cutH {fr : List RV} {O O' : List Bk} (n i : Nat) {l l' : List (List Int)} (ho : olook n O = some (1, l.map RIs)) (e : l.take i = l') (e2 : oset n (l'.map RIs) O = O') : LE ⟨fr, O⟩ ⟨fr, O'⟩ :=
  le_cutP n i ho (by omega) (ris_nofp l) (by rw [← List.map_take, e]; exact e2)
section
variable {P : Program} {s : St} {d : Option Tmp} {ty : TypeId} {pos : String} {after : Array Edge} {g : Option (Nat × Bool)}
theorem fe_nils {w : World} {F : Nat → Prop} : ∀ m : Nat, FE w F 1 ((List.replicate m ([] : List Int)).map RIs) (List.replicate m (.slice none 0 0))
  | 0 => .nil _
  | m + 1 => by rw [List.replicate_succ, List.replicate_succ, List.map_cons]; exact .shnil _ _ (fe_nils m)
theorem zc_nils (m : Nat) : (Builtin.zeroCells (Value.slice none 0 0).cells m).toList = List.replicate m (Value.slice none 0 0) := by
  apply List.ext_getElem
  · simp [Builtin.zeroCells, Value.cells]
  · intro i h1 h2
    simp only [Builtin.zeroCells, Value.cells]
    simp [Nat.mod_one]
theorem ops_clearH {l : List (List Int)} {x t n off m} (hx : s.get x = .ref n off m) (ho : olook n s.O = some (1, l.map RIs)) (h0 : 0 < m) (h1 : off + m ≤ l.length)
    (ht : P.underlying t = some (.slice (P.elem t))) (hz : zeroOf P (P.elem t) = some (.slice none 0 0)) :
    OpS P ⟨d, .call ⟨.builtin .clear, #[x], #[t]⟩, ty, pos, after, g⟩ s ⟨sput d (.tup []) s.fr, oset n ((l.take off ++ List.replicate m [] ++ l.drop (off + m)).map RIs) s.O⟩ :=
  ops_of fun E a w F ρ fp hr => by
    have h3 := (show SV w F ρ (.ref n off m) (a.eval x) [] from hx ▸ hr.get x).ref_inv
    have hpos := (show SV w F ρ (.ref n off m) (a.eval x) [] from hx ▸ hr.get x).ref_pos
    obtain ⟨fp', hr'⟩ := hr.front ho
    obtain ⟨b, tb, c, fp1, fp2, hk, hρ, hρb, hb, hs, hl, hm, hE, hO2, rfl⟩ := hr'.O.head (by rintro e; have := congrArg List.length e; simp at this; subst this; simp at h1; omega) hpos
    have hnf := ris_nofp l hE
    subst hnf
    simp only [hρb, Option.map_some, hρ, Nat.mul_one] at h3
    simp only [List.length_map, Nat.mul_one] at hl hE hs
    have hlc : l.length ≤ c.size := by omega
    have hst := run_storeCells_at P b off tb (List.replicate m (.slice none 0 0)) 0 c w hb (by simp; omega) (by intro y hy; rw [(List.mem_replicate.1 hy).2]; rfl)
    simp only [Nat.add_zero] at hst
    have hne : c.toList.take off ++ List.replicate m (Value.slice none 0 0) ++ c.toList.drop (off + m) = (c.toList.take off ++ List.replicate m (.slice none 0 0) ++ c.toList.drop (off + (List.replicate m (Value.slice none 0 0)).length)) := by simp
    -- the new cells
    have hsp : OE w F ρ 1 ((l.take off).map RIs ++ ((l.drop off).take m).map RIs ++ (l.drop (off + m)).map RIs) (c.toList.take l.length) [] := by
      have e : (l.take off).map RIs ++ ((l.drop off).take m).map RIs ++ (l.drop (off + m)).map RIs = l.map RIs := by
        rw [← List.map_append, ← List.map_append, List.append_assoc, ← List.drop_drop, List.take_append_drop, List.take_append_drop]
      rw [e]; exact hE
    obtain ⟨q1, q3, f1, f3, e1, e2, hq1, hA, hC⟩ := hsp.split
    obtain ⟨rfl, rfl⟩ := List.append_eq_nil_iff.1 e2.symm
    obtain ⟨p1, p2, g1, g2, e3, e4, hp1, hA1, hA2⟩ := hA.split
    obtain ⟨rfl, rfl⟩ := List.append_eq_nil_iff.1 e4.symm
    subst e3
    have hl1 : p1.length = off := by rw [hp1]; simp; omega
    have hl2 : p2.length = m := by have := hA2.length; rw [this]; simp; omega
    have hl3 : q3.length = l.length - (off + m) := by have := hC.length; rw [this]; simp
    have hnil : OE w F ρ 1 ((List.replicate m ([] : List Int)).map RIs) (List.replicate m (.slice none 0 0)) [] := by
      exact OE.of_FE (fe_nils m)
    have hnew : OE w F ρ 1 ((l.take off ++ List.replicate m [] ++ l.drop (off + m)).map RIs) (p1 ++ List.replicate m (.slice none 0 0) ++ q3) [] := by
      rw [List.map_append, List.map_append]
      exact OE.append (fp1 := []) (OE.append (fp1 := []) hA1 hnil) hC
    have hlen2 : (l.take off ++ List.replicate m [] ++ l.drop (off + m)).length = l.length := by simp; omega
    have ht1 : c.toList.take off = p1 := by
      have := congrArg (List.take off) e1
      rw [List.take_take, Nat.min_eq_left (by omega), List.append_assoc, List.take_left' hl1] at this
      exact this
    have ht3 : (c.toList.drop (off + m)).take (l.length - (off + m)) = q3 := by
      have := congrArg (List.drop (off + m)) e1
      rw [List.drop_take, List.drop_left' (by simp [hl1, hl2])] at this
      exact this
    have hcells : (c.toList.take off ++ List.replicate m (Value.slice none 0 0) ++ c.toList.drop (off + m)).take l.length = p1 ++ List.replicate m (.slice none 0 0) ++ q3 := by
      rw [ht1, List.take_append, List.take_of_length_le (by simp [hl1]; omega)]
      congr 1
      rw [show l.length - (p1 ++ List.replicate m (Value.slice none 0 0)).length = l.length - (off + m) by simp [hl1]]
      exact ht3
    have hfin := hr'.modify (els' := (l.take off ++ List.replicate m [] ++ l.drop (off + m)).map RIs) (ty := tb) (c' := (c.toList.take off ++ List.replicate m (Value.slice none 0 0) ++ c.toList.drop (off + m)).toArray) (fp1' := [])
      (w' := w.setRow b (c.toList.take off ++ List.replicate m (Value.slice none 0 0) ++ c.toList.drop (off + m)).toArray) hk hρ hρb hm hO2 (by simp) (fun j hj => setRow_other w b j _ hj) (setRow_heap w b c _ tb _ hb) (by simp; omega) (by rw [List.length_map, hlen2]; exact hl)
      (by rw [List.length_map, hlen2, Nat.mul_one]; rw [show (c.toList.take off ++ List.replicate m (Value.slice none 0 0) ++ c.toList.drop (off + m)).toArray.toList = c.toList.take off ++ List.replicate m (Value.slice none 0 0) ++ c.toList.drop (off + m) from rfl, hcells]; exact hnew) hr'.nodup (fun x hx => by cases hx) rfl ⟨rfl, Nat.le_refl _⟩ rfl
    rw [← oerase_oset n ((l.take off ++ List.replicate m [] ++ l.drop (off + m)).map RIs) s.O] at hfin
    obtain ⟨fp4, h4⟩ := hfin.back (olook_oset ho)
    obtain ⟨m', rfl⟩ : ∃ m', m = m' + 1 := ⟨m - 1, by omega⟩
    refine ⟨_, _, ?_, F, ρ, fp4, h4.put d (.tup .nil)⟩
    have hzz := zc_nils (m' + 1)
    rw [← hne] at hst
    simp [execOp, resolve, invoke, builtin, h3, Builtin.clear_, run_underlying ht, run_zeroValue hz, hzz, hst]
end
end Eng
end Go.Proofs.YtmfbcipjknjicaaGreatDoor
