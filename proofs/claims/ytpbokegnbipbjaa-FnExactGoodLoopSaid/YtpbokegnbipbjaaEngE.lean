/- The engine, part E: the operations that read named blocks, write them, make new ones. No condition. -/
import Derived.Test.YtpbokegnbipbjaaEngD
namespace Go.Proofs.Ytpbokegnbipbjaa
namespace Eng
open Go.RowKit

/-- A type of one cell's values; a struct's or an array's. -/
def scalarT (P : Program) (t : TypeId) : Bool := match P.underlying t with | none => false | some (.struct _) => false | some (.array _ _) => false | _ => true
def aggT (P : Program) (t : TypeId) : Bool := match P.underlying t with | some (.struct _) => true | some (.array _ _) => true | _ => false

theorem run_isAgg_s {P : Program} {t : TypeId} (h : scalarT P t = true) (w : World) : (isAgg t).run P w = .ok false w := by
  unfold scalarT at h
  unfold isAgg
  cases hd : P.underlying t with
  | none => simp [hd] at h
  | some d => simp only [hd] at h; simp only [Sem.run_bind, run_underlying hd, Result.andThen_ok]; cases d <;> simp at h ⊢
theorem run_isAgg_a {P : Program} {t : TypeId} (h : aggT P t = true) (w : World) : (isAgg t).run P w = .ok true w := by
  unfold aggT at h
  unfold isAgg
  cases hd : P.underlying t with
  | none => simp [hd] at h
  | some d => simp only [hd] at h; simp only [Sem.run_bind, run_underlying hd, Result.andThen_ok]; cases d <;> simp at h ⊢

theorem run_load_s {P : Program} {w : World} {t : TypeId} {a : Addr} {y : Value} (ht : scalarT P t = true) (h : w.cell? a = some y) : (loadVar t a).run P w = .ok y w := by
  simp only [loadVar, Sem.run_bind, run_isAgg_s ht, Result.andThen_ok]
  simp [h]
theorem run_load_a {P : Program} {w : World} {t : TypeId} {a : Addr} {cs : List Value} (ht : aggT P t = true) (hs : P.cellsOf t = cs.length) (hp : 0 < cs.length) (h : CellsAt w a cs) : (loadVar t a).run P w = .ok (.agg cs.toArray) w := by
  simp only [loadVar, Sem.run_bind, run_isAgg_a ht, Result.andThen_ok]
  simp [run_sizeOf hs hp, run_loadCells_list w a cs h]

/-- The cells of an element. -/
def RV.cellsL : RV → List RV | .agg l => l | e => [e]

theorem FE.cellsL {w F k e cells} (h : FE w F k [e] cells) : FE w F 1 e.cellsL cells := by
  cases e with
  | agg l => cases h with | agg hl hk h => cases h; simpa [RV.cellsL] using hl
  | _ => have := h.width; simp [RV.width] at this; subst this; exact h

theorem OE.cellsL {w F ρ k e cells fp} (h : OE w F ρ k [e] cells fp) : OE w F ρ 1 e.cellsL cells fp := by
  generalize he : [e] = es at h
  cases h with
  | nil => cases he
  | fz h1 h => simp at he; obtain ⟨rfl, rfl⟩ := he; cases h; simpa using OE.of_FE h1.cellsL
  | ow b cap ty c hk hb hs hl hm hc hnn h1 h => simp at he; obtain ⟨rfl, rfl⟩ := he; exact .ow b cap ty c hk hb hs hl hm hc hnn h1 h
  | ownil k hk h => simp at he; obtain ⟨rfl, rfl⟩ := he; exact .ownil k hk h
  | ref n off len h => simp at he; obtain ⟨rfl, rfl⟩ := he; exact .ref n off len h
  | ptr n i j h => simp at he; obtain ⟨rfl, rfl⟩ := he; exact .ptr n i j h
  | agg hl hk h => simp at he; obtain ⟨rfl, rfl⟩ := he; cases h; simpa [RV.cellsL] using hl

theorem OE.of_cellsL {w F ρ k e cells fp} (h : OE w F ρ 1 e.cellsL cells fp) (hk : e.width = k) : OE w F ρ k [e] cells fp := by
  cases e with
  | agg l => have := OE.agg (es := []) h (by have := h.length; simp [RV.cellsL, RV.width] at this hk ⊢; omega) (.nil ρ k); simpa [RV.cellsL] using this
  | _ => simp [RV.width] at hk; subst hk; exact h

theorem OE.width {w F ρ k e cells fp} (h : OE w F ρ k [e] cells fp) : e.width = k := by
  have h1 := h.cellsL.length
  have h2 := h.length
  cases e <;> simp [RV.cellsL, RV.width] at h1 h2 ⊢ <;> omega

theorem OE.at {w F ρ k els cells fp i e} (h : OE w F ρ k els cells fp) (he : els[i]? = some e) :
    ∃ c1 ce c2 f1 fe f2, cells = c1 ++ (ce ++ c2) ∧ c1.length = i * k ∧ ce.length = k ∧ fp = f1 ++ (fe ++ f2) ∧ OE w F ρ k (els.take i) c1 f1 ∧ OE w F ρ k [e] ce fe ∧ OE w F ρ k (els.drop (i + 1)) c2 f2 := by
  obtain ⟨hlt, he'⟩ := List.getElem?_eq_some_iff.1 he
  have h' := h
  rw [← List.take_append_drop i els] at h'
  obtain ⟨c1, c2, f1, f2, rfl, rfl, hc, h1, h2⟩ := h'.split
  rw [List.drop_eq_getElem_cons hlt] at h2
  obtain ⟨d1, d2, g1, g2, rfl, rfl, hd, h3, h4⟩ := h2.cons_inv
  rw [he'] at h3
  rw [List.length_take, Nat.min_eq_left (by omega)] at hc
  exact ⟨c1, d1, d2, f1, g1, g2, rfl, hc, hd, rfl, h1, h3, h4⟩

/-- Not to be read twice. -/
def RV.plain : RV → Bool | .ow _ _ => false | .agg _ => false | .tup _ => false | .fn _ _ => false | _ => true

theorem OE.plain_fp {w F ρ c y fp} (h : OE w F ρ 1 [c] [y] fp) (hp : c.plain = true) : fp = [] := by
  cases hc : c with
  | agg l => simp [hc, RV.plain] at hp
  | _ =>
    subst hc
    rcases h.single rfl with ⟨_, h3⟩ | ⟨_, _, _, _, _, _, _, e, _⟩ | ⟨_, _, _, e, _, h3⟩ | ⟨_, _, _, e, _, h3⟩ | ⟨_, e, _, h3, _⟩
    all_goals first | exact h3 | (cases e; simp [RV.plain] at hp) | cases e

theorem OE.plain_fpL {w F ρ l cs fp} (h : OE w F ρ 1 l cs fp) (hp : l.all RV.plain = true) : fp = [] := by
  induction l generalizing cs fp with
  | nil => cases h; rfl
  | cons e es ih =>
    obtain ⟨c1, c2, f1, f2, rfl, rfl, hc, h1, h2⟩ := h.cons_inv
    simp only [List.all_cons, Bool.and_eq_true] at hp
    match c1, hc with
    | [y], _ => rw [h1.plain_fp hp.1, ih h2 hp.2]; rfl

theorem SV.of_plain {w F ρ c y} (h : OE w F ρ 1 [c] [y] []) (hp : c.plain = true) : SV w F ρ c y [] := by
  refine .one (.cell ?_ h)
  cases c <;> simp [RV.plain, RV.isAgg] at hp ⊢

/-- A slot's value that may lie in a cell. -/
def RV.stores : RV → Bool | .sh _ => true | .ref _ _ _ => true | .ptr _ _ _ => true | .psh _ => true | .v x => x.oneCell' | _ => false

theorem SV.to_cell {w F ρ c y} (h : SV w F ρ c y []) (hp : c.stores = true) : OE w F ρ 1 [c] [y] [] ∧ y.oneCell' = true := by
  cases c with
  | v x => have := h.exact; subst this; exact ⟨OE.of_FE (.v _ hp (.nil _)), hp⟩
  | sh els => have h1 := h.cell rfl (by simp) (by simp) (by simp) (by simp); refine ⟨h1, ?_⟩; rcases h.sh_inv with ⟨_, ⟨_, _, _, rfl⟩ | ⟨_, _, _, _, rfl, _⟩⟩ <;> rfl
  | psh els => have h1 := h.cell rfl (by simp) (by simp) (by simp) (by simp); refine ⟨h1, ?_⟩; rcases h.psh_inv with ⟨_, _, _, _, rfl, _⟩; rfl
  | ref n off len => have h1 := h.cell rfl (by simp) (by simp) (by simp) (by simp); refine ⟨h1, ?_⟩; rw [h.ref_inv]; rfl
  | ptr n i j => have h1 := h.cell rfl (by simp) (by simp) (by simp) (by simp); refine ⟨h1, ?_⟩; rw [h.ptr_inv]; rfl
  | _ => simp [RV.stores] at hp

/-! The blocks, one in front. -/

theorem RelX.perm {E s a w F ρ fp O' fp'} (h : RelX E s a w F ρ fp) (hO : OL w F ρ O' fp') (hp : fp.Perm fp') : RelX E ⟨s.fr, O'⟩ a w F ρ fp' :=
  { h with O := hO, nodup := hp.nodup_iff.1 h.nodup, fpF := fun b hb => h.fpF b (hp.mem_iff.2 hb), fpE := fun b hb => h.fpE b (hp.mem_iff.2 hb) }

theorem RelX.front {E s a w F ρ fp n k els} (h : RelX E s a w F ρ fp) (ho : olook n s.O = some (k, els)) : ∃ fp', RelX E ⟨s.fr, (n, k, els) :: oerase n s.O⟩ a w F ρ fp' :=
  let ⟨_, h1, h2⟩ := h.O.pull ho
  ⟨_, h.perm h1 h2⟩
theorem RelX.back {E fr O a w F ρ fp n k els} (h : RelX E ⟨fr, (n, k, els) :: oerase n O⟩ a w F ρ fp) (ho : olook n O = some (k, els)) : ∃ fp', RelX E ⟨fr, O⟩ a w F ρ fp' :=
  let ⟨_, h1, h2⟩ := h.O.push ho
  ⟨_, h.perm h1 h2⟩

/-- A named block with an element lies in a block. -/
theorem OL.head {w F ρ n k els O fp} (h : OL w F ρ ((n, k, els) :: O) fp) (hne : els ≠ []) : ∃ b ty c fp1 fp2, 0 < k ∧ (ρ n).2.1 = k ∧ (ρ n).1 = some b ∧ w.heap[b]? = some (.cells c ty (0, 0)) ∧ c.size = (ρ n).2.2 * k ∧
    els.length ≤ (ρ n).2.2 ∧ (ρ n).2.2 ≤ maxLen ∧ OE w F ρ k els (c.toList.take (els.length * k)) fp1 ∧ OL w F ρ O fp2 ∧ fp = b :: (fp1 ++ fp2) := by
  cases h with
  | nilb => exact absurd rfl hne
  | cons hk hρ hρb hb hs hl hm hc he h => subst hc; exact ⟨_, _, _, _, _, hk, hρ, hρb, hb, hs, hl, hm, he, h, rfl⟩

section
variable {P : Program} {s : St} {d : Option Tmp} {ty : TypeId} {pos : String} {after : Array Edge} {g : Option (Nat × Bool)}

/-- A load through a pointer to a frozen element. -/
theorem ops_load_psh {x t e} (hx : s.get x = .psh e) (hp : e.plain = true) (ht : scalarT P t = true) : OpS P ⟨d, .load t x, ty, pos, after, g⟩ s ⟨sput d e s.fr, s.O⟩ :=
  ops_val fun _ a w F ρ fp hr => by
    have h1 := hr.get x
    rw [hx] at h1
    obtain ⟨_, a', k, cells, h2, hk, hF, hc, hf⟩ := h1.psh_inv
    have hw := hf.width
    have h1' : k = 1 := by cases e <;> simp [RV.plain, RV.width] at hp hw <;> omega
    subst h1'
    have hl := hf.length
    match cells, hl with
    | [y], _ =>
      have hcell : w.cell? a' = some y := by have := hc 0 y rfl; simpa [Addr.add] using this
      refine ⟨y, ?_, SV.of_plain (OE.of_FE hf) hp⟩
      simp [execOp, Instr.loadAt, Instr.sureAddr, h2, run_load_s ht hcell]

theorem ops_load_psha {x t l} (hx : s.get x = .psh (.agg l)) (ht : aggT P t = true) (hs : P.cellsOf t = l.length) (h0 : 0 < l.length) : OpS P ⟨d, .load t x, ty, pos, after, g⟩ s ⟨sput d (.agg l) s.fr, s.O⟩ :=
  ops_val fun _ a w F ρ fp hr => by
    have h1 := hr.get x
    rw [hx] at h1
    obtain ⟨_, a', k, cells, h2, hk, hF, hc, hf⟩ := h1.psh_inv
    have h3 := hf.cellsL
    have hl := h3.length
    simp only [RV.cellsL, Nat.mul_one] at h3 hl
    refine ⟨.agg cells.toArray, ?_, .one (.agg (by simpa using OE.of_FE h3))⟩
    simp [execOp, Instr.loadAt, Instr.sureAddr, h2, run_load_a ht (hs.trans hl.symm) (by omega) hc]

/-- A field's place, by its number: of one cell, at the number's own offset. -/
def fldOk (P : Program) (t : TypeId) (f off : Nat) : Bool := match P.underlying t with
  | some (.struct fs) => match fs[f]? with
    | some x => x.offset == off && P.cellsOf x.type == 1
    | none => false
  | _ => false

theorem run_fieldAt {P : Program} {t : TypeId} {f off : Nat} (h : fldOk P t f off = true) (a : Addr) (w : World) : (Instr.fieldAt t (.pointer (some a)) f).run P w = .ok (.pointer (some (a.add off))) w := by
  unfold fldOk at h
  split at h
  · rename_i fs hfs
    split at h
    · rename_i x hx
      simp only [Bool.and_eq_true, beq_iff_eq] at h
      simp [Instr.fieldAt, run_underlying hfs, hx, Instr.sureAddr, fieldPlace, run_sizeOf h.2, h.1]
    · cases h
  · cases h

theorem CellsAt.one {w : World} {a : Addr} {cs : List Value} {j : Nat} {y : Value} (h : CellsAt w a cs) (hj : cs[j]? = some y) : CellsAt w (a.add j) [y] := by
  intro i z hi
  match i, hi with
  | 0, hi => simp at hi; subst hi; rw [Addr.add_add]; exact h j y hj

theorem FE.cell {w F} {l : List RV} {cs : List Value} {j : Nat} {c : RV} (h : FE w F 1 l cs) (hj : l[j]? = some c) : ∃ y, cs[j]? = some y ∧ FE w F 1 [c] [y] := by
  obtain ⟨hlt, e⟩ := List.getElem?_eq_some_iff.1 hj
  have h1 := h.at j hlt
  have hl := h.length
  rw [e, Nat.mul_one] at h1
  have h2 : j < cs.length := by omega
  refine ⟨cs[j], List.getElem?_eq_getElem h2, ?_⟩
  rw [List.drop_eq_getElem_cons h2, List.take_succ_cons, List.take_zero] at h1
  exact h1

theorem ops_fld_psh {x t f off l c} (hx : s.get x = .psh (.agg l)) (hf : fldOk P t f off = true) (hc : l[off]? = some c) : OpS P ⟨d, .fieldAddr t x f, ty, pos, after, g⟩ s ⟨sput d (.psh c) s.fr, s.O⟩ :=
  ops_val fun _ a w F ρ fp hr => by
    have h1 := hr.get x
    rw [hx] at h1
    obtain ⟨_, a', k, cells, h2, hk, hF, hcc, hfe⟩ := h1.psh_inv
    have h3 := hfe.cellsL
    simp only [RV.cellsL] at h3
    obtain ⟨y, hy, h4⟩ := h3.cell hc
    refine ⟨.pointer (some (a'.add off)), by simp [execOp, h2, run_fieldAt hf], ?_⟩
    have hb : (a'.add off).block = a'.block := by unfold Addr.add; split <;> rfl
    exact .one (.cell rfl (OE.of_FE (.psh _ 1 (by omega) (by rw [hb]; exact hF) (hcc.one hy) h4 (.nil _))))

/-- A place in a named block. -/
theorem ops_fld_ptr {x t f off n i} (hx : s.get x = .ptr n i 0) (hf : fldOk P t f off = true) {k els} (ho : olook n s.O = some (k, els)) (hi : i < els.length) : OpS P ⟨d, .fieldAddr t x f, ty, pos, after, g⟩ s ⟨sput d (.ptr n i off) s.fr, s.O⟩ :=
  ops_val fun _ a w F ρ fp hr => by
    have h1 := hr.get x
    rw [hx] at h1
    obtain ⟨fp', hr'⟩ := hr.front ho
    obtain ⟨b, _, _, _, _, _, hk, hb, _⟩ := hr'.O.head (by intro e; simp [e] at hi)
    have h2 := h1.ptr_inv
    simp only [hb, Option.map_some, Nat.add_zero] at h2
    refine ⟨.pointer (some ⟨b, i * (ρ n).2.1 + off, none⟩), by simp [execOp, h2, run_fieldAt hf, Addr.add_lit], ?_⟩
    have := OE.ptr (w := w) (F := F) (ρ := ρ) n i off (.nil _ _)
    simp only [hb, Option.map_some] at this
    exact .one (.cell rfl this)

theorem ops_idx_ref {x ix c n off len k i} (hx : s.get x = .ref n off len) (hi : s.get ix = .v (.int k (i : Nat))) (hl : i < len) {kk els} (ho : olook n s.O = some (kk, els)) (hne : els ≠ []) (ht : P.underlying c = some (.slice (P.elem c))) (hw : P.cellsOf (P.elem c) = kk) :
    OpS P ⟨d, .indexAddr c x ix, ty, pos, after, g⟩ s ⟨sput d (.ptr n (off + i) 0) s.fr, s.O⟩ :=
  ops_val fun _ a w F ρ fp hr => by
    have h1 := hr.get x
    rw [hx] at h1
    obtain ⟨fp', hr'⟩ := hr.front ho
    obtain ⟨b, _, _, _, _, hk, hkk, hb, _⟩ := hr'.O.head hne
    have h2 := h1.ref_inv
    simp only [hb, Option.map_some] at h2
    have h5 := run_sizeOf (P := P) (e := P.elem c) (k := kk) hw hk w
    refine ⟨.pointer (some ⟨b, (off + i) * (ρ n).2.1 + 0, none⟩), ?_, ?_⟩
    · simp only [execOp, h2, hr.ex hi, Sem.run_bind, run_indexAt_slice _ _ _ _ _ _ _ ht]
      rw [if_pos (by omega)]
      simp [h5, Addr.add_lit, hkk, Nat.add_mul]
    · have := OE.ptr (w := w) (F := F) (ρ := ρ) n (off + i) 0 (.nil _ _)
      simp only [hb, Option.map_some] at this
      exact .one (.cell rfl this)

/-- A cell of a named block. -/
theorem OL.cell {w F ρ n k els O fp i j e c} (h : OL w F ρ ((n, k, els) :: O) fp) (he : els[i]? = some e) (hc : e.cellsL[j]? = some c) :
    ∃ b y fc, (ρ n).1 = some b ∧ (ρ n).2.1 = k ∧ w.cell? ⟨b, i * k + j, none⟩ = some y ∧ OE w F ρ 1 [c] [y] fc := by
  obtain ⟨b, ty, cc, fp1, fp2, hk, hρ, hρb, hb, hs, hl, hm, hE, _, _⟩ := h.head (by rintro rfl; simp at he)
  obtain ⟨c1, ce, c2, f1, fe, f2, hcs, hc1, hce, _, _, h2, _⟩ := hE.at he
  have h3 := h2.cellsL
  obtain ⟨d1, de, d2, _, fd, _, hds, hd1, hde, _, _, h4, _⟩ := h3.at hc
  match de, hde with
  | [y], _ =>
    refine ⟨b, y, fd, hρb, hρ, ?_, h4⟩
    have hidx : (cc.toList.take (els.length * k))[i * k + j]? = some y := by
      rw [hcs, hds, List.getElem?_append_right (by omega), hc1]
      rw [show i * k + j - i * k = j by omega, List.append_assoc, List.getElem?_append_right (by omega)]
      simp [show j - d1.length = 0 by omega]
    rw [cell_of_row w b _ cc ty _ hb]
    rw [List.getElem?_take] at hidx
    split at hidx
    · simpa using hidx
    · cases hidx

theorem ops_load_ptr {x t n i j k els e c} (hx : s.get x = .ptr n i j) (ho : olook n s.O = some (k, els)) (he : els[i]? = some e) (hc : e.cellsL[j]? = some c) (hp : c.plain = true) (ht : scalarT P t = true) :
    OpS P ⟨d, .load t x, ty, pos, after, g⟩ s ⟨sput d c s.fr, s.O⟩ :=
  ops_val fun _ a w F ρ fp hr => by
    have h1 := hr.get x
    rw [hx] at h1
    obtain ⟨fp', hr'⟩ := hr.front ho
    obtain ⟨b, y, fc, hb, hk, hcell, hO⟩ := hr'.O.cell he hc
    have h2 := h1.ptr_inv
    simp only [hb, Option.map_some, hk] at h2
    refine ⟨y, by simp [execOp, Instr.loadAt, Instr.sureAddr, h2, run_load_s ht hcell], ?_⟩
    have := hO.plain_fp hp
    subst this
    exact SV.of_plain hO hp

theorem ops_load_ptra {x t n i k els l} (hx : s.get x = .ptr n i 0) (ho : olook n s.O = some (k, els)) (he : els[i]? = some (.agg l)) (hp : l.all RV.plain = true) (ht : aggT P t = true) (hs : P.cellsOf t = l.length) :
    OpS P ⟨d, .load t x, ty, pos, after, g⟩ s ⟨sput d (.agg l) s.fr, s.O⟩ :=
  ops_val fun _ a w F ρ fp hr => by
    have h1 := hr.get x
    rw [hx] at h1
    obtain ⟨fp', hr'⟩ := hr.front ho
    obtain ⟨b, ty, cc, fp1, fp2, hk, hρ, hρb, hb, hs', hl, hm, hE, _, _⟩ := hr'.O.head (by rintro rfl; simp at he)
    obtain ⟨c1, ce, c2, f1, fe, f2, hcs, hc1, hce, _, _, h4, _⟩ := hE.at he
    have h5 := h4.cellsL
    simp only [RV.cellsL] at h5
    have hfe := h5.plain_fpL hp
    subst hfe
    have hlen := h5.length
    have h2 := h1.ptr_inv
    simp only [hρb, Option.map_some, hρ, Nat.add_zero] at h2
    have hcells : CellsAt w ⟨b, i * k, none⟩ ce := by
      intro j y hj
      rw [Addr.add_lit, cell_of_row w b _ cc _ _ hb]
      have hj' : j < ce.length := (List.getElem?_eq_some_iff.1 hj).1
      have : (cc.toList.take (els.length * k))[i * k + j]? = some y := by
        rw [hcs, List.getElem?_append_right (by omega), hc1, show i * k + j - i * k = j by omega, List.getElem?_append_left hj']
        exact hj
      rw [List.getElem?_take] at this
      split at this
      · simpa using this
      · cases this
    refine ⟨.agg ce.toArray, ?_, .one (.agg (by simpa using h5))⟩
    simp [execOp, Instr.loadAt, Instr.sureAddr, h2, run_load_a ht (hs.trans (by omega)) (by omega) hcells]

end
end Eng
end Go.Proofs.Ytpbokegnbipbjaa
