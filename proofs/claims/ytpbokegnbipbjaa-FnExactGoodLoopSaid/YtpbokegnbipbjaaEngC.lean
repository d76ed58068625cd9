/- The engine, part C: operations, regions in the text's order, code, loops, calls and functions over symbolic states. No condition. -/
import Derived.Test.YtpbokegnbipbjaaEngB
namespace Go.Proofs.Ytpbokegnbipbjaa
namespace Eng
open Go.RowKit

/-- The operation takes every frame and world of s to one of s'. -/
def OpS (P : Program) (o : Oper) (s s' : St) : Prop :=
  ∀ E a w, Rel E s a w → ∀ (K : Act → World → Prop) (Q : Exit → Act → World → Prop), (∀ a' w', Rel E s' a' w' → K a' w') → o.wp P a w K Q

/-- .. where its guard lets it; else its slot is left empty. -/
def OpG (P : Program) (ops : Array Oper) (o : Oper) (s s' : St) : Prop :=
  ∀ E a w, Rel E s a w → ∀ (K : Act → World → Prop) (Q : Exit → Act → World → Prop), (∀ a' w', Rel E s' a' w' → K a' w') → if Region.wanted o (yielded ops a.tmps) then o.wp P a w K Q else K (a.put o.dst undef) w

theorem OpG.plain {P ops o s s'} (hg : o.guard = none) (h : OpS P o s s') : OpG P ops o s s' := by
  intro E a w hr K Q hK
  rw [if_pos (by simp [Region.wanted, hg])]
  exact h E a w hr K Q hK

/-- The slot of the operation that a guard asks. -/
def gslot (ops : Array Oper) (j : Nat) : Option Tmp := (ops[j]?).bind (·.dst)

theorem Rel.bool {E s a w} (h : Rel E s a w) {t b} (ht : lget s.fr t = .v (.bool b)) : a.tmps[t]? = some (.bool b) := by
  obtain ⟨F, ρ, fp, h⟩ := h
  have h1 := h.fr t
  rw [ht] at h1
  have h2 := h1.exact
  have hlt : t < a.tmps.size := by
    rcases Nat.lt_or_ge t a.tmps.size with h3 | h3
    · exact h3
    · rw [lget_out _ _ (by rw [← h.size]; exact h3)] at ht
      cases ht
  rw [Array.getD_eq_getD_getElem?] at h2
  simp only [Array.getElem?_eq_getElem hlt, Option.getD_some] at h2 ⊢
  rw [h2]

theorem OpG.yes {P ops o s s' j want t} (hg : o.guard = some (j, want)) (hj : gslot ops j = some t) (ht : lget s.fr t = .v (.bool want)) (h : OpS P o s s') : OpG P ops o s s' := by
  intro E a w hr K Q hK
  have hb := hr.bool ht
  rw [if_pos (by simp only [gslot] at hj; simp [Region.wanted, hg, yielded, hj, hb])]
  exact h E a w hr K Q hK

theorem OpG.no {P ops o s j want t b} (hg : o.guard = some (j, want)) (hj : gslot ops j = some t) (ht : lget s.fr t = .v (.bool b)) (hne : (b == want) = false) : OpG P ops o s ⟨sput o.dst .any s.fr, s.O⟩ := by
  intro E a w hr K Q hK
  have hb := hr.bool ht
  rw [if_neg (by simp only [gslot] at hj; simp [Region.wanted, hg, yielded, hj, hb]; simpa using hne)]
  obtain ⟨F, ρ, fp, h⟩ := hr
  exact hK _ _ ⟨F, ρ, fp, h.put o.dst (.one (.any _))⟩

/-- .. the asked operation was itself passed over. -/
theorem OpG.no' {P ops o s j want t} (hg : o.guard = some (j, want)) (hj : gslot ops j = some t) (ht : lget s.fr t = .v undef) : OpG P ops o s ⟨sput o.dst (.v undef) s.fr, s.O⟩ := by
  intro E a w hr K Q hK
  obtain ⟨F, ρ, fp, h⟩ := hr
  have h2 := (show SV w F ρ (.v undef) (a.tmps.getD t undef) [] from ht ▸ h.fr t).exact
  have hy : yielded ops a.tmps j = none := by
    simp only [gslot] at hj
    simp only [yielded, hj, Option.bind_some]
    rw [Array.getD_eq_getD_getElem?] at h2
    cases hq : a.tmps[t]? with
    | none => rfl
    | some y => simp [hq] at h2; subst h2; rfl
  rw [if_neg (by simp [Region.wanted, hg, hy])]
  exact hK _ _ ⟨F, ρ, fp, h.put o.dst (.one (.v _))⟩

theorem OpG.no2 {P ops o s j want t b} (hg : o.guard = some (j, want)) (hj : gslot ops j = some t) (ht : lget s.fr t = .v (.bool b)) (hne : (b == want) = false) : OpG P ops o s ⟨sput o.dst (.v undef) s.fr, s.O⟩ := by
  intro E a w hr K Q hK
  have hb := hr.bool ht
  rw [if_neg (by simp only [gslot] at hj; simp [Region.wanted, hg, yielded, hj, hb]; simpa using hne)]
  obtain ⟨F, ρ, fp, h⟩ := hr
  exact hK _ _ ⟨F, ρ, fp, h.put o.dst (.one (.v _))⟩

/-- The rest of a region, in the text's order. -/
def GR (P : Program) (ops : Array Oper) (rest : List Oper) (R : St → Prop) (s : St) : Prop :=
  ∀ E a w, Rel E s a w → ∀ Q : Exit → Act → World → Prop, (∀ s' a' w', R s' → Rel E s' a' w' → Q .normal a' w') → wpList P ops Q rest a w

def GW (P : Program) (c : Code) (R : Exit → St → Prop) (s : St) : Prop :=
  ∀ E a w, Rel E s a w → c.wp P (fun e a' w' => ∃ s', R e s' ∧ Rel E s' a' w') a w

theorem gr_nil {P ops R s} (h : R s) : GR P ops [] R s := fun _ _ _ hr _ hQ => wpList_nil (hQ _ _ _ h hr)

theorem gr_step {P ops o rest R s} (s' : St) (h : OpG P ops o s s') (hk : GR P ops rest R s') : GR P ops (o :: rest) R s := by
  intro E a w hr Q hQ
  refine wpList_step fun K hK => ?_
  exact h E a w hr K Q fun a' w' hr' => hK _ _ (hk E a' w' hr' Q hQ)

theorem gr_op {P ops o rest R s} (s' : St) (hg : o.guard = none) (h : OpS P o s s') (hk : GR P ops rest R s') : GR P ops (o :: rest) R s := gr_step s' (.plain hg h) hk

theorem gw_region {P id l R s} (h : GR P l.toArray l (R .normal) s) : GW P (.region id l.toArray false) R s := by
  intro E a w hr
  exact wp_region_lit (h E a w hr _ fun s' a' w' h1 h2 => ⟨s', h1, h2⟩)

def Rthen (next : St → Prop) (R : Exit → St → Prop) : Exit → St → Prop
  | .normal, s => next s
  | e, s => R e s
def Rblock (id : Nat) (R : Exit → St → Prop) : Exit → St → Prop
  | .exit id', s => if id' = id then R .normal s else R (.exit id') s
  | e, s => R e s

theorem gw_seq {P x y R s} (h : GW P x (Rthen (GW P y R) R) s) : GW P (.seq x y) R s := by
  intro E a w hr
  refine wp_seq (wp_mono (h E a w hr) ?_)
  rintro e a' w' ⟨s', h1, h2⟩
  cases e with
  | normal => exact h1 E a' w' h2
  | _ => exact ⟨s', h1, h2⟩

theorem gw_block {P id c R s} (h : GW P c (Rblock id R) s) : GW P (.block id c) R s := by
  intro E a w hr
  refine wp_block (wp_mono (h E a w hr) ?_)
  rintro e a' w' ⟨s', h1, h2⟩
  cases e with
  | exit id' =>
    simp only [Rblock] at h1
    simp only [Exit.inBlock]
    split
    · rename_i he; rw [if_pos he] at h1; exact ⟨s', h1, h2⟩
    · rename_i he; rw [if_neg he] at h1; exact ⟨s', h1, h2⟩
  | _ => exact ⟨s', h1, h2⟩

theorem gw_skip {P R s} (h : R .normal s) : GW P .skip R s := fun _ _ _ hr => wp_skip ⟨s, h, hr⟩
theorem gw_exit {P id R s} (h : R (.exit id) s) : GW P (.exit id) R s := fun _ _ _ hr => wp_exit ⟨s, h, hr⟩
theorem gw_ret {P R s} (h : R .ret s) : GW P .ret R s := fun _ _ _ hr => wp_ret ⟨s, h, hr⟩

theorem Rel.eval_bool {E s a w} (h : Rel E s a w) {c b} (hc : s.get c = .v (.bool b)) : a.eval c = .bool b := by
  obtain ⟨F, ρ, fp, h⟩ := h
  have := h.get c
  rw [hc] at this
  exact this.exact

theorem gw_cond {P c x y R s b} (hc : s.get c = .v (.bool b)) (ht : b = true → GW P x R s) (hf : b = false → GW P y R s) : GW P (.cond c x y) R s := by
  intro E a w hr
  exact wp_cond_split (hr.eval_bool hc) (fun hb => ht hb E a w hr) (fun hb => hf hb E a w hr)
theorem gw_cond_t {P c x y R s} (hc : s.get c = .v (.bool true)) (h : GW P x R s) : GW P (.cond c x y) R s := gw_cond hc (fun _ => h) (fun h => by cases h)
theorem gw_cond_f {P c x y R s} (hc : s.get c = .v (.bool false)) (h : GW P y R s) : GW P (.cond c x y) R s := gw_cond hc (fun h => by cases h) (fun _ => h)

/-- s' says less than s. -/
def Le (s s' : St) : Prop := ∀ E a w, Rel E s a w → Rel E s' a w
theorem Le.refl (s : St) : Le s s := fun _ _ _ h => h
theorem Le.trans {a b c : St} (h : Le a b) (k : Le b c) : Le a c := fun E x w hr => k E x w (h E x w hr)
theorem gw_le {P c R s} (s' : St) (hl : Le s s') (h : GW P c R s') : GW P c R s := fun E a w hr => h E a w (hl E a w hr)
theorem gr_le {P ops rest R s} (s' : St) (hl : Le s s') (h : GR P ops rest R s') : GR P ops rest R s := fun E a w hr => h E a w (hl E a w hr)

theorem gw_loop {P c R s} {ι : Type} (I : ι → St) (C : ι → Prop) (μ : ι → Nat) (i0 : ι) (h0 : C i0) (hs : Le s (I i0))
    (round : ∀ i, C i → GW P c (Rthen (fun s' => ∃ j, C j ∧ μ j < μ i ∧ Le s' (I j)) R) (I i)) : GW P (.loop c) R s := by
  intro E a w hr b k cs
  have key : ∀ n i a w, μ i = n → C i → Rel E (I i) a w →
      ∃ e a' w', (∃ s', R e s' ∧ Rel E s' a' w') ∧ Arrives P (lone (b.at a (.code c :: .inLoop c :: k)) cs w) b k cs e a' w' := by
    intro n
    induction n using Nat.strongRecOn with
    | _ n ih =>
      intro i a w hn hC hI
      obtain ⟨e, a₁, w₁, ⟨s₁, hq, hr₁⟩, harr⟩ := round i hC E a w hI b (.inLoop c :: k) cs
      cases e with
      | normal =>
        obtain ⟨j, hj, hlt, hle⟩ := hq
        obtain ⟨e₂, a₂, w₂, hq₂, harr₂⟩ := ih (μ j) (hn ▸ hlt) j a₁ w₁ rfl hj (hle E a₁ w₁ hr₁)
        exact ⟨e₂, a₂, w₂, hq₂, .of_steps (Steps.trans harr (.one step_inLoop)) harr₂⟩
      | exit id => exact ⟨_, a₁, w₁, ⟨s₁, hq, hr₁⟩, .pass (x := .inLoop c) rfl (fun _ _ => .inl (by simp)) harr⟩
      | goto l => exact ⟨_, a₁, w₁, ⟨s₁, hq, hr₁⟩, .pass (x := .inLoop c) rfl (fun _ _ => .inl (by simp)) harr⟩
      | ret => exact ⟨_, a₁, w₁, ⟨s₁, hq, hr₁⟩, .pass (x := .inLoop c) rfl (fun _ _ => .inl (by simp)) harr⟩
      | panic ch => exact ⟨_, a₁, w₁, ⟨s₁, hq, hr₁⟩, .pass (x := .inLoop c) rfl (fun _ _ => .inl (by simp)) harr⟩
      | outgrown => exact ⟨_, a₁, w₁, ⟨s₁, hq, hr₁⟩, .pass (x := .inLoop c) rfl (fun _ _ => .inl (by simp)) harr⟩
  obtain ⟨e, a', w', hq, harr⟩ := key _ i0 a w rfl h0 (hs E a w hr)
  exact ⟨e, a', w', hq, .of_steps (.one step_loop) harr⟩

/-- Slots forgotten: r' says less than r. -/
inductive Wk : List RV → List RV → Prop
  | nil : Wk [] []
  | any {x l l'} (h : Wk l l') : Wk (x :: l) (.any :: l')
  | keep {x l l'} (h : Wk l l') : Wk (x :: l) (x :: l')

theorem Wk.get {l l' : List RV} (h : Wk l l') : l.length = l'.length ∧ ∀ i, lget l' i = .any ∨ lget l' i = lget l i := by
  induction h with
  | nil => exact ⟨rfl, fun i => .inr rfl⟩
  | any _ ih => refine ⟨by simp [ih.1], fun i => ?_⟩; cases i with
    | zero => exact .inl rfl
    | succ i => exact ih.2 i
  | keep _ ih => refine ⟨by simp [ih.1], fun i => ?_⟩; cases i with
    | zero => exact .inr rfl
    | succ i => exact ih.2 i

theorem Le.frame {fr fr' : List RV} {O : List Bk} (h : Wk fr fr') : Le ⟨fr, O⟩ ⟨fr', O⟩ := by
  rintro E a w ⟨F, ρ, fp, hr⟩
  obtain ⟨h1, h2⟩ := h.get
  refine ⟨F, ρ, fp, { hr with size := hr.size.trans h1, fr := fun i => ?_ }⟩
  rcases h2 i with h3 | h3
  · show SV w F ρ (lget fr' i) _ _
    rw [h3]; exact .one (.any _)
  · show SV w F ρ (lget fr' i) _ _
    rw [h3]; exact hr.fr i

/-! Functions. -/

/-- Called with these arguments, handed these blocks: it returns, with what Post says, in memory of its own. -/
def FC (P : Program) (f : FuncId) (args : List RV) (Oin : List Bk) (Post : RV → List Bk → Prop) : Prop :=
  ∀ (w : World) (F : Nat → Prop) (ρ : Places) (vals : List Value) (fp : List Nat), SL w F ρ args vals [] → OL w F ρ Oin fp → fp.Nodup → (∀ b ∈ fp, ¬ F b) → (∀ b, F b → b < w.heap.size) →
    Calls P f vals.toArray w fun e w' => ∃ v rv Oout F' ρ' fp1 fp2, e = .returned v ∧ Post rv Oout ∧ SV w' F' ρ' rv v fp1 ∧ OL w' F' ρ' Oout fp2 ∧ (fp1 ++ fp2).Nodup ∧ (∀ b ∈ fp1 ++ fp2, ¬ F' b ∧ (b ∈ fp ∨ w.heap.size ≤ b)) ∧
      (∀ b, F b → F' b) ∧ (∀ b, F' b → (F b ∨ w.heap.size ≤ b) ∧ b < w'.heap.size) ∧ (∀ b, b < w.heap.size → b ∉ fp → w'.heap[b]? = w.heap[b]?) ∧ w.heap.size ≤ w'.heap.size ∧ w'.os = w.os ∧ w'.tape = w.tape ∧ w'.output = w.output

theorem FC.mono {P f args Oin Post Post'} (h : FC P f args Oin Post) (hp : ∀ r O, Post r O → Post' r O) : FC P f args Oin Post' := by
  intro w F ρ vals fp h1 h2 h3 h4 h5
  refine (h w F ρ vals fp h1 h2 h3 h4 h5).mono ?_
  rintro e w' ⟨v, rv, Oout, F', ρ', fp1, fp2, he, hP, rest⟩
  exact ⟨v, rv, Oout, F', ρ', fp1, fp2, he, hp _ _ hP, rest⟩

theorem SL.length {w F ρ es ys fp} (h : SL w F ρ es ys fp) : es.length = ys.length := by
  induction h with
  | nil => rfl
  | cons _ _ ih => simp [ih]
theorem SL.get {w F ρ es ys} (h : SL w F ρ es ys []) (i : Nat) : SV w F ρ (lget es i) (ys.getD i undef) [] := by
  generalize hf : ([] : List Nat) = fp at h
  induction h generalizing i with
  | nil => exact .one (.any _)
  | cons h1 _ ih =>
    have hf' := hf.symm
    rw [List.append_eq_nil_iff] at hf'
    obtain ⟨rfl, rfl⟩ := hf'
    cases i with
    | zero => exact .one h1
    | succ i => exact ih i rfl

def anys (n : Nat) : List RV := List.replicate n .any
theorem lget_append (l l' : List RV) (i : Nat) : lget (l ++ l') i = if i < l.length then lget l i else lget l' (i - l.length) := by
  induction l generalizing i with
  | nil => simp
  | cons x xs ih => cases i with
    | zero => simp [lget]
    | succ i => simp [lget, ih]
theorem lget_anys (n i : Nat) : lget (anys n) i = .any := by
  unfold anys
  induction n generalizing i with
  | zero => rfl
  | succ n ih => cases i with
    | zero => rfl
    | succ i => simp [List.replicate_succ, lget, ih]

/-- What the results are: of one slot, of a struct's variable. -/
def resOf (s : St) : List ResultVar → Option (List RV)
  | [] => some []
  | .tmp t :: rs => (resOf s rs).map (lget s.fr t :: ·)
  | .cell t _ :: rs => match lget s.fr t with
    | .ptr n 0 0 => match olook n s.O with
      | some (_, [e]) => (resOf s rs).map (e :: ·)
      | _ => none
    | _ => none

/-- The function's end, at results in slots. -/
def Ends (P : Program) (fn : Func) (Post : RV → List Bk → Prop) : Exit → St → Prop
  | .normal, s | .ret, s => ∀ E a w, Rel E s a w → ∃ v rv Oout F ρ fp1 fp2, (results fn a.tmps).run P w = .ok v w ∧ Post rv Oout ∧ SV w F ρ rv v fp1 ∧ OL w F ρ Oout fp2 ∧ (fp1 ++ fp2).Nodup ∧
      (∀ b ∈ fp1 ++ fp2, ¬ F b ∧ (E.B0 b ∨ E.w0.heap.size ≤ b)) ∧ (∀ b, E.F0 b → F b) ∧ (∀ b, F b → (E.F0 b ∨ E.w0.heap.size ≤ b) ∧ b < w.heap.size)
  | _, _ => False

theorem fc_enter {P f fn c args Oin Post} (hf : P.funcs[f]? = some fn) (hb : fn.body = some c) (h : GW P c (Ends P fn Post) ⟨args ++ anys (fn.ntmps - args.length), Oin⟩) : FC P f args Oin Post := by
  intro w F ρ vals fp h1 h2 h3 h4 h5
  refine calls_of_wp hf hb ?_
  have hl := h1.length
  let E : Env := { w0 := w, F0 := F, B0 := fun b => b ∈ fp }
  have hr : Rel E ⟨args ++ anys (fn.ntmps - args.length), Oin⟩ { tmps := vals.toArray ++ Array.replicate (fn.ntmps - vals.toArray.size) undef, defers := [] } w := by
    refine ⟨F, ρ, fp, rfl, ?_, ?_, h2, h3, h4, fun b hb => .inl hb, fun b hb => hb, fun b hb => .inl hb, h5, fun b _ _ => rfl, Nat.le_refl _, rfl, rfl, rfl⟩
    · simp [anys, hl]
    · intro i
      show SV w F ρ (lget (args ++ anys _) i) _ []
      rw [lget_append]
      split
      · rename_i hi
        have := h1.get i
        have e : (vals.toArray ++ Array.replicate (fn.ntmps - vals.toArray.size) undef).getD i undef = vals.getD i undef := by
          rw [Array.getD_eq_getD_getElem?, Array.getElem?_append_left (by simp; omega)]
          simp
        rw [e]; exact this
      · rw [lget_anys]; exact .one (.any _)
  refine wp_mono (h E _ w hr) ?_
  rintro e a' w' ⟨s', h6, h7⟩
  obtain ⟨F1, ρ1, fpx, h8⟩ := id h7
  cases e with
  | normal =>
    obtain ⟨v, rv, Oout, F', ρ', fp1, fp2, g1, g2, g3, g4, g5, g6, g7, g8⟩ := h6 E a' w' h7
    exact ⟨h8.defers, v, g1, v, rv, Oout, F', ρ', fp1, fp2, rfl, g2, g3, g4, g5, g6, g7, g8, h8.keep, h8.hsize, h8.os, h8.tape, h8.output⟩
  | ret =>
    obtain ⟨v, rv, Oout, F', ρ', fp1, fp2, g1, g2, g3, g4, g5, g6, g7, g8⟩ := h6 E a' w' h7
    exact ⟨h8.defers, v, g1, v, rv, Oout, F', ρ', fp1, fp2, rfl, g2, g3, g4, g5, g6, g7, g8, h8.keep, h8.hsize, h8.os, h8.tape, h8.output⟩
  | _ => exact h6.elim

end Eng
end Go.Proofs.Ytpbokegnbipbjaa
