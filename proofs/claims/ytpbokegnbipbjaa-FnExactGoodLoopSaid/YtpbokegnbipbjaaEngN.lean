/- The engine, part N: the steps that walks take, in the forms in which they are called (behind structures, so that no search looks into them). No condition. -/
import Derived.Test.YtpbokegnbipbjaaEngM
namespace Go.Proofs.Ytpbokegnbipbjaa
namespace Eng
open Go.RowKit

theorem gw_mono {P c R R' s} (hr : ∀ e s, R e s → R' e s) (h : GW P c R s) : GW P c R' s := fun E a w hx => wp_mono (h E a w hx) fun e a' w' ⟨s', h1, h2⟩ => ⟨s', hr e s' h1, h2⟩
theorem gr_mono {P ops l R R' s} (hr : ∀ s, R s → R' s) (h : GR P ops l R s) : GR P ops l R' s := fun E a w hx Q hQ => h E a w hx Q fun s' a' w' h1 h2 => hQ s' a' w' (hr s' h1) h2

structure W (P : Program) (c : Code) (R : Exit → St → Prop) (s : St) : Prop where
  out : GW P c R s
structure L (P : Program) (ops : Array Oper) (l : List Oper) (R : St → Prop) (s : St) : Prop where
  out : GR P ops l R s
structure RT (next : St → Prop) (R : Exit → St → Prop) (e : Exit) (s : St) : Prop where
  out : Rthen next R e s
structure RB (id : Nat) (R : Exit → St → Prop) (e : Exit) (s : St) : Prop where
  out : Rblock id R e s
structure EN (P : Program) (fn : Func) (Post : RV → List Bk → Prop) (e : Exit) (s : St) : Prop where
  out : Ends P fn Post e s
structure OP (P : Program) (o : Oper) (s s' : St) : Prop where
  out : OpS P o s s'
structure LE (s s' : St) : Prop where
  out : Le s s'
/-- A round's end: on with a smaller one. -/
structure RN {ι : Type} (I : ι → St) (C : ι → Prop) (μ : ι → Nat) (i : ι) (s : St) : Prop where
  out : ∃ j, C j ∧ μ j < μ i ∧ Le s (I j)

theorem w_seq {P x y R s} (h : W P x (RT (W P y R) R) s) : W P (.seq x y) R s := ⟨gw_seq (gw_mono (fun e s h => by have := h.out; cases e <;> first | exact this.out | exact this) h.out)⟩
theorem w_block {P id c R s} (h : W P c (RB id R) s) : W P (.block id c) R s := ⟨gw_block (gw_mono (fun _ _ h => h.out) h.out)⟩
theorem w_skip {P R s} (h : R .normal s) : W P .skip R s := ⟨gw_skip h⟩
theorem w_exit {P id R s} (h : R (.exit id) s) : W P (.exit id) R s := ⟨gw_exit h⟩
theorem w_ret {P R s} (h : R .ret s) : W P .ret R s := ⟨gw_ret h⟩
theorem w_region {P id l R s} (h : L P l.toArray l (R .normal) s) : W P (.region id l.toArray false) R s := ⟨gw_region h.out⟩
theorem w_cond {P c x y R s b} (hc : s.get c = .v (.bool b)) (ht : b = true → W P x R s) (hf : b = false → W P y R s) : W P (.cond c x y) R s := ⟨gw_cond hc (fun h => (ht h).out) (fun h => (hf h).out)⟩
theorem w_cond_t {P c x y R s} (hc : s.get c = .v (.bool true)) (h : W P x R s) : W P (.cond c x y) R s := ⟨gw_cond_t hc h.out⟩
theorem w_cond_f {P c x y R s} (hc : s.get c = .v (.bool false)) (h : W P y R s) : W P (.cond c x y) R s := ⟨gw_cond_f hc h.out⟩
theorem w_le {P c R s} (s' : St) (hl : LE s s') (h : W P c R s') : W P c R s := ⟨gw_le s' hl.out h.out⟩
theorem w_loop {P c R s} {ι : Type} (I : ι → St) (C : ι → Prop) (μ : ι → Nat) (i0 : ι) (h0 : C i0) (hs : LE s (I i0)) (round : ∀ i, C i → W P c (RT (RN I C μ i) R) (I i)) : W P (.loop c) R s :=
  ⟨gw_loop I C μ i0 h0 hs.out fun i hi => gw_mono (fun e s h => by have := h.out; cases e <;> first | exact this.out | exact this) (round i hi).out⟩
theorem rn_mk {ι : Type} {I : ι → St} {C : ι → Prop} {μ : ι → Nat} {i : ι} {s : St} (j : ι) (hC : C j) (hμ : μ j < μ i) (hl : LE s (I j)) : RN I C μ i s := ⟨j, hC, hμ, hl.out⟩

theorem l_nil {P ops R s} (h : R s) : L P ops [] R s := ⟨gr_nil h⟩
theorem l_le {P ops l R s} (s' : St) (hl : LE s s') (h : L P ops l R s') : L P ops l R s := ⟨gr_le s' hl.out h.out⟩
theorem rt_n {next R s} (h : next s) : RT next R .normal s := ⟨h⟩
theorem rt_ret {next R s} (h : R .ret s) : RT next R .ret s := ⟨h⟩
theorem rt_exit {next R id s} (h : R (.exit id) s) : RT next R (.exit id) s := ⟨h⟩
theorem rb_n {id R s} (h : R .normal s) : RB id R .normal s := ⟨h⟩
theorem rb_ret {id R s} (h : R .ret s) : RB id R .ret s := ⟨h⟩
theorem rb_eq {id R s} (h : R .normal s) : RB id R (.exit id) s := ⟨by simpa [Rblock] using h⟩
theorem rb_ne {id id' R s} (hne : (id' == id) = false) (h : R (.exit id') s) : RB id R (.exit id') s := by
  have : ¬ id' = id := by simpa using hne
  exact ⟨by simpa [Rblock, this] using h⟩

/-- One operation, what it leaves written out. -/
theorem l_op {P ops o rest R fr O s' fr' O'} (hg : o.guard = none) (h : OpS P o ⟨fr, O⟩ s') (e : s' = ⟨fr', O'⟩) (hk : L P ops rest R ⟨fr', O'⟩) : L P ops (o :: rest) R ⟨fr, O⟩ := by
  subst e; exact ⟨gr_op _ hg h hk.out⟩
theorem l_y {P ops d op ty pos after j want rest R fr O t b} (hj : gslot ops j = some t) (ht : lget fr t = .v (.bool b)) (hb : b = want) (hk : L P ops (⟨d, op, ty, pos, after, none⟩ :: rest) R ⟨fr, O⟩) : L P ops (⟨d, op, ty, pos, after, some (j, want)⟩ :: rest) R ⟨fr, O⟩ := by
  subst hb
  refine ⟨fun E a w hr Q hQ => ?_⟩
  have h := hk.out E a w hr Q hQ
  have hbt := hr.bool ht
  have hw : Region.wanted ⟨d, op, ty, pos, after, some (j, b)⟩ (yielded ops a.tmps) = true := by simp only [gslot] at hj; simp [Region.wanted, yielded, hj, hbt]
  have hw2 : Region.wanted ⟨d, op, ty, pos, after, none⟩ (yielded ops a.tmps) = true := rfl
  unfold wpList at h ⊢
  rw [if_pos hw2] at h
  rw [if_pos hw]
  exact h
theorem l_n {P ops o rest R fr O fr' j want t b} (hg : o.guard = some (j, want)) (hj : gslot ops j = some t) (ht : lget fr t = .v (.bool b)) (hb : b = !want) (e : sput o.dst (.v undef) fr = fr') (hk : L P ops rest R ⟨fr', O⟩) : L P ops (o :: rest) R ⟨fr, O⟩ := by
  subst e; subst hb; exact ⟨gr_step _ (.no2 hg hj ht (by cases want <;> rfl)) hk.out⟩
theorem l_n' {P ops o rest R fr O fr' j want t} (hg : o.guard = some (j, want)) (hj : gslot ops j = some t) (ht : lget fr t = .v undef) (e : sput o.dst (.v undef) fr = fr') (hk : L P ops rest R ⟨fr', O⟩) : L P ops (o :: rest) R ⟨fr, O⟩ := by
  subst e; exact ⟨gr_step _ (.no' hg hj ht) hk.out⟩

theorem fc_in {P f fn c args Oin Post fr} (hf : P.funcs[f]? = some fn) (hb : fn.body = some c) (e : args ++ anys (fn.ntmps - args.length) = fr) (h : W P c (EN P fn Post) ⟨fr, Oin⟩) : FC P f args Oin Post := by
  subst e; exact fc_enter hf hb (gw_mono (fun _ _ h => h.out) h.out)
theorem fcr_in {P f fn c args r fr} (hf : P.funcs[f]? = some fn) (hb : fn.body = some c) (e : args ++ anys (fn.ntmps - args.length) = fr) (h : W P c (EN P fn fun rv O => rv = r ∧ O = []) ⟨fr, []⟩) : FCr P f args r := fc_in hf hb e h

/-- The end, one result of a slot. -/
theorem en_one {P fn s r e t} (he : e = Exit.ret ∨ e = Exit.normal) (hf : fn.results = #[.tmp t]) (hn : r.notTup = true) (ha : r.isAgg = false) (h : lget s.fr t = r) : EN P fn (fun rv O => rv = r ∧ O = []) e s :=
  ⟨ends_of (cs := [r]) (cs' := [r]) he hf (by simp) (.tmp h hn .nil) (by intro l hl; simp at hl; subst hl; simp [RV.isAgg] at ha) (.keep .nil) rfl⟩
theorem en_of {P fn s rs cs cs' O' r e} (he : e = Exit.ret ∨ e = Exit.normal) (hf : fn.results = rs.toArray) (h4 : rs.length ≤ 4) (h : ResL P s rs cs) (hag : ∀ l1, .agg l1 ∈ cs → ∀ r ∈ l1, r.isAgg = false) (hs : SealL s.O cs cs' O') (hr : packR cs' = r) : EN P fn (fun rv O => rv = r ∧ O = []) e s :=
  ⟨ends_of he hf h4 h hag hs hr⟩

theorem le_frame {fr fr' : List RV} {O : List Bk} (h : Wk fr fr') : LE ⟨fr, O⟩ ⟨fr', O⟩ := ⟨Le.frame h⟩
theorem le_refl (s : St) : LE s s := ⟨Le.refl s⟩
theorem le_eq {fr fr' fr'' : List RV} {O O' : List Bk} (h : Wk fr fr') (e1 : fr' = fr'') (e2 : O = O') : LE ⟨fr, O⟩ ⟨fr'', O'⟩ := by subst e1; subst e2; exact le_frame h
theorem le_trans {a b c : St} (h : LE a b) (k : LE b c) : LE a c := ⟨h.out.trans k.out⟩

end Eng
end Go.Proofs.Ytpbokegnbipbjaa
