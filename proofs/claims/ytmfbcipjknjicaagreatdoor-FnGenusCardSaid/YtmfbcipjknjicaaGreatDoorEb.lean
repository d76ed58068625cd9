/- The engine: a program logic over symbolic values. Part Eb. No condition. -/
import Derived.Orders
import Derived.KernelRfl
import Derived.Test.YtmfbcipjknjicaaGreatDoorEa

/- The engine, part K: calls; what comes back; blocks sealed and frozen; a function's end. No condition. -/
namespace Go.Proofs.YtmfbcipjknjicaaGreatDoor
set_option linter.unusedSectionVars false
variable [One Bool]
namespace Eng
open Go.RowKit

/-! What comes back gets names. -/

def openC (nm : Nat) : RV → RV × List Bk
  | .ow k els => (.ref nm 0 els.length, [(nm, k, els)])
  | r => (r, [])
def openL (nm step : Nat) : List RV → List RV × List Bk
  | [] => ([], [])
  | r :: rs => ((openC (nm + step) r).1 :: (openL (nm + step) step rs).1, (openC (nm + step) r).2 ++ (openL (nm + step) step rs).2)
def open1 (nm step : Nat) : RV → RV × List Bk
  | .agg l => (.agg (openL nm step l).1, (openL nm step l).2)
  | r => openC nm r
def openT (nm : Nat) : List RV → List RV × List Bk
  | [] => ([], [])
  | r :: rs => ((open1 (nm + 1000) 100000000 r).1 :: (openT (nm + 1000) rs).1, (open1 (nm + 1000) 100000000 r).2 ++ (openT (nm + 1000) rs).2)
def openR (nm : Nat) : RV → RV × List Bk
  | .tup l => (.tup (openT nm l).1, (openT nm l).2)
  | r => open1 nm 1000 r

def bnames (O : List Bk) : List Nat := O.map (·.1)

def Opens (w : World) (F : Nat → Prop) (ρ : Places) (bks : List Bk) (fp : List Nat) (ρ' : Places) : Prop :=
  (∀ m, m ∉ bnames bks → ρ' m = ρ m) ∧ ∀ O fpO, OL w F ρ' O fpO → ∃ fp', OL w F ρ' (bks ++ O) fp' ∧ (fp ++ fpO).Perm fp'

theorem OE.opnC {w F ρ r y fp} (nm : Nat) (h : OE w F ρ 1 [r] [y] fp) (ha : r.isAgg = false) (hn : nm ∉ r.names) : ∃ ρ', Opens w F ρ (openC nm r).2 fp ρ' ∧ OE w F ρ' 1 [(openC nm r).1] [y] [] := by
  by_cases how : ∃ k els, r = .ow k els
  · obtain ⟨k, els, rfl⟩ := how
    rcases h.single rfl with ⟨h1, _⟩ | ⟨b, cap, ty, c, k', els', fp1, e, rfl, rfl, hk, hb, hs, hl, hm, hnn, hE⟩ | ⟨_, _, _, e, _⟩ | ⟨_, _, _, e, _⟩ | ⟨k', e, rfl, rfl, hk⟩
    · cases h1
    · cases e
      refine ⟨fun m => if m = nm then (some b, k, cap) else ρ m, ⟨fun m hm => ?_, fun O fpO hO => ?_⟩, ?_⟩
      · simp only [openC, bnames, List.map_cons, List.map_nil, List.mem_singleton] at hm
        simp [hm]
      · have := OL.cons (n := nm) (ρ := fun m => if m = nm then (some b, k, cap) else ρ m) hk (by simp) (by simp) hb (by simpa using hs) (by simpa using hl) (by simpa using hm) rfl (hE.places (by simp [hnn])) hO
        exact ⟨_, this, by simp⟩
      · have := OE.ref (w := w) (F := F) (ρ := fun m => if m = nm then (some b, k, cap) else ρ m) nm 0 els.length (by simp; omega) (.nil _ _)
        simpa [openC] using this
    · cases e
    · cases e
    · cases e
      refine ⟨fun m => if m = nm then (none, k, 0) else ρ m, ⟨fun m hm => ?_, fun O fpO hO => ?_⟩, ?_⟩
      · simp only [openC, bnames, List.map_cons, List.map_nil, List.mem_singleton] at hm
        simp [hm]
      · exact ⟨_, OL.nilb hk (by simp) hO, by simp⟩
      · have := OE.ref (w := w) (F := F) (ρ := fun m => if m = nm then (none, k, 0) else ρ m) nm 0 0 (by simp; omega) (.nil _ _)
        simpa [openC] using this
  · have e : openC nm r = (r, []) := by cases r <;> first | rfl | exact absurd ⟨_, _, rfl⟩ how
    have hf : fp = [] := by
      by_cases hfn : ∃ f l, r = .fn f l
      · obtain ⟨f, l, rfl⟩ := hfn
        obtain ⟨_, _, _, h⟩ := h.fn_inv
        exact h
      rcases h.single (by cases r <;> first | rfl | exact absurd ⟨_, _, rfl⟩ hfn | (simp [RV.isAgg] at ha)) with ⟨_, h3⟩ | ⟨_, _, _, _, k, els, _, e, _⟩ | ⟨_, _, _, e, _, h3, _⟩ | ⟨_, _, _, e, _, h3, _⟩ | ⟨k, e, _, h3, _⟩
      · exact h3
      · exact absurd ⟨k, els, e⟩ how
      · exact h3
      · exact h3
      · exact h3
    subst hf
    rw [e]
    exact ⟨ρ, ⟨fun _ _ => rfl, fun O fpO hO => ⟨fpO, hO, .refl _⟩⟩, h⟩

theorem openC_names (nm : Nat) (r : RV) : ∀ m ∈ bnames (openC nm r).2, m = nm := by
  cases r <;> simp [openC, bnames]
theorem openC_rest (nm : Nat) (r : RV) : ∀ m ∈ (openC nm r).1.names, m ∈ r.names ∨ m = nm := by
  cases r <;> simp [openC, RV.names] <;> intros <;> simp_all
theorem openL_names (step : Nat) (hs : 0 < step) : ∀ (rs : List RV) (nm : Nat), ∀ m ∈ bnames (openL nm step rs).2, nm < m
  | [], nm, m, hm => by simp [openL, bnames] at hm
  | r :: rs, nm, m, hm => by
    simp only [openL, bnames, List.map_append, List.mem_append] at hm
    rcases hm with hm | hm
    · have := openC_names _ r m hm; omega
    · have := openL_names step hs rs (nm + step) m hm; omega

theorem Opens.trans {w F ρ ρ1 ρ2 b1 b2 f1 f2} (h1 : Opens w F ρ b1 f1 ρ1) (h2 : Opens w F ρ1 b2 f2 ρ2) (hd : ∀ m ∈ bnames b1, m ∉ bnames b2) (hc : ∀ b ∈ b1, ∀ m ∈ RV.namesL b.2.2, m ∉ bnames b2) : Opens w F ρ (b1 ++ b2) (f1 ++ f2) ρ2 := by
  refine ⟨fun m hm => ?_, fun O fpO hO => ?_⟩
  · simp only [bnames, List.map_append, List.mem_append, not_or] at hm
    rw [h2.1 m hm.2, h1.1 m hm.1]
  · obtain ⟨fp', hO', hp'⟩ := h2.2 O fpO hO
    -- the first blocks, under the last places
    have key : ∀ O' fpO', OL w F ρ2 O' fpO' → ∃ fp', OL w F ρ2 (b1 ++ O') fp' ∧ (f1 ++ fpO').Perm fp' := by
      intro O' fpO' hO'
      -- through an empty rest
      obtain ⟨g, hg, hgp⟩ := h1.2 [] [] (.nil (hO'.gok))
      rw [List.append_nil] at hg hgp
      have hg2 : OL w F ρ2 b1 g := hg.places fun m hm => h2.1 m (by
        have hmem : ∀ O : List Bk, (∀ m ∈ bnames O, m ∉ bnames b2) → (∀ b ∈ O, ∀ m ∈ RV.namesL b.2.2, m ∉ bnames b2) → m ∈ onames O → m ∉ bnames b2 := by
          intro O
          induction O with
          | nil => intro _ _ h; simp [onames] at h
          | cons x O ih =>
            obtain ⟨q, k, els⟩ := x
            intro h3 h4 h5
            simp only [onames, List.mem_cons, List.mem_append] at h5
            rcases h5 with rfl | h5 | h5
            · exact h3 _ (by simp [bnames])
            · exact h4 (q, k, els) (by simp) m h5
            · exact ih (fun q hq => h3 q (by simp only [bnames, List.map_cons, List.mem_cons] at hq ⊢; exact .inr hq)) (fun b hb => h4 b (by simp [hb])) h5
        exact hmem b1 hd hc hm)
      have app : ∀ (A : List Bk) (fa : List Nat), OL w F ρ2 A fa → OL w F ρ2 (A ++ O') (fa ++ fpO') := by
        intro A
        induction A with
        | nil => intro fa h; cases h; simpa using hO'
        | cons x A ih =>
          intro fa h
          obtain ⟨q1, q2, rfl, h6, h7⟩ := h.tail
          have := h7 _ _ (ih _ h6)
          rw [List.append_assoc]; simpa using this
      exact ⟨_, app _ _ hg2, hgp.append (.refl _)⟩
    obtain ⟨fp'', hO'', hp''⟩ := key _ _ hO'
    refine ⟨fp'', by simpa using hO'', ?_⟩
    rw [List.append_assoc]
    exact ((List.Perm.refl f1).append hp').trans hp''

theorem OE.opnL {w F} (step : Nat) (hs : 0 < step) : ∀ (rs : List RV) (ρ : Places) (nm : Nat) (ys : List Value) (fp : List Nat), OE w F ρ 1 rs ys fp → (∀ r ∈ rs, r.isAgg = false) → RV.namesL rs = [] →
    ∃ ρ', Opens w F ρ (openL nm step rs).2 fp ρ' ∧ OE w F ρ' 1 (openL nm step rs).1 ys []
  | [], ρ, nm, ys, fp, h, _, _ => by cases h; exact ⟨ρ, ⟨fun _ _ => rfl, fun O fpO hO => ⟨fpO, hO, .refl _⟩⟩, .nil _ _⟩
  | r :: rs, ρ, nm, ys, fp, h, ha, hn => by
    obtain ⟨c1, c2, f1, f2, rfl, rfl, hc1, h1, h2⟩ := h.cons_inv
    simp only [RV.namesL, List.append_eq_nil_iff] at hn
    match c1, hc1 with
    | [y], _ =>
      obtain ⟨ρ1, hO1, hE1⟩ := h1.opnC (nm + step) (ha r (by simp)) (by simp [hn.1])
      have h2' : OE w F ρ1 1 rs c2 f2 := h2.places fun m hm => by simp [hn.2] at hm
      obtain ⟨ρ2, hO2, hE2⟩ := OE.opnL step hs rs ρ1 (nm + step) c2 f2 h2' (fun r hr => ha r (by simp [hr])) hn.2
      refine ⟨ρ2, hO1.trans hO2 ?_ ?_, ?_⟩
      · intro m hm hm2
        have := openC_names _ r m hm
        have := openL_names step hs rs (nm + step) m hm2
        omega
      · intro b hb m hm
        cases r <;> simp [openC] at hb
        subst hb
        rename_i k els
        rcases h1.single rfl with ⟨h3, _⟩ | ⟨_, _, _, _, _, _, _, e, _, _, _, _, _, _, _, hnn, _⟩ | ⟨_, _, _, e, _⟩ | ⟨_, _, _, e, _⟩ | ⟨k', e, _⟩
        · cases h3
        · cases e; rw [hnn] at hm; cases hm
        · cases e
        · cases e
        · cases e; simp [RV.namesL] at hm
      · refine OE.cons (fp1 := []) (fp2 := []) (hE1.places fun m hm => ?_) hE2
        refine hO2.1 m fun hm2 => ?_
        simp only [RV.namesL, List.append_nil] at hm
        have h5 := openL_names step hs rs (nm + step) m hm2
        rcases openC_rest _ r m hm with h6 | h6
        · simp [hn.1] at h6
        · omega

theorem S1.opn {w F ρ r y fp} (nm step : Nat) (hs : 0 < step) (h : S1 w F ρ r y fp) (hn : r.names = []) (hc : ∀ l, r = .agg l → l.all (fun r => !r.isAgg) = true) (hfn : ∀ f l, r ≠ .fn f l) :
    ∃ ρ', Opens w F ρ (open1 nm step r).2 fp ρ' ∧ S1 w F ρ' (open1 nm step r).1 y [] := by
  cases h with
  | any => exact ⟨ρ, ⟨fun _ _ => rfl, fun O fpO hO => ⟨fpO, hO, .refl _⟩⟩, .any _⟩
  | v => exact ⟨ρ, ⟨fun _ _ => rfl, fun O fpO hO => ⟨fpO, hO, .refl _⟩⟩, .v _⟩
  | cell ha h =>
    obtain ⟨ρ', h1, h2⟩ := h.opnC nm ha (by simp [hn])
    have e : open1 nm step r = openC nm r := by cases r <;> simp [RV.isAgg] at ha <;> rfl
    rw [e]
    refine ⟨ρ', h1, .cell ?_ h2⟩
    cases r <;> simp [RV.isAgg] at ha <;> rfl
  | @agg l c fp h =>
    obtain ⟨ρ', h1, h2⟩ := OE.opnL step hs l ρ nm c.toList fp h (fun r hr => by have := hc l rfl; simp at this; exact this r hr) (by simpa [RV.names] using hn)
    exact ⟨ρ', h1, .agg h2⟩
  | fn => exact absurd rfl (hfn _ _)

/-! Calls. -/

def callable (P : Program) (f : FuncId) : Bool := match P.funcs[f]? with | some fn => fn.body.isSome && (fn.name != "runtime.NumGoroutine") | none => false

theorem run_call {P : Program} {o : Oper} {a : Act} {w : World} {f args ats} (ho : o.op = .call ⟨.value (.func f), args, ats⟩) (hc : callable P f = true) : (execOp a.eval o).run P w = .ok (.enter f (args.map a.eval)) w := by
  unfold callable at hc
  split at hc
  · rename_i fn hf
    simp only [Bool.and_eq_true, bne_iff_ne] at hc
    obtain ⟨bd, hb⟩ := Option.isSome_iff_exists.1 hc.1
    simp [execOp, ho, resolve, Deferred.ofValue, invoke, Act.eval, callFunc, hf, hc.2, hb]
  · cases hc

def FCr (P : Program) (f : FuncId) (args : List RV) (r : RV) : Prop := FC P f args [] fun rv O => rv = r ∧ O = []

def RV.notTup : RV → Bool | .tup _ => false | _ => true

theorem RelX.args {E s a w F ρ fp} (h : RelX E s a w F ρ fp) (l : List Operand) (hn : (l.map s.get).all RV.notTup = true) : SL w F ρ (l.map s.get) (l.map a.eval) [] := by
  induction l with
  | nil => exact .nil
  | cons x l ih =>
    simp only [List.map_cons, List.all_cons, Bool.and_eq_true] at hn
    have h1 := h.get x
    refine SL.cons (fp1 := []) ?_ (ih hn.2)
    cases hq : s.get x with
    | tup => rw [hq] at hn; simp [RV.notTup] at hn
    | _ =>
      rw [hq] at h1
      cases h1 with
      | one h1 => exact h1

mutual
def RV.noSh : RV → Bool
  | .v _ => true
  | .any => true
  | .sh _ => false
  | .psh _ => false
  | .ow _ l => RV.noShL l
  | .agg l => RV.noShL l
  | .tup l => RV.noShL l
  | .fn _ l => RV.noShL l
  | .ref _ _ _ => true
  | .ptr _ _ _ => true
def RV.noShL : List RV → Bool
  | [] => true
  | e :: es => e.noSh && RV.noShL es
end

theorem FE.noSh {w F F' k es cs} (h : FE w F k es cs) (hn : RV.noShL es = true) : FE w F' k es cs := by
  induction h with
  | nil => exact .nil _
  | v x h1 _ ih => simp only [RV.noShL, RV.noSh, Bool.true_and] at hn; exact .v x h1 (ih hn)
  | any x h1 _ ih => simp only [RV.noShL, RV.noSh, Bool.true_and] at hn; exact .any x h1 (ih hn)
  | shnil => simp [RV.noShL, RV.noSh] at hn
  | sh => simp [RV.noShL, RV.noSh] at hn
  | psh => simp [RV.noShL, RV.noSh] at hn
  | agg _ hk _ ih1 ih2 => simp only [RV.noShL, RV.noSh, Bool.and_eq_true] at hn; exact .agg (ih1 hn.1) hk (ih2 hn.2)
theorem OE.noSh {w F F' ρ k es cs fp} (h : OE w F ρ k es cs fp) (hn : RV.noShL es = true) : OE w F' ρ k es cs fp := by
  induction h with
  | nil => exact .nil _ _
  | fz h1 _ ih =>
    simp only [RV.noShL, Bool.and_eq_true] at hn
    exact .fz (h1.noSh (by simp [RV.noShL, hn.1])) (ih hn.2)
  | ow b cap ty c hk hb hs hl hm hc hnn _ _ ih1 ih2 => simp only [RV.noShL, RV.noSh, Bool.and_eq_true] at hn; exact .ow b cap ty c hk hb hs hl hm hc hnn (ih1 hn.1) (ih2 hn.2)
  | ownil k hk _ ih => simp only [RV.noShL, RV.noSh, Bool.and_eq_true] at hn; exact .ownil k hk (ih hn.2)
  | ref n off len hr _ ih => simp only [RV.noShL, RV.noSh, Bool.and_eq_true] at hn; exact .ref n off len hr (ih hn.2)
  | ptr n i j hr _ ih => simp only [RV.noShL, RV.noSh, Bool.and_eq_true] at hn; exact .ptr n i j hr (ih hn.2)
  | agg _ hk _ ih1 ih2 => simp only [RV.noShL, RV.noSh, Bool.and_eq_true] at hn; exact .agg (ih1 hn.1) hk (ih2 hn.2)
  | fn f _ _ ih1 ih2 => simp only [RV.noShL, RV.noSh, Bool.and_eq_true] at hn; exact .fn f (ih1 hn.1) (ih2 hn.2)
theorem S1.noSh {w F F' ρ r y fp} (h : S1 w F ρ r y fp) (hn : r.noSh = true) : S1 w F' ρ r y fp := by
  cases h with
  | any => exact .any _
  | v => exact .v _
  | cell ha h => exact .cell ha (h.noSh (by simp [RV.noShL, hn]))
  | agg h => exact .agg (h.noSh (by simpa [RV.noSh] using hn))
  | fn h => exact .fn (h.noSh (by simpa [RV.noSh] using hn))
theorem SL.noSh {w F F' ρ rs ys fp} (h : SL w F ρ rs ys fp) (hn : RV.noShL rs = true) : SL w F' ρ rs ys fp := by
  induction h with
  | nil => exact .nil
  | cons h1 _ ih => simp only [RV.noShL, Bool.and_eq_true] at hn; exact .cons (h1.noSh hn.1) (ih hn.2)
theorem SV.noSh {w F F' ρ r y fp} (h : SV w F ρ r y fp) (hn : r.noSh = true) : SV w F' ρ r y fp := by
  cases h with
  | one h => exact .one (h.noSh hn)
  | tup h => exact .tup (h.noSh (by simpa [RV.noSh] using hn))

mutual
def RV.fz : RV → RV
  | .v x => .v x
  | .any => .any
  | .sh l => .sh l
  | .psh e => .psh e
  | .ow _ l => .sh (RV.fzL l)
  | .agg l => .agg (RV.fzL l)
  | .ref _ _ _ => .any
  | .ptr _ _ _ => .any
  | .tup _ => .any
  | .fn _ _ => .any
def RV.fzL : List RV → List RV
  | [] => []
  | e :: es => e.fz :: RV.fzL es
end
theorem fzL_eq (l : List RV) : RV.fzL l = l.map RV.fz := by
  induction l with
  | nil => simp [RV.fzL]
  | cons e es ih => simp [RV.fzL, ih]

theorem FE.fzL {w F k es cs} (h : FE w F k es cs) : RV.fzL es = es := by
  induction h with
  | nil => simp [RV.fzL]
  | agg _ _ _ ih1 ih2 => simp [RV.fzL, RV.fz, ih1, ih2]
  | _ => simp [RV.fzL, RV.fz, *]

theorem OE.fz_ {w : World} {F F' : Nat → Prop} {ρ k es cs fp} (h : OE w F ρ k es cs fp) (hF : ∀ b, F b → F' b) (hfp : ∀ b ∈ fp, F' b) : FE w F' k (RV.fzL es) cs := by
  induction h with
  | nil => exact .nil _
  | @fz ρ k e c es cs fp h1 _ ih =>
    have e1 := h1.fzL
    simp only [RV.fzL, List.cons.injEq, and_true] at e1 ⊢
    rw [e1]
    exact FE.cons (h1.mono fun b hb => ⟨hF b hb, rfl⟩) (ih hfp)
  | @ow ρ b cap ty c k els cells es cs fp1 fp2 hk hb hs hl hm hc hnn _ _ ih1 ih2 =>
    simp only [RV.fzL, RV.fz]
    have h1 := ih1 fun x hx => hfp x (by simp [hx])
    have h2 := ih2 fun x hx => hfp x (by simp [hx])
    have hlen : (RV.fzL els).length = els.length := by rw [fzL_eq]; simp
    have := FE.sh (w := w) (F := F') ⟨b, 0, none⟩ cap k hk (hfp b (by simp)) (by rw [hlen]; omega) (by rw [← hc]; exact OE.block hb _) h1 h2
    rwa [hlen] at this
  | ownil k hk _ ih => simp only [RV.fzL, RV.fz]; exact .shnil none 0 (ih hfp)
  | ref n off len _ _ ih => simp only [RV.fzL, RV.fz]; exact .any _ rfl (ih hfp)
  | ptr n i j _ _ ih => simp only [RV.fzL, RV.fz]; exact .any _ rfl (ih hfp)
  | agg _ hk _ ih1 ih2 => simp only [RV.fzL, RV.fz]; exact .agg (ih1 fun x hx => hfp x (by simp [hx])) hk (ih2 fun x hx => hfp x (by simp [hx]))
  | fn f _ _ _ ih2 => simp only [RV.fzL, RV.fz]; exact .any _ (mkF_one _ _) (ih2 hfp)

end Eng
end Go.Proofs.YtmfbcipjknjicaaGreatDoor

/- The engine, part L: calls as operations; a function's end; blocks frozen, sealed; nil slices owned. No condition. -/
namespace Go.Proofs.YtmfbcipjknjicaaGreatDoor
set_option linter.unusedSectionVars false
variable [One Bool]
namespace Eng
open Go.RowKit

theorem openL_closed {w F} (step : Nat) : ∀ (rs : List RV) (ρ : Places) (nm : Nat) (ys : List Value) (fp : List Nat), OE w F ρ 1 rs ys fp → ∀ b ∈ (openL nm step rs).2, RV.namesL b.2.2 = []
  | [], _, _, _, _, _ => by simp [openL]
  | r :: rs, ρ, nm, ys, fp, h => by
    obtain ⟨c1, c2, f1, f2, rfl, rfl, hc1, h1, h2⟩ := h.cons_inv
    intro b hb
    simp only [openL, List.mem_append] at hb
    rcases hb with hb | hb
    · cases r <;> simp [openC] at hb
      subst hb
      match c1, hc1 with
      | [y], _ =>
        rcases h1.single rfl with ⟨h3, _⟩ | ⟨_, _, _, _, _, _, _, e, _, _, _, _, _, _, _, hnn, _⟩ | ⟨_, _, _, e, _⟩ | ⟨_, _, _, e, _⟩ | ⟨k', e, _⟩
        · cases h3
        · cases e; exact hnn
        · cases e
        · cases e
        · cases e; rfl
    · exact openL_closed step rs ρ (nm + step) c2 f2 h2 b hb

theorem open1_closed {w F ρ r y fp} (nm step : Nat) (h : S1 w F ρ r y fp) : ∀ b ∈ (open1 nm step r).2, RV.namesL b.2.2 = [] := by
  intro b hb
  cases h with
  | any => simp [open1, openC] at hb
  | v => simp [open1, openC] at hb
  | cell ha h =>
    have h3 := openL_closed 0 [r] ρ nm [y] fp h
    have e : open1 nm step r = openC nm r := by cases r <;> simp [RV.isAgg] at ha <;> rfl
    rw [e] at hb
    exact h3 b (by simpa [openL] using hb)
  | agg h => exact openL_closed step _ ρ nm _ _ h b hb
  | fn => simp [open1, openC] at hb

theorem openL_rest (step : Nat) : ∀ (rs : List RV) (nm : Nat), RV.namesL rs = [] → ∀ m ∈ RV.namesL (openL nm step rs).1, m ∈ bnames (openL nm step rs).2
  | [], _, _, m, hm => by simp [openL, RV.namesL] at hm
  | r :: rs, nm, hn, m, hm => by
    simp only [RV.namesL, List.append_eq_nil_iff] at hn
    simp only [openL, RV.namesL, List.mem_append, bnames, List.map_append] at hm ⊢
    rcases hm with hm | hm
    · left
      cases r <;> simp [openC, RV.names] at hm hn ⊢ <;> first | exact hm | simp_all
    · exact .inr (openL_rest step rs (nm + step) hn.2 m hm)
theorem open1_rest (nm step : Nat) (r : RV) (hn : r.names = []) : ∀ m ∈ (open1 nm step r).1.names, m ∈ bnames (open1 nm step r).2 := by
  intro m hm
  cases r with
  | agg l => exact openL_rest step l nm (by simpa [RV.names] using hn) m (by simpa [open1, RV.names] using hm)
  | ow k els => simp [open1, openC, RV.names, bnames] at hm ⊢; exact hm
  | _ => simp [open1, openC, hn] at hm

def RV.resOk : RV → Bool
  | .agg l => l.all (fun r => !r.isAgg) && RV.namesL l == []
  | .fn _ _ => false
  | .tup _ => false
  | r => r.names == []

theorem S1.opn' {w F ρ r y fp} (nm step : Nat) (hs : 0 < step) (h : S1 w F ρ r y fp) (hr : r.resOk = true) :
    ∃ ρ', Opens w F ρ (open1 nm step r).2 fp ρ' ∧ S1 w F ρ' (open1 nm step r).1 y [] := by
  refine h.opn nm step hs ?_ ?_ ?_
  · cases r <;> simp [RV.resOk, RV.names] at hr ⊢; exact hr.2
  · rintro l rfl; simp only [RV.resOk, Bool.and_eq_true] at hr; exact hr.1
  · rintro f l rfl; simp [RV.resOk] at hr
theorem RV.resOk_names {r : RV} (hr : r.resOk = true) : r.names = [] := by
  cases r <;> simp [RV.resOk, RV.names] at hr ⊢; exact hr.2

theorem SL.opn {w F} : ∀ (rs : List RV) (ρ : Places) (nm : Nat) (ys : List Value) (fp : List Nat), SL w F ρ rs ys fp → rs.all RV.resOk = true → (bnames (openT nm rs).2).Nodup →
    ∃ ρ', Opens w F ρ (openT nm rs).2 fp ρ' ∧ SL w F ρ' (openT nm rs).1 ys []
  | [], ρ, nm, ys, fp, h, _, _ => by cases h; exact ⟨ρ, ⟨fun _ _ => rfl, fun O fpO hO => ⟨fpO, hO, .refl _⟩⟩, .nil⟩
  | r :: rs, ρ, nm, ys, fp, h, hr, hnd => by
    simp only [List.all_cons, Bool.and_eq_true] at hr
    cases h with
    | @cons _ y _ ys' f1 f2 h1 h2 =>
      simp only [openT, bnames, List.map_append] at hnd
      obtain ⟨n1, n2, n3⟩ := List.nodup_append.1 hnd
      obtain ⟨ρ1, hO1, hS1⟩ := h1.opn' (nm + 1000) 100000000 (by omega) hr.1
      have hnm : ∀ (l : List RV), l.all RV.resOk = true → RV.namesL l = [] := by
        intro l
        induction l with
        | nil => intro _; rfl
        | cons x xs ih => intro hx; simp only [List.all_cons, Bool.and_eq_true] at hx; simp [RV.namesL, RV.resOk_names hx.1, ih hx.2]
      obtain ⟨ρ2, hO2, hS2⟩ := SL.opn rs ρ1 (nm + 1000) ys' f2 (h2.places fun m hm => by rw [hnm _ hr.2] at hm; cases hm) hr.2 n2
      refine ⟨ρ2, hO1.trans hO2 ?_ ?_, ?_⟩
      · intro m hm hm2; exact n3 m hm m hm2 rfl
      · intro b hb m hm; rw [open1_closed _ _ h1 b hb] at hm; cases hm
      · refine SL.cons (fp1 := []) (hS1.places fun m hm => hO2.1 m fun hm2 => ?_) hS2
        exact n3 m (open1_rest _ _ r (RV.resOk_names hr.1) m hm) m hm2 rfl

def RV.resOkT : RV → Bool | .tup l => l.all RV.resOk | r => r.resOk

theorem SV.opn {w F ρ r y fp} (nm : Nat) (h : SV w F ρ r y fp) (hr : r.resOkT = true) (hnd : (bnames (openR nm r).2).Nodup) : ∃ ρ', Opens w F ρ (openR nm r).2 fp ρ' ∧ SV w F ρ' (openR nm r).1 y [] := by
  cases h with
  | one h =>
    have hr' : r.resOk = true := by
      cases hq : r with
      | tup l =>
        subst hq
        cases h with
        | cell ha h2 =>
          rcases h2.single rfl with ⟨h3, _⟩ | ⟨_, _, _, _, _, _, _, e, _⟩ | ⟨_, _, _, e, _⟩ | ⟨_, _, _, e, _⟩ | ⟨_, e, _⟩
          · cases h3
          all_goals cases e
      | _ => subst hq; exact hr
    obtain ⟨ρ', h1, h2⟩ := h.opn' nm 1000 (by omega) hr'
    have e : openR nm r = open1 nm 1000 r := by cases r <;> first | rfl | simp [RV.resOk] at hr'
    rw [e]
    exact ⟨ρ', h1, .one h2⟩
  | tup h =>
    obtain ⟨ρ', h1, h2⟩ := SL.opn _ ρ nm _ fp h hr hnd
    exact ⟨ρ', h1, .tup h2⟩

theorem RV.resOkT_names {r : RV} (hr : r.resOkT = true) : r.names = [] := by
  cases r with
  | tup l =>
    simp only [RV.resOkT] at hr
    simp only [RV.names]
    induction l with
    | nil => rfl
    | cons x xs ih => simp only [List.all_cons, Bool.and_eq_true] at hr; simp [RV.namesL, RV.resOk_names hr.1, ih hr.2]
  | _ => exact RV.resOk_names hr

theorem RelX.opens {E s a w F ρ fp bks fpn ρ'} (h : RelX E s a w F ρ fp) (hO : Opens w F ρ bks fpn ρ') (hf : ∀ m ∈ bnames bks, m < 1000000000000 ∧ m ∉ RV.namesL s.fr ∧ m ∉ onames s.O) (hnd : (fpn ++ fp).Nodup) (hfp : ∀ x ∈ fpn, ¬ F x ∧ (E.B0 x ∨ E.w0.heap.size ≤ x)) :
    ∃ fp', RelX E ⟨s.fr, bks ++ s.O⟩ a w F ρ' fp' := by
  have hρ : ∀ m, m ∈ RV.namesL s.fr ∨ m ∈ onames s.O → ρ' m = ρ m := fun m hm => hO.1 m fun hb => hm.elim (hf m hb).2.1 (hf m hb).2.2
  obtain ⟨fp', h1, hp⟩ := hO.2 s.O fp (h.O.places fun m hm => hρ m (.inr hm))
  refine ⟨fp', h.defers, h.size, fun i => (h.fr i).places fun m hm => hρ m (.inl (names_lget _ _ _ hm)), h1, hp.nodup_iff.1 hnd, ?_, ?_, h.F0, h.Fn, h.Fs, h.keep, h.hsize, h.os, h.tape, h.output, fun n hn => (hO.1 n fun hb => by have := (hf n hb).1; omega).trans (h.pin n hn)⟩
  · intro b hb
    rcases List.mem_append.1 (hp.mem_iff.2 hb) with hb | hb
    · exact (hfp b hb).1
    · exact h.fpF b hb
  · intro b hb
    rcases List.mem_append.1 (hp.mem_iff.2 hb) with hb | hb
    · exact (hfp b hb).2
    · exact h.fpE b hb

theorem RelX.behind {E s a w F ρ fp} (h : RelX E s a w F ρ fp) {d : Tmp} {r v w' F' ρ' fp1} (hsv : SV w' F' ρ' r v fp1) (hr : r.resOkT = true) (hnb : (bnames (openR d r).2).Nodup) (hf : ∀ m ∈ bnames (openR d r).2, m < 1000000000000 ∧ m ∉ RV.namesL s.fr ∧ m ∉ onames s.O)
    (hnd : fp1.Nodup) (hfp : ∀ b ∈ fp1, ¬ F' b ∧ w.heap.size ≤ b) (hF : ∀ b, F b → F' b) (hF' : ∀ b, F' b → (F b ∨ w.heap.size ≤ b) ∧ b < w'.heap.size) (hb : ∀ b, b < w.heap.size → w'.heap[b]? = w.heap[b]?) (hsz : w.heap.size ≤ w'.heap.size) (h1 : w'.os = w.os) (h2 : TW w' w) (h3 : w'.output = w.output) :
    Rel E ⟨lset s.fr d (openR d r).1, (openR d r).2 ++ s.O⟩ (a.put (some d) v) w' := by
  have hw := h.world hF hF' hb hsz h1 h2 h3
  obtain ⟨ρ2, hO, hS⟩ := (hsv.places (ρ' := ρ) fun m hm => by rw [RV.resOkT_names hr] at hm; cases hm).opn d hr hnb
  obtain ⟨fp', hx⟩ := hw.opens hO hf (by
    refine List.nodup_append.2 ⟨hnd, h.nodup, fun x hx y hy e => ?_⟩
    subst e
    have := (hfp x hx).2
    have := h.O.lt x hy
    omega) (fun x hx => ⟨(hfp x hx).1, .inr (Nat.le_trans h.hsize (hfp x hx).2)⟩)
  exact ⟨F', ρ2, fp', hx.put (some d) hS⟩

section
variable {P : Program} {s : St} {d : Tmp} {ty : TypeId} {pos : String} {after : Array Edge} {g : Option (Nat × Bool)}

theorem ops_call {f args ats argsR r} (hargs : args.toList.map s.get = argsR := by rfl) (hnt : argsR.all RV.notTup = true := by rfl) (hc : callable P f = true := by kernel_rfl) (hfc : FCr P f argsR r) (hr : r.resOkT = true := by simp [RV.resOkT, RV.resOk, RV.isAgg, nm]) (hnb : (bnames (openR d r).2).Nodup := by simp [nz, nm])
    (hf : ∀ m ∈ bnames (openR d r).2, m < 1000000000000 ∧ m ∉ RV.namesL s.fr ∧ m ∉ onames s.O := by simp [nz, nm]) :
    OpS P ⟨some d, .call ⟨.value (.func f), args, ats⟩, ty, pos, after, g⟩ s ⟨lset s.fr d (openR d r).1, (openR d r).2 ++ s.O⟩ := by
  rintro E a w ⟨F, ρ, fp, h⟩ K Q hK
  have hA := h.args args.toList (by rw [hargs]; exact hnt)
  rw [hargs] at hA
  simp only [Oper.wp, run_call (a := a) (w := w) (o := ⟨some d, .call ⟨.value (.func f), args, ats⟩, ty, pos, after, g⟩) rfl hc, Oper.upon_enter]
  have hcall := hfc w F ρ _ [] hA (.nil h.O.gok) List.nodup_nil (fun b hb => nomatch hb) h.Fs
  rw [show (args.toList.map a.eval).toArray = args.map a.eval from Array.ext' (by rw [Array.toList_map])] at hcall
  refine hcall.mono ?_
  rintro e w' ⟨v, rv, Oout, F', ρ', fp1, fp2, rfl, ⟨rfl, rfl⟩, hsv, hO2, hnd, hfp, hF, hF', hb, hsz, h1, h2, h3, _⟩
  refine hK _ _ (h.behind hsv hr hnb hf (List.nodup_append.1 hnd).1 (fun b hb => ?_) hF (fun b hb => by have := hF' b hb; simpa using this) (fun b hb' => hb b hb' (by simp)) hsz h1 h2 h3)
  have := hfp b (by simp [hb])
  simpa using this

def viewC (O : List Bk) : RV → RV
  | .ref n off len => match olook n O with
    | some (_, els) => if off + len ≤ els.length then .sh (RV.fzL ((els.drop off).take len)) else .any
    | none => .any
  | .ptr n i j => match olook n O with
    | some (_, els) => match els[i]? with
      | some e => if j = 0 then .psh e.fz else match e.cellsL[j]? with
        | some c => .psh c.fz
        | none => .any
      | none => .any
    | none => .any
  | .fn _ _ => .any
  | r => r
def view1 (O : List Bk) : RV → RV
  | .agg l => .agg (l.map (viewC O))
  | r => viewC O r

theorem fzL_single (e : RV) : RV.fzL [e] = [e.fz] := by simp [RV.fzL]

theorem viewC_ok {w F ρ O fp r y} (hO : OL w F ρ O fp) (h : OE w F ρ 1 [r] [y] []) (ha : r.isAgg = false) (hn : ∀ k els, r ≠ .ow k els) : FE w (fun b => F b ∨ b ∈ fp) 1 [viewC O r] [y] := by
  have hone := h.one y (by simp)
  have any : FE w (fun b => F b ∨ b ∈ fp) 1 [.any] [y] := .any y hone (.nil _)
  by_cases hfn : ∃ f l, r = .fn f l
  · obtain ⟨f, l, rfl⟩ := hfn
    exact any
  rcases h.single (by cases r <;> first | rfl | exact absurd ⟨_, _, rfl⟩ hfn | (simp [RV.isAgg] at ha)) with ⟨h1, _⟩ | ⟨_, _, _, _, _, _, _, e, _⟩ | ⟨n, off, len, rfl, rfl, _, hpos⟩ | ⟨n, i, j, rfl, rfl, _, hpos⟩ | ⟨_, e, _⟩
  · have h2 : viewC O r = r := by cases r <;> first | rfl | cases h1
    rw [h2]
    exact h1.mono fun b hb => ⟨.inl hb, rfl⟩
  · exact absurd e (hn _ _)
  · simp only [viewC]
    cases ho : olook n O with
    | none => exact any
    | some x =>
      obtain ⟨k, els⟩ := x
      simp only
      split
      · rename_i hle
        by_cases h0 : len = 0
        · subst h0
          simp only [List.take_zero, RV.fzL]
          exact .shnil _ _ (.nil _)
        · obtain ⟨fp', hO', hp⟩ := hO.pull ho
          obtain ⟨b, ty, c, fp1, fp2, hk, hρ, hρb, hb, hs, hl, hm, hE, _, rfl⟩ := hO'.head (by rintro rfl; simp at hle; omega) hpos
          simp only [hρb, Option.map_some, hρ]
          have hE' := hE.fz_ (F' := fun b => F b ∨ b ∈ fp) (fun _ hb => .inl hb) (fun x hx => .inr (hp.mem_iff.2 (by simp [hx])))
          rw [fzL_eq] at hE'
          have h1 := (hE'.take_drop off (by simp; omega)).2
          have h2 := (h1.take_drop len (by simp; omega)).1
          have hlen : (RV.fzL ((els.drop off).take len)).length = len := by rw [fzL_eq]; simp; omega
          rw [← List.map_drop, ← List.map_take, ← fzL_eq] at h2
          have hc : CellsAt w ⟨b, off * k, none⟩ (((c.toList.take (els.length * k)).drop (off * k)).take (len * k)) := by
            intro j z hj
            rw [List.getElem?_take] at hj
            split at hj
            · rw [List.getElem?_drop] at hj
              have := OE.block hb (els.length * k) (off * k + j) z hj
              rw [Addr.add_lit] at this ⊢
              simpa [Nat.add_assoc] using this
            · cases hj
          have := FE.sh (w := w) (F := fun b => F b ∨ b ∈ fp) ⟨b, off * k, none⟩ ((ρ n).2.2 - off) k hk (.inr (hp.mem_iff.2 (by simp))) (by rw [hlen]; omega) hc h2 (.nil _)
          rwa [hlen] at this
      · exact any
  · simp only [viewC]
    cases ho : olook n O with
    | none => exact any
    | some x =>
      obtain ⟨k, els⟩ := x
      simp only
      cases hi : els[i]? with
      | none => exact any
      | some e =>
        simp only
        obtain ⟨fp', hO', hp⟩ := hO.pull ho
        obtain ⟨b, ty, c, fp1, fp2, hk, hρ, hρb, hb, hs, hl, hm, hE, _, rfl⟩ := hO'.head (by rintro rfl; simp at hi) hpos
        simp only [hρb, Option.map_some, hρ]
        have hE' := hE.fz_ (F' := fun b => F b ∨ b ∈ fp) (fun _ hb => .inl hb) (fun x hx => .inr (hp.mem_iff.2 (by simp [hx])))
        have hlt : i < els.length := (List.getElem?_eq_some_iff.1 hi).1
        have hlt' : i < (RV.fzL els).length := by rw [fzL_eq]; simpa using hlt
        have hat := hE'.at i hlt'
        have hei : (RV.fzL els)[i] = e.fz := by
          have : (RV.fzL els)[i]? = some e.fz := by rw [fzL_eq]; simp [hi]
          exact (List.getElem?_eq_some_iff.1 this).2
        rw [hei] at hat
        have hbF : (fun b => F b ∨ b ∈ fp) b := .inr (hp.mem_iff.2 (by simp))
        have hc : CellsAt w ⟨b, i * k, none⟩ (((c.toList.take (els.length * k)).drop (i * k)).take k) := by
          intro q z hj
          rw [List.getElem?_take] at hj
          split at hj
          · rw [List.getElem?_drop] at hj
            have := OE.block hb (els.length * k) (i * k + q) z hj
            rw [Addr.add_lit] at this ⊢
            simpa [Nat.add_assoc] using this
          · cases hj
        by_cases hj0 : j = 0
        · subst hj0
          exact .psh _ k hk hbF hc hat (.nil _)
        · rw [if_neg hj0]
          cases hcl : e.cellsL[j]? with
          | none => exact .any _ rfl (.nil _)
          | some cc =>
            simp only
            have hcells := hat.cellsL
            have hfc : e.fz.cellsL[j]? = some cc.fz := by
              cases e with
              | agg l => simp only [RV.cellsL] at hcl; simp [RV.fz, RV.cellsL, fzL_eq, hcl]
              | _ => simp only [RV.cellsL] at hcl; rw [List.getElem?_singleton, if_neg hj0] at hcl; cases hcl
            obtain ⟨z, hz, h4⟩ := hcells.cell hfc
            have := hc.one hz
            rw [Addr.add_lit] at this
            exact .psh _ 1 (by omega) hbF this h4 (.nil _)
  · exact absurd e (hn _ _)

end
end Eng
end Go.Proofs.YtmfbcipjknjicaaGreatDoor

/- The engine, part M: calls with what is owned seen as frozen; a function's end; blocks frozen, sealed; nil slices; cuts; struct values. No condition. -/
namespace Go.Proofs.YtmfbcipjknjicaaGreatDoor
set_option linter.unusedSectionVars false
variable [One Bool]
namespace Eng
open Go.RowKit

theorem viewL_ok {w F ρ O fp} (hO : OL w F ρ O fp) : ∀ (l : List RV) (cs : List Value), OE w F ρ 1 l cs [] → l.all RV.plain = true → FE w (fun b => F b ∨ b ∈ fp) 1 (l.map (viewC O)) cs
  | [], cs, h, _ => by cases h; exact .nil _
  | e :: es, cs, h, hp => by
    simp only [List.all_cons, Bool.and_eq_true] at hp
    obtain ⟨c1, c2, f1, f2, rfl, hf, hc1, h1, h2⟩ := h.cons_inv
    have hf' := List.append_eq_nil_iff.1 hf.symm
    obtain ⟨rfl, rfl⟩ := hf'
    match c1, hc1 with
    | [z], _ =>
      have h3 := viewC_ok hO h1 (by cases e <;> simp [RV.plain, RV.isAgg] at hp ⊢) (by rintro k els rfl; simp [RV.plain] at hp)
      rw [List.map_cons]
      exact FE.cons h3 (viewL_ok hO es c2 h2 hp.2)

theorem view1_ok {w F ρ O fp r y} (hO : OL w F ρ O fp) (h : SV w F ρ r y []) (hn : (view1 O r).notTup = true) (hp : ∀ l, r = .agg l → l.all RV.plain = true) (hfn : ∀ f l, r ≠ .fn f l) (how : ∀ k els, r ≠ .ow k els) : S1 w (fun b => F b ∨ b ∈ fp) ρ (view1 O r) y [] := by
  cases h with
  | tup => simp [view1, viewC, RV.notTup] at hn
  | one h => cases h with
    | any => exact .any _
    | v => exact .v _
    | @cell e y fp ha h =>
      have e1 : view1 O r = viewC O r := by cases r <;> first | rfl | simp [RV.isAgg] at ha
      rw [e1]
      refine .cell ?_ (OE.of_FE (viewC_ok hO h ha how))
      cases r <;> simp [RV.isAgg] at ha <;> simp only [viewC]
      all_goals first | rfl | (split <;> (try split) <;> (try split) <;> (try split) <;> rfl)
    | @agg l c _ h =>
      simp only [view1]
      exact .agg (OE.of_FE (viewL_ok hO _ _ h (hp l rfl)))
    | fn => exact absurd rfl (hfn _ _)

def RV.seeOk : RV → Bool | .agg l => l.all RV.plain | .fn _ _ => false | .ow _ _ => false | .tup _ => false | _ => true

theorem view1_notTup (O : List Bk) (r : RV) (h : r.seeOk = true) : (view1 O r).notTup = true := by
  cases r <;> simp only [view1, viewC] <;> first | rfl | (simp [RV.seeOk] at h; done) | (split <;> (try split) <;> (try split) <;> (try split) <;> rfl)

section
variable {P : Program} {s : St} {d : Tmp} {ty : TypeId} {pos : String} {after : Array Edge} {g : Option (Nat × Bool)}

theorem RelX.viewArgs {E a w F ρ fp} (h : RelX E s a w F ρ fp) (l : List Operand) (hn : (l.map s.get).all RV.seeOk = true) : SL w (fun b => F b ∨ b ∈ fp) ρ (l.map fun x => view1 s.O (s.get x)) (l.map a.eval) [] := by
  induction l with
  | nil => exact .nil
  | cons x l ih =>
    simp only [List.map_cons, List.all_cons, Bool.and_eq_true] at hn
    refine SL.cons (fp1 := []) (view1_ok h.O (h.get x) (view1_notTup _ _ hn.1) ?_ ?_ ?_) (ih hn.2)
    · intro l hl; rw [hl] at hn; exact hn.1
    · intro f l hl; rw [hl] at hn; simp [RV.seeOk] at hn
    · intro k els hl; rw [hl] at hn; simp [RV.seeOk] at hn

theorem ops_callv {f args ats argsR r} (hargs : args.toList.map (fun x => view1 s.O (s.get x)) = argsR := by first | rfl | (simp only [nz, nf, vw, nr, reduceIte, Nat.reduceEqDiff, ne_eq, not_false_eq_true]; rfl) | (simp only [nz, nf, vw, nr, reduceIte, Nat.reduceEqDiff, ne_eq, not_false_eq_true]; done) | (simp [view1, viewC, olook, nv, nz, nf, *]; fail_if_success show _)) (hsee : (args.toList.map s.get).all RV.seeOk = true := by rfl) (hc : callable P f = true := by kernel_rfl) (hfc : FCr P f argsR r) (hr : r.resOkT = true := by simp [RV.resOkT, RV.resOk, RV.isAgg, nm]) (hns : r.noSh = true := by simp [ns]) (hnb : (bnames (openR d r).2).Nodup := by simp [nz, nm])
    (hf : ∀ m ∈ bnames (openR d r).2, m < 1000000000000 ∧ m ∉ RV.namesL s.fr ∧ m ∉ onames s.O := by simp [nz, nm]) :
    OpS P ⟨some d, .call ⟨.value (.func f), args, ats⟩, ty, pos, after, g⟩ s ⟨lset s.fr d (openR d r).1, (openR d r).2 ++ s.O⟩ := by
  rintro E a w ⟨F, ρ, fp, h⟩ K Q hK
  have hA := h.viewArgs args.toList hsee
  rw [hargs] at hA
  simp only [Oper.wp, run_call (a := a) (w := w) (o := ⟨some d, .call ⟨.value (.func f), args, ats⟩, ty, pos, after, g⟩) rfl hc, Oper.upon_enter]
  have hcall := hfc w (fun b => F b ∨ b ∈ fp) ρ _ [] hA (.nil (h.O.gok.le fun b hb => .inl hb)) List.nodup_nil (fun b hb => nomatch hb) (fun b hb => hb.elim (h.Fs b) (h.O.lt b))
  rw [show (args.toList.map a.eval).toArray = args.map a.eval from Array.ext' (by rw [Array.toList_map])] at hcall
  refine hcall.mono ?_
  rintro e w' ⟨v, rv, Oout, F', ρ', fp1, fp2, rfl, ⟨rfl, rfl⟩, hsv, hO2, hnd, hfp, hF, hF', hb, hsz, h1, h2, h3, _⟩
  have hsv' : SV w' (fun b => F' b ∧ b ∉ fp) ρ' rv v fp1 := hsv.noSh hns
  refine hK _ _ (h.behind (F' := fun b => F' b ∧ b ∉ fp) hsv' hr hnb hf (List.nodup_append.1 hnd).1 (fun b hb => ?_) (fun b hb => ⟨hF b (.inl hb), fun hx => h.fpF b hx hb⟩) ?_ (fun b hb' => hb b hb' (by simp)) hsz h1 h2 h3)
  · have := hfp b (by simp [hb])
    simp only [List.not_mem_nil, false_or] at this
    exact ⟨fun hx => this.1 hx.1, this.2⟩
  · intro b hb
    have := hF' b hb.1
    simp only [List.not_mem_nil, false_or] at this
    refine ⟨?_, this.2⟩
    rcases this.1 with (h4 | h4) | h4
    · exact .inl h4
    · exact absurd h4 hb.2
    · exact .inr h4

end

/-! A function's end. -/

inductive ResL (P : Program) (s : St) : List ResultVar → List RV → Prop
  | nil : ResL P s [] []
  | tmp {t r rs cs} (h : lget s.fr t = r) (hn : r.notTup = true) (hr : ResL P s rs cs) : ResL P s (.tmp t :: rs) (r :: cs)
  | cell {t ty n k l rs cs} (h : lget s.fr t = .ptr n 0 0) (ho : olook n s.O = some (k, [.agg l])) (hp : l.all RV.plain = true) (ht : aggT P ty = true) (hs : P.cellsOf ty = l.length) (hr : ResL P s rs cs) : ResL P s (.cell t ty :: rs) (.agg l :: cs)

inductive SealL : List Bk → List RV → List RV → List Bk → Prop
  | nil {O} : SealL O [] [] O
  | keep {O r rs rs' O'} (h : SealL O rs rs' O') : SealL O (r :: rs) (r :: rs') O'
  | own {O n k els rs rs' O'} (hl : olook n O = some (k, els)) (hn : RV.namesL els = []) (h : SealL (oerase n O) rs rs' O') : SealL O (.ref n 0 els.length :: rs) (.ow k els :: rs') O'
  | agg {O l l' O1 rs rs' O'} (h1 : SealL O l l' O1) (h : SealL O1 rs rs' O') : SealL O (.agg l :: rs) (.agg l' :: rs') O'

theorem SealL.cells {w F ρ} {O l l' O'} (h : SealL O l l' O') : ∀ {ys fp}, OE w F ρ 1 l ys [] → (∀ r ∈ l, r.isAgg = false) → OL w F ρ O fp → ∃ fp1 fp2, OE w F ρ 1 l' ys fp1 ∧ OL w F ρ O' fp2 ∧ (fp1 ++ fp2).Perm fp := by
  induction h with
  | nil => intro ys fp h _ hO; cases h; exact ⟨[], fp, .nil _ _, hO, .refl _⟩
  | keep _ ih =>
    intro ys fp h ha hO
    obtain ⟨c1, c2, f1, f2, rfl, hf, hc1, h1, h2⟩ := h.cons_inv
    obtain ⟨rfl, rfl⟩ := List.append_eq_nil_iff.1 hf.symm
    obtain ⟨fp1, fp2, h3, h4, h5⟩ := ih h2 (fun r hr => ha r (by simp [hr])) hO
    exact ⟨fp1, fp2, OE.cons (fp1 := []) h1 h3, h4, h5⟩
  | @own O n k els rs rs' O' hl hn _ ih =>
    intro ys fp h ha hO
    obtain ⟨c1, c2, f1, f2, rfl, hf, hc1, h1, h2⟩ := h.cons_inv
    obtain ⟨rfl, rfl⟩ := List.append_eq_nil_iff.1 hf.symm
    match c1, hc1 with
    | [y], _ =>
      obtain ⟨fp', hO', hp⟩ := hO.pull hl
      rcases h1.single rfl with ⟨h3, _⟩ | ⟨_, _, _, _, _, _, _, e, _⟩ | ⟨_, _, _, e, rfl, _, hpos⟩ | ⟨_, _, _, e, _⟩ | ⟨_, e, _⟩
      · cases h3
      · cases e
      · cases e
        cases hO' with
        | map hρ0 => exact absurd hρ0 hpos
        | nilb hk hρ hO2 =>
          obtain ⟨fp1, fp2, h3, h4, h5⟩ := ih h2 (fun r hr => ha r (by simp [hr])) hO2
          refine ⟨fp1, fp2, ?_, h4, h5.trans hp.symm⟩
          simp only [hρ, Option.map_none, List.length_nil]
          exact .ownil k hk h3
        | @cons _ b _ _ ty c cells _ g1 g2 hk hρ hρb hb hs hl2 hm hc hE hO2 =>
          obtain ⟨fp1, fp2, h3, h4, h5⟩ := ih h2 (fun r hr => ha r (by simp [hr])) hO2
          refine ⟨b :: (g1 ++ fp1), fp2, ?_, h4, ?_⟩
          · simp only [hρb, Option.map_some, Nat.zero_mul, Nat.sub_zero]
            exact .ow b _ ty c hk hb hs hl2 hm hc hn (hE.places (by simp [hn])) h3
          · refine List.Perm.trans ?_ hp.symm
            simp only [List.cons_append, List.append_assoc]
            exact List.Perm.cons _ ((List.Perm.refl g1).append h5)
      · cases e
      · cases e
  | agg _ _ _ _ => intro ys fp h ha hO; have := ha (.agg _) (List.mem_cons_self ..); simp [RV.isAgg] at this

theorem SealL.all {w F ρ} {O l l' O'} (h : SealL O l l' O') : ∀ {ys fp}, SL w F ρ l ys [] → (∀ l1, .agg l1 ∈ l → ∀ r ∈ l1, r.isAgg = false) → OL w F ρ O fp → ∃ fp1 fp2, SL w F ρ l' ys fp1 ∧ OL w F ρ O' fp2 ∧ (fp1 ++ fp2).Perm fp := by
  induction h with
  | nil => intro ys fp h _ hO; cases h; exact ⟨[], fp, .nil, hO, .refl _⟩
  | keep _ ih =>
    intro ys fp h ha hO
    generalize hf : ([] : List Nat) = fpz at h
    cases h with
    | cons h1 h2 =>
      obtain ⟨rfl, rfl⟩ := List.append_eq_nil_iff.1 hf.symm
      obtain ⟨fp1, fp2, h3, h4, h5⟩ := ih h2 (fun l1 hr => ha l1 (by simp [hr])) hO
      exact ⟨fp1, fp2, SL.cons (fp1 := []) h1 h3, h4, h5⟩
  | @own O n k els rs rs' O' hl hn hrest ih =>
    intro ys fp h ha hO
    generalize hf : ([] : List Nat) = fpz at h
    cases h with
    | @cons _ y _ ys' _ _ h1 h2 =>
      obtain ⟨rfl, rfl⟩ := List.append_eq_nil_iff.1 hf.symm
      have h1' := (SV.one h1).cell rfl (by simp) (by simp) (by simp) (by simp)
      obtain ⟨g1, g2, h6, h7, h8⟩ := (SealL.own hl hn .nil).cells h1' (by simp [RV.isAgg]) hO
      obtain ⟨fp1, fp2, h3, h4, h5⟩ := ih h2 (fun l1 hr => ha l1 (by simp [hr])) h7
      refine ⟨g1 ++ fp1, fp2, SL.cons (.cell rfl h6) h3, h4, ?_⟩
      rw [List.append_assoc]
      exact ((List.Perm.refl g1).append h5).trans h8
  | @agg O l l' O1 rs rs' O' hc hrest ih1 ih =>
    intro ys fp h ha hO
    generalize hf : ([] : List Nat) = fpz at h
    cases h with
    | @cons _ y _ ys' _ _ h1 h2 =>
      obtain ⟨rfl, rfl⟩ := List.append_eq_nil_iff.1 hf.symm
      obtain ⟨c, rfl, h1'⟩ := (SV.one h1).agg_inv
      obtain ⟨g1, g2, h6, h7, h8⟩ := hc.cells h1' (ha l (by simp)) hO
      obtain ⟨fp1, fp2, h3, h4, h5⟩ := ih h2 (fun l1 hr => ha l1 (by simp [hr])) h7
      refine ⟨g1 ++ fp1, fp2, SL.cons (.agg h6) h3, h4, ?_⟩
      rw [List.append_assoc]
      exact ((List.Perm.refl g1).append h5).trans h8

def resRun (P : Program) (tmps : Array Value) (w : World) : ResultVar → Value → Prop
  | .tmp t, y => y = tmps.getD t undef
  | .cell t ty, y => ∃ ad, tmps.getD t undef = .pointer (some ad) ∧ (loadVar ty ad).run P w = .ok y w

theorem ResL.run {P s rs cs} (h : ResL P s rs cs) {E a w F ρ fp} (hr : RelX E s a w F ρ fp) : ∃ ys : List Value, ys.length = rs.length ∧ SL w F ρ cs ys [] ∧ ∀ (i : Nat) (v : ResultVar) (y : Value), rs[i]? = some v → ys[i]? = some y → resRun P a.tmps w v y := by
  induction h with
  | nil => exact ⟨[], rfl, .nil, by simp⟩
  | @tmp t r rs cs h hn _ ih =>
    obtain ⟨ys, h1, h2, h3⟩ := ih
    have hv := hr.fr t
    rw [h] at hv
    have hs1 : S1 w F ρ r (a.tmps.getD t undef) [] := by
      generalize a.tmps.getD t undef = z at hv
      cases hv with
      | one h => exact h
      | tup => simp [RV.notTup] at hn
    refine ⟨a.tmps.getD t undef :: ys, by simp [h1], SL.cons (fp1 := []) hs1 h2, ?_⟩
    intro i v y hi hy
    cases i with
    | zero => simp only [List.getElem?_cons_zero, Option.some.injEq] at hi hy; subst hi; exact hy.symm
    | succ i => exact h3 i v y (by simpa using hi) (by simpa using hy)
  | @cell t ty n k l rs cs h ho hp ht hs _ ih =>
    obtain ⟨ys, h1, h2, h3⟩ := ih
    have hv := hr.fr t
    rw [h] at hv
    obtain ⟨fp', hr'⟩ := hr.front ho
    obtain ⟨b, tb, cc, fp1, fp2, hk, hρ, hρb, hb, hs', hl, hm, hE, _, _⟩ := hr'.O.head (by simp) hv.ptr_pos
    have h4 := hE.cellsL
    simp only [RV.cellsL] at h4
    have hfe := h4.plain_fpL hp
    subst hfe
    have h5 := hv.ptr_inv
    simp only [hρb, Option.map_some, Nat.zero_mul, Nat.add_zero] at h5
    have hlen := h4.length
    have hw := hE.width
    simp only [RV.width] at hw
    have hload := run_load_a (P := P) (a := ⟨b, 0, none⟩) ht (cs := cc.toList.take ([RV.agg l].length * k)) (by omega) (by omega) (OE.block hb _)
    refine ⟨.agg (cc.toList.take ([RV.agg l].length * k)).toArray :: ys, by simp [h1], SL.cons (fp1 := []) (.agg (by simpa using h4)) h2, ?_⟩
    intro i v y hi hy
    cases i with
    | zero =>
      simp at hi hy
      subst hi
      subst hy
      exact ⟨_, h5, by simpa using hload⟩
    | succ i => exact h3 i v y (by simpa using hi) (by simpa using hy)

def packV : List Value → Value | [y] => y | l => .tuple l.toArray

theorem run_results {P : Program} {fn : Func} {tmps : Array Value} {w : World} {rs : List ResultVar} {ys : List Value} (hf : fn.results = rs.toArray) (hl : ys.length = rs.length) (h : ∀ (i : Nat) (v : ResultVar) (y : Value), rs[i]? = some v → ys[i]? = some y → resRun P tmps w v y) (h4 : rs.length ≤ 4) :
    (results fn tmps).run P w = .ok (packV ys) w := by
  match rs, ys, hl, h4 with
  | [], [], _, _ => simp [results, hf, packV]
  | [v1], [y1], _, _ =>
    have f1 := h 0 _ _ rfl rfl
    cases v1 <;> simp only [resRun, Array.getD_eq_getD_getElem?] at f1 <;> (try obtain ⟨a1, p1, q1⟩ := f1) <;> simp [results, packV, asAddr, *]
  | [v1, v2], [y1, y2], _, _ =>
    have f1 := h 0 _ _ rfl rfl
    have f2 := h 1 _ _ rfl rfl
    cases v1 <;> cases v2 <;> simp only [resRun, Array.getD_eq_getD_getElem?] at f1 f2 <;> (try obtain ⟨a1, p1, q1⟩ := f1) <;> (try obtain ⟨a2, p2, q2⟩ := f2) <;> simp [results, packV, asAddr, *]
  | [v1, v2, v3], [y1, y2, y3], _, _ =>
    have f1 := h 0 _ _ rfl rfl
    have f2 := h 1 _ _ rfl rfl
    have f3 := h 2 _ _ rfl rfl
    cases v1 <;> cases v2 <;> cases v3 <;> simp only [resRun, Array.getD_eq_getD_getElem?] at f1 f2 f3 <;> (try obtain ⟨a1, p1, q1⟩ := f1) <;> (try obtain ⟨a2, p2, q2⟩ := f2) <;> (try obtain ⟨a3, p3, q3⟩ := f3) <;> simp [results, packV, asAddr, *]
  | [v1, v2, v3, v4], [y1, y2, y3, y4], _, _ =>
    have f1 := h 0 _ _ rfl rfl
    have f2 := h 1 _ _ rfl rfl
    have f3 := h 2 _ _ rfl rfl
    have f4 := h 3 _ _ rfl rfl
    cases v1 <;> cases v2 <;> cases v3 <;> cases v4 <;> simp only [resRun, Array.getD_eq_getD_getElem?] at f1 f2 f3 f4 <;> (try obtain ⟨a1, p1, q1⟩ := f1) <;> (try obtain ⟨a2, p2, q2⟩ := f2) <;> (try obtain ⟨a3, p3, q3⟩ := f3) <;> (try obtain ⟨a4, p4, q4⟩ := f4) <;> simp [results, packV, asAddr, *]

def packR : List RV → RV | [r] => r | l => .tup l

theorem ends_of {P fn s rs cs cs' O' r e} (he : e = Exit.ret ∨ e = Exit.normal) (hf : fn.results = rs.toArray) (h4 : rs.length ≤ 4) (h : ResL P s rs cs) (hag : ∀ l1, .agg l1 ∈ cs → ∀ r ∈ l1, r.isAgg = false) (hs : SealL s.O cs cs' O') (hr : packR cs' = r) :
    Ends P fn (fun rv O => rv = r ∧ O = []) e s := by
  have main : ∀ E a w, Rel E s a w → ∃ v rv Oout F ρ fp1 fp2, (results fn a.tmps).run P w = .ok v w ∧ (rv = r ∧ Oout = []) ∧ SV w F ρ rv v fp1 ∧ OL w F ρ Oout fp2 ∧ (fp1 ++ fp2).Nodup ∧
      (∀ b ∈ fp1 ++ fp2, ¬ F b ∧ (E.B0 b ∨ E.w0.heap.size ≤ b)) ∧ (∀ b, E.F0 b → F b) ∧ (∀ b, F b → (E.F0 b ∨ E.B0 b ∨ E.w0.heap.size ≤ b) ∧ b < w.heap.size) ∧ ∀ n, 1000000000000 ≤ n → ρ n = E.ρ0 n := by
    rintro E a w ⟨F, ρ, fp, hrel⟩
    obtain ⟨ys, h1, h2, h3⟩ := h.run hrel
    obtain ⟨fp1, fp2, h5, h6, h7⟩ := hs.all h2 hag hrel.O
    have hnd : fp1.Nodup := (List.nodup_append.1 (h7.nodup_iff.2 hrel.nodup)).1
    refine ⟨_, r, [], F, ρ, fp1, [], run_results hf h1 h3 h4, ⟨rfl, rfl⟩, ?_, .nil hrel.O.gok, by simpa using hnd, ?_, hrel.F0, fun b hb => ⟨hrel.Fn b hb, hrel.Fs b hb⟩, hrel.pin⟩
    · have hlen := h5.length
      subst hr
      match cs', ys, h5, hlen with
      | [c], [y], h5, _ =>
        cases h5 with
        | cons h8 h9 => cases h9; rw [List.append_nil]; exact .one h8
      | [], [], h5, _ => exact .tup (c := #[]) (by simpa using h5)
      | _ :: _ :: _, _ :: _ :: _, h5, _ => exact .tup (by simpa using h5)
    · intro b hb
      simp only [List.append_nil] at hb
      have hm : b ∈ fp := h7.mem_iff.1 (by simp [hb])
      exact ⟨hrel.fpF b hm, hrel.fpE b hm⟩
  rcases he with rfl | rfl <;> exact main

end Eng
end Go.Proofs.YtmfbcipjknjicaaGreatDoor

/- The engine, part N: the steps that walks take, in the forms in which they are called (behind structures, so that no search looks into them). No condition. -/
namespace Go.Proofs.YtmfbcipjknjicaaGreatDoor
set_option linter.unusedSectionVars false
variable [One Bool]
namespace Eng
open Go.RowKit

theorem gw_mono {P c R R' s} (hr : ∀ e s, R e s → R' e s) (h : GW P c R s) : GW P c R' s := fun E a w hx => wp_mono (h E a w hx) fun e _ _ ⟨s', h1, h2⟩ => ⟨s', hr e s' h1, h2⟩
structure W (P : Program) (c : Code) (R : Exit → St → Prop) (s : St) : Prop where
  out : GW P c R s
structure L (P : Program) (ops : Array Oper) (l : List Oper) (R : St → Prop) (s : St) : Prop where
  out : GR P ops l R s
structure RT (next : St → Prop) (R : Exit → St → Prop) (e : Exit) (s : St) : Prop where
  out : Rthen next R e s
structure RB (id : Nat) (R : Exit → St → Prop) (e : Exit) (s : St) : Prop where
  out : Rblock id R e s
structure EN (P : Program) (fn : Func) (Post : RV → List Bk → Prop) (e : Exit) (s : St) : Prop where
  out : Ends P fn Post e s
structure OP (P : Program) (o : Oper) (s s' : St) : Prop where
  out : OpS P o s s'
structure LE (s s' : St) : Prop where
  out : Le s s'
structure RN {ι : Type} (I : ι → St) (C : ι → Prop) (μ : ι → Nat) (i : ι) (s : St) : Prop where
  out : ∃ j, C j ∧ μ j < μ i ∧ Le s (I j)

theorem w_seq {P x y R s} (h : W P x (RT (W P y R) R) s) : W P (.seq x y) R s := ⟨gw_seq (gw_mono (fun e s h => by have := h.out; cases e <;> first | exact this.out | exact this) h.out)⟩
theorem w_block {P id c R s} (h : W P c (RB id R) s) : W P (.block id c) R s := ⟨gw_block (gw_mono (fun _ _ h => h.out) h.out)⟩
theorem w_skip {P R s} (h : R .normal s) : W P .skip R s := ⟨gw_skip h⟩
theorem w_exit {P id R s} (h : R (.exit id) s) : W P (.exit id) R s := ⟨gw_exit h⟩
theorem w_ret {P R s} (h : R .ret s) : W P .ret R s := ⟨gw_ret h⟩
theorem w_region {P id l R s} (h : L P l.toArray l (R .normal) s) : W P (.region id l.toArray false) R s := ⟨gw_region h.out⟩
theorem w_cond {P c x y R s b} (hc : s.get c = .v (.bool b)) (ht : b = true → W P x R s) (hf : b = false → W P y R s) : W P (.cond c x y) R s := ⟨gw_cond hc (fun h => (ht h).out) (fun h => (hf h).out)⟩
theorem w_cond_t {P c x y R s} (hc : s.get c = .v (.bool true)) (h : W P x R s) : W P (.cond c x y) R s := ⟨gw_cond_t hc h.out⟩
theorem w_cond_f {P c x y R s} (hc : s.get c = .v (.bool false)) (h : W P y R s) : W P (.cond c x y) R s := ⟨gw_cond_f hc h.out⟩
theorem w_le {P c R s} (s' : St) (hl : LE s s') (h : W P c R s') : W P c R s := ⟨gw_le s' hl.out h.out⟩
theorem w_loop {P c R s} {ι : Type} (I : ι → St) (C : ι → Prop) (μ : ι → Nat) (i0 : ι) (h0 : C i0) (hs : LE s (I i0)) (round : ∀ i, C i → W P c (RT (RN I C μ i) R) (I i)) : W P (.loop c) R s :=
  ⟨gw_loop I C μ i0 h0 hs.out fun i hi => gw_mono (fun e s h => by have := h.out; cases e <;> first | exact this.out | exact this) (round i hi).out⟩
theorem rn_mk {ι : Type} {I : ι → St} {C : ι → Prop} {μ : ι → Nat} {i : ι} {s : St} (j : ι) (hC : C j) (hμ : μ j < μ i) (hl : LE s (I j)) : RN I C μ i s := ⟨j, hC, hμ, hl.out⟩

theorem l_nil {P ops R s} (h : R s) : L P ops [] R s := ⟨gr_nil h⟩
theorem l_le {P ops l R s} (s' : St) (hl : LE s s') (h : L P ops l R s') : L P ops l R s := ⟨gr_le s' hl.out h.out⟩
theorem rt_n {next R s} (h : next s) : RT next R .normal s := ⟨h⟩
theorem rt_ret {next R s} (h : R .ret s) : RT next R .ret s := ⟨h⟩
theorem rt_exit {next R id s} (h : R (.exit id) s) : RT next R (.exit id) s := ⟨h⟩
theorem rb_n {id R s} (h : R .normal s) : RB id R .normal s := ⟨h⟩
theorem rb_ret {id R s} (h : R .ret s) : RB id R .ret s := ⟨h⟩
theorem rb_eq {id R s} (h : R .normal s) : RB id R (.exit id) s := ⟨by simpa [Rblock] using h⟩
theorem rb_ne {id id' R s} (hne : (id' == id) = false) (h : R (.exit id') s) : RB id R (.exit id') s := by
  have : ¬ id' = id := by simpa using hne
  exact ⟨by simpa [Rblock, this] using h⟩

theorem l_op {P ops o rest R fr O s' fr' O'} (hg : o.guard = none := by rfl) (h : OpS P o ⟨fr, O⟩ s' := by first | exact ops_move | exact ops_assign | (apply k_load; first | exact ops_load_psh rfl rfl (by decide +kernel) | exact ops_load_psha rfl (by decide +kernel) (by kernel_rfl) (by simp) | exact ops_load_map rfl rfl (by omega) rfl (by decide +kernel) | exact ops_load_mapa rfl rfl (by omega) rfl (by decide +kernel) (by kernel_rfl) | exact ops_load_mapj rfl rfl (by omega) rfl rfl (by decide +kernel) | exact ops_load_ptr rfl rfl rfl rfl rfl (by decide +kernel) | exact ops_load_ptra rfl rfl rfl rfl (by decide +kernel) (by kernel_rfl) | fail) | (apply k_fieldAddr; first | exact ops_fld_psh (off := 0) rfl (by decide +kernel) rfl | exact ops_fld_psh (off := 1) rfl (by decide +kernel) rfl | exact ops_fld_psh (off := 2) rfl (by decide +kernel) rfl | exact ops_fld_psh (off := 3) rfl (by decide +kernel) rfl | exact ops_fld_ptr (off := 0) rfl (by decide +kernel) rfl (by first | (simp; done) | (simp; omega) | fail) | exact ops_fld_ptr (off := 1) rfl (by decide +kernel) rfl (by first | (simp; done) | (simp; omega) | fail) | exact ops_fld_ptr (off := 2) rfl (by decide +kernel) rfl (by first | (simp; done) | (simp; omega) | fail) | exact ops_fld_ptr (off := 3) rfl (by decide +kernel) rfl (by first | (simp; done) | (simp; omega) | fail) | exact ops_fld_map (off := 0) rfl (by decide +kernel) rfl (by omega) | exact ops_fld_map (off := 1) rfl (by decide +kernel) rfl (by omega) | exact ops_fld_map (off := 2) rfl (by decide +kernel) rfl (by omega) | exact ops_fld_map (off := 3) rfl (by decide +kernel) rfl (by omega) | fail) | (apply k_indexAddr; first | exact ops_idx_map rfl rfl (by omega) (by kernel_rfl) (by kernel_rfl) | exact ops_idx_refm rfl rfl (by omega) rfl (by omega) (by kernel_rfl) (by kernel_rfl) | exact ops_idx_mapI rfl rfl (by omega) (by omega) (by kernel_rfl) (by kernel_rfl) | exact ops_idx_refmI rfl rfl (by omega) (by omega) rfl (by omega) (by kernel_rfl) (by kernel_rfl) | exact ops_idx_ref rfl rfl (by omega) rfl (by simp) (by kernel_rfl) (by kernel_rfl) | fail) | (apply k_store; first | exact ops_store_sealm rfl rfl rfl (by omega) rfl (by kernel_rfl) rfl (by simp) (by simp [nm, nset, -List.map_take, -List.map_drop]) (by decide) | exact ops_store_map rfl rfl rfl (by omega) rfl rfl (by kernel_rfl) | exact ops_store rfl rfl rfl rfl (by simp [RV.cellsL]) rfl (by kernel_rfl) | exact ops_storea rfl rfl rfl rfl rfl rfl (by kernel_rfl) | exact ops_storea_map rfl rfl rfl (by omega) rfl rfl (by kernel_rfl) | fail) | (apply k_pick; first | exact ops_pick_t rfl | exact ops_pick_f rfl | exact ops_pick_b rfl rfl rfl | exact ops_pick_i rfl rfl rfl | fail) | (apply k_not; first | exact ops_not rfl | fail) | (apply k_bin; first | (apply k_add; first | exact ops_inc rfl (by omega) | exact ops_add rfl rfl (by omega) (by omega) | exact ops_cat rfl rfl (by omega) | fail) | (apply k_sub; first | exact ops_sub rfl rfl (by omega) (by omega) | fail) | (apply k_lss; first | exact ops_lss rfl rfl | exact ops_lts rfl rfl | fail) | (apply k_leq; first | exact ops_leq rfl rfl | fail) | (apply k_gtr; first | exact ops_gtr rfl rfl | fail) | (apply k_geq; first | exact ops_geq rfl rfl | exact ops_ges rfl rfl | fail) | (apply k_eql; first | exact ops_eqi rfl rfl | exact ops_eqs rfl rfl | exact ops_eqb rfl rfl (by kernel_rfl) | fail) | (apply k_neq; first | exact ops_nei rfl rfl | exact ops_nes rfl rfl | exact ops_neb rfl rfl (by kernel_rfl) | fail) | (apply k_quo; first | exact ops_quon rfl rfl (by omega) (by omega) | exact ops_quo rfl rfl (by omega) (by omega) (by omega) | fail) | (apply k_rem; first | exact ops_remn rfl rfl (by omega) | exact ops_rem rfl rfl (by omega) | fail) | (apply k_and; first | exact ops_andn rfl rfl (by omega) (by omega) | fail) | (apply k_or; first | exact ops_orn rfl rfl (by omega) (by omega) | fail) | (apply k_xor; first | exact ops_xorn rfl rfl (by omega) (by omega) | fail) | fail) | (apply k_bui; first | (apply k_len; first | exact ops_len_sh rfl (by kernel_rfl) | exact ops_len_ref rfl (by kernel_rfl) | exact ops_len_nil rfl (by kernel_rfl) | exact ops_lens rfl (by kernel_rfl) | fail) | (apply k_append; first | exact ap_seal rfl rfl rfl rfl rfl (by simp) rfl (by simp) (by simp [nm, nset, oerase, St.get, lget, -List.map_take, -List.map_drop]) (by decide) (by decide) (by decide) (by simp [nm, nset, oerase, St.get, lget, -List.map_take, -List.map_drop]) (by simp [nm, nset, oerase, St.get, lget, -List.map_take, -List.map_drop]) ⟨by kernel_rfl, by kernel_rfl, by kernel_rfl, by kernel_rfl⟩ (by simp; omega) | exact ap_own rfl rfl rfl rfl (by decide) (by simp) (by simp) (by simp) (by simp [nm, nset, oerase, St.get, lget, -List.map_take, -List.map_drop]) (by simp [nm, nset, oerase, St.get, lget, -List.map_take, -List.map_drop]) (by simp [nm, nset, oerase, St.get, lget, -List.map_take, -List.map_drop]) ⟨by kernel_rfl, by kernel_rfl, by kernel_rfl, by kernel_rfl⟩ (by simp; omega) | exact ap_sh rfl rfl rfl (by simp) (by first | exact wd_all fun _ => rfl | simp [RV.width]) (by simp [nm, nset, oerase, St.get, lget, -List.map_take, -List.map_drop]) (by simp [nm, nset, oerase, St.get, lget, -List.map_take, -List.map_drop]) ⟨by kernel_rfl, by kernel_rfl, by kernel_rfl, by kernel_rfl⟩ (by simp; omega) | exact ap_nil rfl rfl rfl (by decide) (by simp) (by simp) (by decide) (by simp) (by simp [nm, nset, oerase, St.get, lget, -List.map_take, -List.map_drop]) (by simp [nm, nset, oerase, St.get, lget, -List.map_take, -List.map_drop]) (by simp [nm, nset, oerase, St.get, lget, -List.map_take, -List.map_drop]) (by simp [nm, nset, oerase, St.get, lget, -List.map_take, -List.map_drop]) ⟨by kernel_rfl, by kernel_rfl, by kernel_rfl, by kernel_rfl⟩ (by simp; omega) | exact ap_nilsh rfl rfl (by decide) (by simp) (by first | exact wd_all fun _ => rfl | simp [RV.width]) (by simp [nm, nset, oerase, St.get, lget, -List.map_take, -List.map_drop]) (by simp [nm, nset, oerase, St.get, lget, -List.map_take, -List.map_drop]) ⟨by kernel_rfl, by kernel_rfl, by kernel_rfl, by kernel_rfl⟩ (by simp; omega) | fail) | (apply k_max; first | exact ops_max rfl rfl | fail) | (apply k_min; first | exact ops_min rfl rfl | fail) | fail) | (apply k_extract; first | exact ops_extract rfl rfl | fail) | (apply k_nilCheck; first | exact ops_nilCheck rfl rfl (by simp) | fail) | (apply k_index; first | exact ops_byte rfl rfl (List.getElem?_eq_getElem (by omega)) (by kernel_rfl) | fail) | (apply k_convert; first | exact ops_convb rfl (by kernel_rfl) (by kernel_rfl) | exact ops_conv64 rfl (by kernel_rfl) (by kernel_rfl) (by omega) (by omega) | exact ops_conv8 rfl (by kernel_rfl) (by kernel_rfl) (by omega) | fail) | (apply k_field; first | exact ops_field (off := 0) rfl rfl rfl (by decide +kernel) | exact ops_field (off := 1) rfl rfl rfl (by decide +kernel) | exact ops_field (off := 2) rfl rfl rfl (by decide +kernel) | exact ops_field (off := 3) rfl rfl rfl (by decide +kernel) | fail) | (apply k_build; first | exact ops_build (zs := [_, _]) rfl (by kernel_rfl) rfl rfl rfl | exact ops_build (zs := [_]) rfl (by kernel_rfl) rfl rfl rfl | exact ops_build (zs := [_, _, _]) rfl (by kernel_rfl) rfl rfl rfl | exact ops_build (zs := [_, _, _, _]) rfl (by kernel_rfl) rfl rfl rfl | fail) | (apply k_slice; first | exact ops_scut rfl rfl rfl (by omega) (by omega) (by kernel_rfl) | exact ops_scutl rfl rfl (by omega) (by kernel_rfl) | exact ops_scuth rfl rfl (by omega) (by kernel_rfl) | exact ops_rcuth rfl rfl rfl (by first | omega | (simp; omega)) (by intro h; have := congrArg List.length h; simp only [List.length_map, List.length_append, List.length_set, List.length_cons, List.length_nil] at this; omega) (by kernel_rfl) (by kernel_rfl) | exact ops_cutm rfl rfl rfl (by omega) (by omega) (by kernel_rfl) (by kernel_rfl) (by decide) (fun _ => rfl) | exact ops_cutlm rfl rfl (by omega) (by kernel_rfl) (by kernel_rfl) (by decide) (fun _ => rfl) | exact ops_cuthm rfl rfl (by omega) (by kernel_rfl) (by kernel_rfl) (by decide) (fun _ => rfl) | exact ops_cut rfl rfl rfl (by simp; omega) (by simp; omega) (by kernel_rfl) (by kernel_rfl) (by decide) (wd_map fun _ => rfl) | exact ops_cutl rfl rfl (by simp; omega) (by kernel_rfl) (by kernel_rfl) (by decide) (wd_map fun _ => rfl) | exact ops_cuth rfl rfl (by simp; omega) (by kernel_rfl) (by kernel_rfl) (by decide) (wd_map fun _ => rfl) | fail) | (apply k_neg; first | exact ops_neg rfl (by omega) (by omega) | fail) | (apply k_alloc; first | exact ops_alloca (zs := _) rfl (by decide) rfl (by simp [nm, nset, -List.map_take, -List.map_drop]) (by simp [nm, nset, -List.map_take, -List.map_drop]) | exact ops_alloc rfl rfl (by simp [nm, nset, -List.map_take, -List.map_drop]) (by simp [nm, nset, -List.map_take, -List.map_drop]) | fail) | (apply k_box; first | exact ops_box (r := _) rfl rfl (by simp [nm, nset, -List.map_take, -List.map_drop]) (by simp [nm, nset, -List.map_take, -List.map_drop]) (by simp [nm, nset, -List.map_take, -List.map_drop]) | exact ops_boxa rfl (by simp) (by simp [nm, nset, -List.map_take, -List.map_drop]) (by simp [nm, nset, -List.map_take, -List.map_drop]) (by simp [nm, nset, -List.map_take, -List.map_drop]) | fail) | (apply k_buildSlice; first | exact ops_buildSlice (k := 1) rfl rfl rfl (by decide) (by decide) (by kernel_rfl) (by decide +kernel) rfl (by simp [nm, nset, -List.map_take, -List.map_drop]) (by simp [nm, nset, oerase, St.get, lget, -List.map_take, -List.map_drop]) (by simp [nm, nset, oerase, St.get, lget, -List.map_take, -List.map_drop]) | exact ops_buildSlice (k := 2) rfl rfl rfl (by decide) (by decide) (by kernel_rfl) (by decide +kernel) rfl (by simp [nm, nset, -List.map_take, -List.map_drop]) (by simp [nm, nset, oerase, St.get, lget, -List.map_take, -List.map_drop]) (by simp [nm, nset, oerase, St.get, lget, -List.map_take, -List.map_drop]) | exact ops_buildSlice (k := 4) rfl rfl rfl (by decide) (by decide) (by kernel_rfl) (by decide +kernel) rfl (by simp [nm, nset, -List.map_take, -List.map_drop]) (by simp [nm, nset, oerase, St.get, lget, -List.map_take, -List.map_drop]) (by simp [nm, nset, oerase, St.get, lget, -List.map_take, -List.map_drop]) | fail) | (apply k_makeSlice; first | exact ops_makeSlice_nil rfl rfl (by kernel_rfl) (by kernel_rfl) rfl (by kernel_rfl) (by omega) (by simp [nm, nset, -List.map_take, -List.map_drop]) (by simp [nm, nset, -List.map_take, -List.map_drop]) | exact ops_makeSlice rfl rfl (by kernel_rfl) (by kernel_rfl) rfl rfl (by kernel_rfl) (by omega) (by simp [nm, nset, -List.map_take, -List.map_drop]) (by simp [nm, nset, -List.map_take, -List.map_drop]) | exact ops_makeSlicea (zs := [_, _]) rfl rfl (by kernel_rfl) (by kernel_rfl) rfl (by decide) rfl (by kernel_rfl) (by omega) (by simp [nm, nset, -List.map_take, -List.map_drop]) (by simp [nm, nset, -List.map_take, -List.map_drop]) | fail) | fail) (e : s' = ⟨fr', O'⟩ := by simp only [nz, nf, nl, nb, nr, ng, nq, nu, reduceIte, Nat.reduceEqDiff, Nat.reduceAdd]; rfl) (hk : L P ops rest R ⟨fr', O'⟩) : L P ops (o :: rest) R ⟨fr, O⟩ := by
  subst e; exact ⟨gr_op _ hg h hk.out⟩
theorem l_y {P ops d op ty pos after j want rest R fr O t b} (hj : gslot ops j = some t) (ht : lget fr t = .v (.bool b)) (hb : b = want) (hk : L P ops (⟨d, op, ty, pos, after, none⟩ :: rest) R ⟨fr, O⟩) : L P ops (⟨d, op, ty, pos, after, some (j, want)⟩ :: rest) R ⟨fr, O⟩ := by
  subst hb
  refine ⟨fun E a w hr Q hQ => ?_⟩
  have h := hk.out E a w hr Q hQ
  have hbt := hr.bool ht
  have hw : Region.wanted ⟨d, op, ty, pos, after, some (j, b)⟩ (yielded ops a.tmps) = true := by simp only [gslot] at hj; simp [Region.wanted, yielded, hj, hbt]
  have hw2 : Region.wanted ⟨d, op, ty, pos, after, none⟩ (yielded ops a.tmps) = true := rfl
  unfold wpList at h ⊢
  rw [if_pos hw2] at h
  rw [if_pos hw]
  exact h
theorem l_n {P ops o rest R fr O fr' j want t b} (hg : o.guard = some (j, want)) (hj : gslot ops j = some t) (ht : lget fr t = .v (.bool b)) (hb : b = !want) (e : sput o.dst (.v undef) fr = fr' := by simp only [nz, nf, nl, nb, nr, ng, nq, nu, reduceIte, Nat.reduceEqDiff, Nat.reduceAdd]; rfl) (hk : L P ops rest R ⟨fr', O⟩) : L P ops (o :: rest) R ⟨fr, O⟩ := by
  subst e; subst hb; exact ⟨gr_step _ (.no2 hg hj ht (by cases want <;> rfl)) hk.out⟩
theorem l_n' {P ops o rest R fr O fr' j want t} (hg : o.guard = some (j, want)) (hj : gslot ops j = some t) (ht : lget fr t = .v undef) (e : sput o.dst (.v undef) fr = fr' := by simp only [nz, nf, nl, nb, nr, ng, nq, nu, reduceIte, Nat.reduceEqDiff, Nat.reduceAdd]; rfl) (hk : L P ops rest R ⟨fr', O⟩) : L P ops (o :: rest) R ⟨fr, O⟩ := by
  subst e; exact ⟨gr_step _ (.no' hg hj ht) hk.out⟩

theorem fc_in {P f fn c args Oin Post fr} (hf : P.funcs[f]? = some fn) (hb : fn.body = some c) (e : args ++ anys (fn.ntmps - args.length) = fr) (h : W P c (EN P fn Post) ⟨fr, Oin⟩) : FC P f args Oin Post := by
  subst e; exact fc_enter hf hb (gw_mono (fun _ _ h => h.out) h.out)
theorem fcr_in {P f fn c args r fr} (hf : P.funcs[f]? = some fn) (hb : fn.body = some c) (e : args ++ anys (fn.ntmps - args.length) = fr) (h : W P c (EN P fn fun rv O => rv = r ∧ O = []) ⟨fr, []⟩) : FCr P f args r := fc_in hf hb e h

theorem en_one {P fn s r e t} (he : e = Exit.ret ∨ e = Exit.normal := by first | exact .inl rfl | exact .inr rfl) (hf : fn.results = #[.tmp t]) (hn : r.notTup = true := by rfl) (ha : r.isAgg = false := by rfl) (h : lget s.fr t = r) : EN P fn (fun rv O => rv = r ∧ O = []) e s :=
  ⟨ends_of (cs := [r]) (cs' := [r]) he hf (by simp) (.tmp h hn .nil) (by intro l hl; simp at hl; subst hl; simp [RV.isAgg] at ha) (.keep .nil) rfl⟩
theorem en_of {P fn s rs cs cs' O' r e} (he : e = Exit.ret ∨ e = Exit.normal) (hf : fn.results = rs.toArray) (h4 : rs.length ≤ 4) (h : ResL P s rs cs) (hag : ∀ l1, .agg l1 ∈ cs → ∀ r ∈ l1, r.isAgg = false) (hs : SealL s.O cs cs' O') (hr : packR cs' = r) : EN P fn (fun rv O => rv = r ∧ O = []) e s :=
  ⟨ends_of he hf h4 h hag hs hr⟩

theorem le_frame {fr fr' : List RV} {O : List Bk} (h : Wk fr fr') : LE ⟨fr, O⟩ ⟨fr', O⟩ := ⟨Le.frame h⟩
theorem le_refl (s : St) : LE s s := ⟨Le.refl s⟩
theorem le_eq {fr fr' fr'' : List RV} {O O' : List Bk} (h : Wk fr fr') (e1 : fr' = fr'') (e2 : O = O') : LE ⟨fr, O⟩ ⟨fr'', O'⟩ := by subst e1; subst e2; exact le_frame h
theorem le_trans {a b c : St} (h : LE a b) (k : LE b c) : LE a c := ⟨h.out.trans k.out⟩

end Eng
end Go.Proofs.YtmfbcipjknjicaaGreatDoor

/- The engine, part O: a region that draws its order. Operations that only read float; the others keep their order. No condition. -/
namespace Go.Proofs.YtmfbcipjknjicaaGreatDoor
set_option linter.unusedSectionVars false
variable [One Bool]
namespace Eng
open Go.RowKit

def grd (ops : Array Oper) (o : Oper) : Option Tmp := match o.guard with | some (j, _) => gslot ops j | none => none

def Agree (ops : Array Oper) (o : Oper) (s s2 : St) : Prop := (∀ x ∈ o.op.operands.toList, s2.get x = s.get x) ∧ ∀ t, grd ops o = some t → lget s2.fr t = lget s.fr t

def Fl (P : Program) (ops : Array Oper) (RO : Nat → Bool) (o : Oper) (s : St) (r : RV) : Prop :=
  ∀ s2, Agree ops o s s2 → (∀ n, RO n = true → olook n s2.O = olook n s.O) → OpG P ops o s2 ⟨sput o.dst r s2.fr, s2.O⟩
def Ef (P : Program) (ops : Array Oper) (new : List Nat) (o : Oper) (s : St) (r : RV) (O' : List Bk) : Prop :=
  ∀ s2, Agree ops o s s2 → s2.O = s.O → (∀ m ∈ new, m ∉ RV.namesL s2.fr) → OpG P ops o s2 ⟨sput o.dst r s2.fr, O'⟩

def DR (P : Program) (ops : Array Oper) (RO : Nat → Bool) (eff : Nat → Bool) (ALL : List Nat) (R : St → Prop) : List Nat → List (List Nat) → St → Prop
  | [], _, s => R s
  | i :: rest, news, s => ∃ o r, ops[i]? = some o ∧
    if eff i then ∃ new news' O', news = new :: news' ∧ (∀ m ∈ r.names, m ∉ news'.flatten) ∧ (∀ n, RO n = true → olook n O' = olook n s.O) ∧ Ef P ops new o s r O' ∧ DR P ops RO eff ALL R rest news' ⟨sput o.dst r s.fr, O'⟩
    else (∀ m ∈ r.names, m ∉ ALL) ∧ Fl P ops RO o s r ∧ DR P ops RO eff ALL R rest news ⟨sput o.dst r s.fr, s.O⟩

def rdsB (ops : Array Oper) (o : Oper) (d : Option Tmp) : Bool := match d with
  | none => false
  | some d => o.op.operands.any (fun x => match x with | .tmp t => t == d | _ => false) || grd ops o == some d
def indepB (ops : Array Oper) (eff : Nat → Bool) (k i : Nat) : Bool := match ops[k]?, ops[i]? with
  | some ok, some oi => !rdsB ops oi ok.dst && !rdsB ops ok oi.dst && (ok.dst.isNone || ok.dst != oi.dst) && !(eff k && eff i)
  | _, _ => false
def depB (ops : Array Oper) : Nat → Nat → Nat → Bool
  | 0, _, _ => false
  | f + 1, i, k => match ops[i]? with
    | none => false
    | some o => o.after.any (fun e => Region.binds .any e && e.on == k) || o.after.any (fun e => Region.binds .any e && depB ops f e.on k)
def drawOk (ops : Array Oper) (eff : Nat → Bool) (fuel : Nat) : Bool :=
  (List.range ops.size).all fun i => ((ops[i]?).map fun o => o.after.all fun e => !Region.binds .any e || decide (e.on < i)).getD false && (List.range i).all fun k => indepB ops eff k i || depB ops fuel i k

theorem sput_comm {d e : Option Tmp} {r q : RV} (fr : List RV) (h : d = none ∨ d ≠ e) : sput d r (sput e q fr) = sput e q (sput d r fr) := by
  have key : ∀ (l : List RV) (a b : Nat), a ≠ b → lset (lset l b q) a r = lset (lset l a r) b q := by
    intro l
    induction l with
    | nil => intro a b _; rfl
    | cons x xs ih =>
      intro a b hab
      cases a <;> cases b <;> simp [lset] at hab ⊢
      exact ih _ _ hab
  cases d with
  | none => rfl
  | some d => cases e with
    | none => rfl
    | some e => exact key fr d e (by rcases h with h | h; · cases h
                                     · exact fun he => h (by rw [he]))

theorem get_sput {d : Option Tmp} {r : RV} {fr : List RV} {O O' : List Bk} {x : Operand} (h : ∀ t, d = some t → x ≠ .tmp t) : (⟨sput d r fr, O⟩ : St).get x = (⟨fr, O'⟩ : St).get x := by
  cases d with
  | none => cases x <;> rfl
  | some d => cases x with
    | tmp t =>
      simp only [St.get, sput, lget_lset]
      rw [if_neg]
      rintro ⟨rfl, _⟩
      exact h _ rfl rfl
    | _ => rfl
theorem lget_sput {d : Option Tmp} {r : RV} {fr : List RV} {t : Tmp} (h : d ≠ some t) : lget (sput d r fr) t = lget fr t := by
  cases d with
  | none => rfl
  | some d =>
    simp only [sput, lget_lset]
    rw [if_neg]
    rintro ⟨rfl, _⟩
    exact h rfl

theorem agree_put {ops : Array Oper} {o : Oper} {d : Option Tmp} (h : rdsB ops o d = false) (fr : List RV) (r : RV) (O O' : List Bk) : Agree ops o ⟨fr, O⟩ ⟨sput d r fr, O'⟩ ∧ Agree ops o ⟨sput d r fr, O'⟩ ⟨fr, O⟩ := by
  have h1 : ∀ x ∈ o.op.operands.toList, ∀ t, d = some t → x ≠ .tmp t := by
    rintro x hx t rfl rfl
    simp only [rdsB, Bool.or_eq_false_iff] at h
    have := h.1
    rw [Array.any_eq_false'] at this
    have := this (.tmp t) (by simpa using hx)
    simp at this
  have h2 : ∀ t, grd ops o = some t → d ≠ some t := by
    rintro t ht rfl
    simp [rdsB, ht] at h
  exact ⟨⟨fun x hx => get_sput (h1 x hx), fun t ht => lget_sput (h2 t ht)⟩, ⟨fun x hx => (get_sput (h1 x hx)).symm, fun t ht => (lget_sput (h2 t ht)).symm⟩⟩

theorem Agree.trans {ops o} {a b c : St} (h : Agree ops o a b) (k : Agree ops o b c) : Agree ops o a c := ⟨fun x hx => (k.1 x hx).trans (h.1 x hx), fun t ht => (k.2 t ht).trans (h.2 t ht)⟩

section
variable {P : Program} {ops : Array Oper} {RO : Nat → Bool} {eff : Nat → Bool} {ALL : List Nat} {R : St → Prop}

theorem DR.swap {k i : Nat} {rest : List Nat} {news : List (List Nat)} {s : St} (h : DR P ops RO eff ALL R (k :: i :: rest) news s) (hi : indepB ops eff k i = true) : DR P ops RO eff ALL R (i :: k :: rest) news s := by
  obtain ⟨ok, rk, hok, h⟩ := h
  unfold indepB at hi
  simp only [hok] at hi
  cases hoi : ops[i]? with
  | none => simp [hoi] at hi
  | some oi =>
    simp only [hoi, Bool.and_eq_true, Bool.not_eq_true', Bool.or_eq_true, bne_iff_ne, Option.isNone_iff_eq_none] at hi
    obtain ⟨⟨⟨hi1, hi2⟩, hi3⟩, hi4⟩ := hi
    cases hek : eff k with
    | false =>
      simp only [hek, Bool.false_eq_true, if_false] at h
      obtain ⟨hn, hf, oi', ri, hoi', h⟩ := h
      rw [hoi] at hoi'; cases hoi'
      have hfk : ∀ (O' : List Bk), (∀ n, RO n = true → olook n O' = olook n s.O) → Fl P ops RO ok ⟨sput oi.dst ri s.fr, O'⟩ rk := fun O' hO' s2 ha hO =>
        hf s2 ((agree_put hi2 s.fr ri s.O O').1.trans ha) fun n hn => (hO n hn).trans (hO' n hn)
      cases hei : eff i with
      | false =>
        simp only [hei, Bool.false_eq_true, if_false] at h
        obtain ⟨hn2, hf2, h⟩ := h
        refine ⟨oi, ri, hoi, ?_⟩
        simp only [hei, Bool.false_eq_true, if_false]
        refine ⟨hn2, fun s2 ha hO => hf2 s2 ((agree_put hi1 s.fr rk s.O s.O).2.trans ha) hO, ok, rk, hok, ?_⟩
        simp only [hek, Bool.false_eq_true, if_false]
        refine ⟨hn, hfk s.O fun _ _ => rfl, ?_⟩
        simp only [sput_comm s.fr hi3]
        exact h
      | true =>
        simp only [hei, if_true] at h
        obtain ⟨new, news', O', rfl, hn2, hro, hf2, h⟩ := h
        refine ⟨oi, ri, hoi, ?_⟩
        simp only [hei, if_true]
        refine ⟨new, news', O', rfl, hn2, hro, fun s2 ha hO hnew => hf2 s2 ((agree_put hi1 s.fr rk s.O s.O).2.trans ha) hO hnew, ok, rk, hok, ?_⟩
        simp only [hek, Bool.false_eq_true, if_false]
        refine ⟨hn, hfk O' hro, ?_⟩
        simp only [sput_comm s.fr hi3]
        exact h
    | true =>
      simp only [hek, if_true] at h
      obtain ⟨new, news', O', rfl, hn, hro, hf, oi', ri, hoi', h⟩ := h
      rw [hoi] at hoi'; cases hoi'
      cases hei : eff i with
      | true => simp [hek, hei] at hi4
      | false =>
        simp only [hei, Bool.false_eq_true, if_false] at h
        obtain ⟨hn2, hf2, h⟩ := h
        refine ⟨oi, ri, hoi, ?_⟩
        simp only [hei, Bool.false_eq_true, if_false]
        refine ⟨hn2, fun s2 ha hO => hf2 s2 ((agree_put hi1 s.fr rk s.O O').2.trans ha) fun n hn => (hO n hn).trans (hro n hn).symm, ok, rk, hok, ?_⟩
        simp only [hek, if_true]
        refine ⟨new, news', O', rfl, hn, hro, fun s2 ha hO hnew => hf s2 ((agree_put hi2 s.fr ri s.O s.O).1.trans ha) hO hnew, ?_⟩
        simp only [sput_comm s.fr hi3]
        exact h

theorem DR.tail_mono {i : Nat} {l l' : List Nat} {news s} (hl : ∀ news s, DR P ops RO eff ALL R l news s → DR P ops RO eff ALL R l' news s) (h : DR P ops RO eff ALL R (i :: l) news s) : DR P ops RO eff ALL R (i :: l') news s := by
  obtain ⟨o, r, ho, h⟩ := h
  refine ⟨o, r, ho, ?_⟩
  split
  · rename_i he
    rw [if_pos he] at h
    obtain ⟨new, news', O', h1, h2, h3, h4, h5⟩ := h
    exact ⟨new, news', O', h1, h2, h3, h4, hl _ _ h5⟩
  · rename_i he
    rw [if_neg he] at h
    exact ⟨h.1, h.2.1, hl _ _ h.2.2⟩

theorem DR.bubble {i : Nat} {L2 : List Nat} : ∀ (L1 : List Nat) {news s}, (∀ k ∈ L1, indepB ops eff k i = true) → DR P ops RO eff ALL R (L1 ++ i :: L2) news s → DR P ops RO eff ALL R (i :: (L1 ++ L2)) news s
  | [], _, _, _, h => h
  | k :: L1, news, s, hi, h => by
    have h1 : DR P ops RO eff ALL R (k :: i :: (L1 ++ L2)) news s := DR.tail_mono (fun news s h => DR.bubble L1 (fun k hk => hi k (by simp [hk])) h) h
    exact h1.swap (hi k (by simp))

def Down (ops : Array Oper) (listed : Array Bool) : Prop := ∀ (j : Nat) (o : Oper), ops[j]? = some o → listed.getD j true = true → ∀ e ∈ o.after, Region.binds .any e = true → listed.getD e.on false = true

theorem dep_listed {listed : Array Bool} (hd : Down ops listed) : ∀ (f i k : Nat) (o : Oper), ops[i]? = some o → (∀ e ∈ o.after, Region.binds .any e = true → listed.getD e.on false = true) → depB ops f i k = true → listed.getD k false = true
  | 0, _, _, _, _, _, h => by simp [depB] at h
  | f + 1, i, k, o, ho, hr, h => by
    simp only [depB, ho, Bool.or_eq_true, Array.any_eq_true', Bool.and_eq_true, beq_iff_eq] at h
    rcases h with ⟨e, he, hb, rfl⟩ | ⟨e, he, hb, h⟩
    · exact hr e he hb
    · have h1 := hr e he hb
      cases hoe : ops[e.on]? with
      | none => cases f <;> simp [depB, hoe] at h
      | some o' =>
        have h2 : listed.getD e.on true = true := by
          rw [Array.getD_eq_getD_getElem?] at h1 ⊢
          cases hq : listed[e.on]? with
          | none => simp
          | some b => simpa [hq] using h1
        exact dep_listed hd f e.on k o' hoe (hd e.on o' hoe h2) h

theorem draw_sound {Q : Exit → Act → World → Prop} {E : Env} {fuel : Nat} (hB : drawOk ops eff fuel = true) (hQ : ∀ s a w, R s → Rel E s a w → Q .normal a w) :
    ∀ (n : Nat) (listed : Array Bool) (idx : List Nat) (news : List (List Nat)) (s : St) (a : Act) (w : World), listed.size = ops.size → idx.length = n → idx.Pairwise (· < ·) → (∀ j, j ∈ idx ↔ j < ops.size ∧ listed.getD j true = false) → Down ops listed →
      (∀ m ∈ news.flatten, m ∈ ALL) → (∀ m ∈ news.flatten, m ∉ RV.namesL s.fr) → DR P ops RO eff ALL R idx news s → Rel E s a w → wpAny P .any ops Q n listed a w := by
  have hchk : ∀ i o, ops[i]? = some o → (∀ e ∈ o.after, Region.binds .any e = true → e.on < i) ∧ ∀ k, k < i → indepB ops eff k i = true ∨ depB ops fuel i k = true := by
    intro i o ho
    have hlt : i < ops.size := (Array.getElem?_eq_some_iff.1 ho).1
    have h1 := List.all_eq_true.1 hB i (List.mem_range.2 hlt)
    simp only [ho, Option.map_some, Option.getD_some, Bool.and_eq_true, Array.all_eq_true', Bool.or_eq_true, Bool.not_eq_true', decide_eq_true_eq, List.all_eq_true, List.mem_range] at h1
    refine ⟨fun e he hb => ?_, fun k hk => h1.2 k hk⟩
    rcases h1.1 e he with h2 | h2
    · rw [hb] at h2; cases h2
    · exact h2
  have hnm : ∀ (fr : List RV) (d : Option Tmp) (r : RV) (m : Nat), m ∉ RV.namesL fr → m ∉ r.names → m ∉ RV.namesL (sput d r fr) := by
    intro fr d r m h1 h2
    cases d with
    | none => exact h1
    | some d =>
      simp only [sput]
      induction fr generalizing d with
      | nil => exact h1
      | cons x xs ih =>
        simp only [RV.namesL, List.mem_append, not_or] at h1
        cases d with
        | zero => simp [lset, RV.namesL, h2, h1.2]
        | succ d => simp only [lset, RV.namesL, List.mem_append, not_or]; exact ⟨h1.1, ih h1.2 d⟩
  intro n
  induction n with
  | zero =>
    intro listed idx news s a w hsz hl _ hidx _ _ _ h hr
    have : idx = [] := List.eq_nil_of_length_eq_zero hl
    subst this
    refine ⟨?_, hQ s a w h hr⟩
    rw [List.eq_nil_iff_forall_not_mem]
    intro j hj
    obtain ⟨h1, o, ho, _⟩ := mem_ready.1 hj
    have : j ∈ ([] : List Nat) := (hidx j).2 ⟨(Array.getElem?_eq_some_iff.1 ho).1, h1⟩
    cases this
  | succ n ih =>
    intro listed idx news s a w hsz hl hsort hidx hdown hall hfresh h hr
    match idx, hl with
    | i0 :: rest0, hl =>
    refine ⟨fun hempty => ?_, ?_⟩
    · exfalso
      have hi0 := (hidx i0).1 (by simp)
      have hmem : i0 ∈ Region.ready .any ops listed := by
        refine mem_ready.2 ⟨hi0.2, ops[i0]'hi0.1, Array.getElem?_eq_getElem hi0.1, fun e he hb => ?_⟩
        have hlt := (hchk i0 _ (Array.getElem?_eq_getElem hi0.1)).1 e he hb
        cases hq : listed.getD e.on true with
        | true =>
          rw [Array.getD_eq_getD_getElem?] at hq ⊢
          have : e.on < listed.size := by omega
          rw [Array.getElem?_eq_getElem this] at hq ⊢
          simpa using hq
        | false =>
          have : e.on ∈ i0 :: rest0 := (hidx e.on).2 ⟨by omega, hq⟩
          rcases List.mem_cons.1 this with h5 | h5
          · omega
          · have := List.rel_of_pairwise_cons hsort h5; omega
      rw [hempty] at hmem
      cases hmem
    · intro i hi
      obtain ⟨hun, o, ho, hready⟩ := mem_ready.1 hi
      have hlt : i < ops.size := (Array.getElem?_eq_some_iff.1 ho).1
      have hmem : i ∈ i0 :: rest0 := (hidx i).2 ⟨hlt, hun⟩
      obtain ⟨L1, L2, hL⟩ := List.append_of_mem hmem
      rw [hL] at h hsort hl hidx
      have hind : ∀ k ∈ L1, indepB ops eff k i = true := by
        intro k hk
        have hki : k < i := (List.pairwise_append.1 hsort).2.2 k hk i (by simp)
        rcases (hchk i o ho).2 k hki with h5 | h5
        · exact h5
        · exfalso
          have h6 := dep_listed hdown fuel i k o ho hready h5
          have h7 := ((hidx k).1 (by simp [hk])).2
          rw [Array.getD_eq_getD_getElem?] at h6 h7
          cases hq : listed[k]? with
          | none => simp [hq] at h6
          | some b => simp [hq] at h6 h7; rw [h6] at h7; cases h7
      obtain ⟨o', r, ho', hstep⟩ := DR.bubble L1 hind h
      rw [ho] at ho'; cases ho'
      -- the rest, behind it
      have hsort' : (L1 ++ L2).Pairwise (· < ·) := by
        rw [List.pairwise_append] at hsort ⊢
        exact ⟨hsort.1, (List.pairwise_cons.1 hsort.2.1).2, fun x hx y hy => hsort.2.2 x hx y (by simp [hy])⟩
      have hnotin : i ∉ L1 ++ L2 := by
        intro hx
        rw [List.pairwise_append] at hsort
        rcases List.mem_append.1 hx with hx | hx
        · have := hsort.2.2 i hx i (by simp); omega
        · have := (List.pairwise_cons.1 hsort.2.1).1 i hx; omega
      have hidx' : ∀ j, j ∈ L1 ++ L2 ↔ j < ops.size ∧ (listed.setIfInBounds i true).getD j true = false := by
        intro j
        by_cases hji : j = i
        · subst hji
          constructor
          · intro hx; exact absurd hx hnotin
          · rintro ⟨_, hx⟩
            rw [Array.getD_eq_getD_getElem?, Array.getElem?_setIfInBounds] at hx
            simp at hx
            split at hx <;> simp at hx
        · have h8 : (listed.setIfInBounds i true).getD j true = listed.getD j true := by
            rw [Array.getD_eq_getD_getElem?, Array.getD_eq_getD_getElem?, Array.getElem?_setIfInBounds, if_neg (fun e => hji e.symm)]
          rw [h8, ← hidx j]
          simp [hji]
      have hdown' : Down ops (listed.setIfInBounds i true) := by
        intro j oj hoj hlj e he hb
        have hset : ∀ q, listed.getD q false = true → (listed.setIfInBounds i true).getD q false = true := by
          intro q hq
          rw [Array.getD_eq_getD_getElem?] at hq ⊢
          rw [Array.getElem?_setIfInBounds]
          split
          · split <;> simp_all
          · exact hq
        by_cases hji : j = i
        · subst hji
          rw [ho] at hoj; cases hoj
          exact hset _ (hready e he hb)
        · have h8 : (listed.setIfInBounds i true).getD j true = listed.getD j true := by
            rw [Array.getD_eq_getD_getElem?, Array.getD_eq_getD_getElem?, Array.getElem?_setIfInBounds, if_neg (fun e => hji e.symm)]
          rw [h8] at hlj
          exact hset _ (hdown j oj hoj hlj e he hb)
      have hlen' : (L1 ++ L2).length = n := by simp at hl ⊢; omega
      have hsz' : (listed.setIfInBounds i true).size = ops.size := by simpa using hsz
      have fin : ∀ (s' : St) (news' : List (List Nat)), OpG P ops o s s' → (∀ m ∈ news'.flatten, m ∈ ALL) → (∀ m ∈ news'.flatten, m ∉ RV.namesL s'.fr) → DR P ops RO eff ALL R (L1 ++ L2) news' s' → wpOp P ops Q i (wpAny P .any ops Q n (listed.setIfInBounds i true)) a w := by
        intro s' news' hop h10 h11 h12
        have := hop E a w hr (wpAny P .any ops Q n (listed.setIfInBounds i true)) Q fun a' w' hr' => ih _ _ _ s' a' w' hsz' hlen' hsort' hidx' hdown' h10 h11 h12 hr'
        unfold wpOp
        simp only [ho]
        split
        · rename_i hw; rw [if_pos hw] at this; exact .inl this
        · rename_i hw; rw [if_neg hw] at this; exact this
      split at hstep
      · obtain ⟨new, news', O', rfl, h13, h14, h15, h16⟩ := hstep
        refine fin _ news' (h15 s ⟨fun _ _ => rfl, fun _ _ => rfl⟩ rfl fun m hm => hfresh m (by simp [hm])) (fun m hm => hall m (by simp only [List.flatten_cons, List.mem_append]; exact .inr hm)) (fun m hm => ?_) h16
        exact hnm _ _ _ m (hfresh m (by simp only [List.flatten_cons, List.mem_append]; exact .inr hm)) fun hx => h13 m hx hm
      · obtain ⟨h13, h15, h16⟩ := hstep
        refine fin _ news (h15 s ⟨fun _ _ => rfl, fun _ _ => rfl⟩ fun _ _ => rfl) hall (fun m hm => ?_) h16
        exact hnm _ _ _ m (hfresh m hm) fun hx => h13 m hx (hall m hm)

end

structure D (P : Program) (ops : Array Oper) (RO : Nat → Bool) (eff : Nat → Bool) (ALL : List Nat) (news : List (List Nat)) (k : Nat) (l : List Oper) (R : St → Prop) (s : St) : Prop where
  out : (∀ j, l[j]? = ops[k + j]?) → DR P ops RO eff ALL R (List.range' k l.length) news s

theorem d_nil {P ops RO eff ALL news k R s} (h : R s) : D P ops RO eff ALL news k [] R s := ⟨fun _ => h⟩
theorem d_fl {P ops RO eff ALL news k o rest R fr O r fr'} (he : eff k = false := by rfl) (h : Fl P ops RO o ⟨fr, O⟩ r := by first | exact .move | exact .moveY rfl rfl rfl | exact .assign | exact .assignY rfl rfl rfl | exact .pick_t rfl | exact .pick_f rfl | exact .pick_tY rfl rfl rfl rfl | exact .pick_fY rfl rfl rfl rfl | exact .pl (fs_auto ()) | exact .ye rfl rfl rfl (fs_auto ()) | exact .no rfl rfl rfl | exact .no' rfl rfl | fail) (e : sput o.dst r fr = fr' := by simp only [nz, nf, nl, nb, nr, ng, nq, nu, reduceIte, Nat.reduceEqDiff, Nat.reduceAdd]; rfl) (hn : ∀ m ∈ r.names, m ∉ ALL := by first | (simp [nm]; done) | simp [nm, nz, nb]) (hk : D P ops RO eff ALL news (k + 1) rest R ⟨fr', O⟩) : D P ops RO eff ALL news k (o :: rest) R ⟨fr, O⟩ := by
  subst e
  refine ⟨fun hl => ?_⟩
  rw [List.length_cons, List.range'_succ]
  refine ⟨o, r, by simpa using (hl 0).symm, ?_⟩
  rw [if_neg (by rw [he]; simp)]
  exact ⟨hn, h, hk.out fun j => by have := hl (j + 1); simpa [Nat.add_assoc, Nat.add_comm 1 j] using this⟩
theorem d_ef {P ops RO eff ALL new news k o rest R fr O r fr' O1 O'} (he : eff k = true := by rfl) (h : Ef P ops new o ⟨fr, O⟩ r O1 := by first | exact .buildSlice (k := 1) rfl rfl rfl (by decide) (by decide) (by kernel_rfl) (by decide +kernel) rfl (by decide) (by simp [nm, nset, oerase, St.get, lget, -List.map_take, -List.map_drop]) (by simp [nm, nset, oerase, St.get, lget, -List.map_take, -List.map_drop]) | exact .buildSlice (k := 2) rfl rfl rfl (by decide) (by decide) (by kernel_rfl) (by decide +kernel) rfl (by decide) (by simp [nm, nset, oerase, St.get, lget, -List.map_take, -List.map_drop]) (by simp [nm, nset, oerase, St.get, lget, -List.map_take, -List.map_drop]) | exact .buildSlice (k := 4) rfl rfl rfl (by decide) (by decide) (by kernel_rfl) (by decide +kernel) rfl (by decide) (by simp [nm, nset, oerase, St.get, lget, -List.map_take, -List.map_drop]) (by simp [nm, nset, oerase, St.get, lget, -List.map_take, -List.map_drop]) | exact .apSeal rfl rfl rfl rfl rfl (by simp) (by simp) (by simp) (by simp [nm]) (by decide) (by decide) (by decide) (by decide) (by simp [nm, nset, oerase, St.get, lget, -List.map_take, -List.map_drop]) ⟨by kernel_rfl, by kernel_rfl, by kernel_rfl, by kernel_rfl⟩ (by simp; omega) | exact .apNew rfl rfl rfl rfl (by decide) (by simp) (by simp) (by simp) (by decide) (by simp [nm, nset, oerase, St.get, lget, -List.map_take, -List.map_drop]) ⟨by kernel_rfl, by kernel_rfl, by kernel_rfl, by kernel_rfl⟩ (by simp; omega) | exact .apNewsh rfl rfl rfl (by simp) (by first | exact wd_all fun _ => rfl | simp [RV.width]) (by decide) (by simp [nm, nset, oerase, St.get, lget, -List.map_take, -List.map_drop]) ⟨by kernel_rfl, by kernel_rfl, by kernel_rfl, by kernel_rfl⟩ (by simp; omega) | exact .no rfl rfl rfl | exact .no' rfl rfl | exact .pure fs_move | exact .pure fs_assign | exact .store rfl rfl rfl rfl (by simp [RV.cellsL]) rfl (by kernel_rfl) | exact .storea rfl rfl rfl rfl rfl rfl (by kernel_rfl) | exact .store_map rfl rfl rfl (by omega) rfl rfl (by kernel_rfl) | exact .storea_map rfl rfl rfl (by omega) rfl rfl (by kernel_rfl) | exact .pure (fs_auto ()) | fail) (e1 : sput o.dst r fr = fr' := by simp only [nz, nf, nl, nb, nr, ng, nq, nu, reduceIte, Nat.reduceEqDiff, Nat.reduceAdd]; rfl) (e2 : O1 = O' := by simp only [nz, nf, nl, nr, ng, nq, nu, reduceIte, Nat.reduceEqDiff] <;> rfl) (hn : ∀ m ∈ r.names, m ∉ news.flatten := by first | (simp [nm]; done) | simp [nm, nz, nb]) (hro : ∀ n, RO n = true → olook n O' = olook n O := by first | exact fun _ _ => rfl | exact ro_of (by simp [olook])) (hk : D P ops RO eff ALL news (k + 1) rest R ⟨fr', O'⟩) : D P ops RO eff ALL (new :: news) k (o :: rest) R ⟨fr, O⟩ := by
  subst e1; subst e2
  refine ⟨fun hl => ?_⟩
  rw [List.length_cons, List.range'_succ]
  refine ⟨o, r, by simpa using (hl 0).symm, ?_⟩
  rw [if_pos he]
  exact ⟨new, news, O1, rfl, hn, hro, h, hk.out fun j => by have := hl (j + 1); simpa [Nat.add_assoc, Nat.add_comm 1 j] using this⟩

theorem w_draw0 {P id l R fr O} (RO eff : Nat → Bool) (news : List (List Nat)) (fuel : Nat) (hm : P.follows .mixedOrders = true) (hB : drawOk l.toArray eff fuel = true) (hf : ∀ m ∈ news.flatten, m ∉ RV.namesL fr) (h : D P l.toArray RO eff news.flatten news 0 l (R .normal) ⟨fr, O⟩) : W P (.region id l.toArray true) R ⟨fr, O⟩ := by
  refine ⟨fun E a w hr => ?_⟩
  refine wp_region_any hm ?_
  have hd := h.out (by simp)
  refine draw_sound (RO := RO) (eff := eff) (ALL := news.flatten) (R := R .normal) (E := E) hB (fun s' a' w' h1 h2 => ⟨s', h1, h2⟩) _ _ (List.range' 0 l.length) news ⟨fr, O⟩ a _ (by simp) (by simp) List.pairwise_lt_range' ?_ ?_ (fun _ h => h) hf hd hr.drew
  · intro j
    simp only [List.mem_range'_1, Nat.zero_le, true_and, Nat.zero_add, List.size_toArray]
    constructor
    · intro hj; refine ⟨hj, ?_⟩; simp [Array.getD_eq_getD_getElem?, hj]
    · exact fun h => h.1
  · intro j o ho hj
    have hlt : j < l.toArray.size := (Array.getElem?_eq_some_iff.1 ho).1
    simp only [List.size_toArray] at hlt
    simp [Array.getD_eq_getD_getElem?, hlt] at hj
def maskOf (ops : Array Oper) (ms : List Nat) (i : Nat) : Nat := match ops[i]? with
  | none => 0
  | some o => o.after.toList.foldl (fun m e => if Region.binds .any e then m ||| (1 <<< e.on) ||| ms.getD e.on 0 else m) 0
def masks (ops : Array Oper) : Nat → List Nat
  | 0 => []
  | n + 1 => masks ops n ++ [maskOf ops (masks ops n) n]
def drawOk2 (ops : Array Oper) (eff : Nat → Bool) (ms : List Nat) : Bool :=
  (List.range ops.size).all fun i => ((ops[i]?).map fun o => o.after.all fun e => !Region.binds .any e || decide (e.on < i)).getD false && (List.range i).all fun k => indepB ops eff k i || (ms.getD i 0).testBit k
theorem masks_len (ops : Array Oper) (n : Nat) : (masks ops n).length = n := by
  induction n with
  | zero => rfl
  | succ n ih => simp [masks, ih]
theorem masks_at (ops : Array Oper) : ∀ (n i : Nat), i < n → (masks ops n).getD i 0 = maskOf ops (masks ops i) i
  | 0, i, h => by omega
  | n + 1, i, h => by
    rw [masks, List.getD_eq_getElem?_getD]
    by_cases hi : i < n
    · rw [List.getElem?_append_left (by rw [masks_len]; exact hi), ← List.getD_eq_getElem?_getD]
      exact masks_at ops n i hi
    · obtain rfl : i = n := by omega
      rw [List.getElem?_append_right (by rw [masks_len]; omega), masks_len]
      simp
theorem depB_mono (ops : Array Oper) : ∀ (f i k : Nat), depB ops f i k = true → depB ops (f + 1) i k = true
  | 0, i, k, h => by simp [depB] at h
  | f + 1, i, k, h => by
    rw [depB] at h ⊢
    cases ho : ops[i]? with
    | none => simp [ho] at h
    | some o =>
      simp only [ho, Bool.or_eq_true, Array.any_eq_true', Bool.and_eq_true] at h ⊢
      rcases h with h | ⟨e, he, hb, h⟩
      · exact .inl h
      · exact .inr ⟨e, he, hb, depB_mono ops f e.on k h⟩
theorem depB_le (ops : Array Oper) {f g i k : Nat} (hfg : f ≤ g) (h : depB ops f i k = true) : depB ops g i k = true := by
  induction hfg with
  | refl => exact h
  | step _ ih => exact depB_mono ops _ i k ih
theorem foldl_mask {ms : List Nat} {k : Nat} : ∀ (l : List Edge) (m : Nat), ((l.foldl (fun m e => if Region.binds .any e then m ||| (1 <<< e.on) ||| ms.getD e.on 0 else m) m).testBit k = true) → m.testBit k = true ∨ ∃ e ∈ l, Region.binds .any e = true ∧ (e.on = k ∨ (ms.getD e.on 0).testBit k = true)
  | [], m, h => .inl h
  | e :: l, m, h => by
    rw [List.foldl_cons] at h
    rcases foldl_mask l _ h with h | ⟨e', h1, h2⟩
    · split at h
      · rename_i hb
        simp only [Nat.testBit_or, Bool.or_eq_true] at h
        rcases h with (h | h) | h
        · exact .inl h
        · refine .inr ⟨e, by simp, hb, .inl ?_⟩
          rw [Nat.one_shiftLeft, Nat.testBit_two_pow] at h
          simpa using h
        · exact .inr ⟨e, by simp, hb, .inr h⟩
      · exact .inl h
    · exact .inr ⟨e', by simp [h1], h2⟩
theorem mask_dep (ops : Array Oper) (hlt : ∀ i o, ops[i]? = some o → ∀ e ∈ o.after, Region.binds .any e = true → e.on < i) : ∀ (n i k : Nat), i < n → (maskOf ops (masks ops i) i).testBit k = true → depB ops (i + 1) i k = true
  | 0, i, k, h, _ => by omega
  | n + 1, i, k, h, hm => by
    unfold maskOf at hm
    rw [depB]
    cases ho : ops[i]? with
    | none => simp [ho] at hm
    | some o =>
      simp only [ho] at hm
      rcases foldl_mask _ _ hm with hm | ⟨e, he, hb, hk⟩
      · simp at hm
      · have he' : e ∈ o.after := by simpa using he
        have hei := hlt i o ho e he' hb
        simp only [Bool.or_eq_true, Array.any_eq_true', Bool.and_eq_true, beq_iff_eq]
        rcases hk with hk | hk
        · exact .inl ⟨e, he', hb, hk⟩
        · refine .inr ⟨e, he', hb, ?_⟩
          rw [masks_at ops i e.on hei] at hk
          exact depB_le ops (by omega) (mask_dep ops hlt n e.on k (by omega) hk)
theorem drawOk_of2 {ops : Array Oper} {eff : Nat → Bool} {ms : List Nat} (hms : masks ops ops.size = ms) (h : drawOk2 ops eff ms = true) : drawOk ops eff (ops.size + 1) = true := by
  subst hms
  have hlt : ∀ i o, ops[i]? = some o → ∀ e ∈ o.after, Region.binds .any e = true → e.on < i := by
    intro i o ho e he hb
    have hi : i < ops.size := (Array.getElem?_eq_some_iff.1 ho).1
    have h1 := List.all_eq_true.1 h i (List.mem_range.2 hi)
    simp only [ho, Option.map_some, Option.getD_some, Bool.and_eq_true, Array.all_eq_true', Bool.or_eq_true, Bool.not_eq_true', decide_eq_true_eq] at h1
    rcases h1.1 e he with h2 | h2
    · rw [hb] at h2; cases h2
    · exact h2
  unfold drawOk
  rw [List.all_eq_true]
  intro i hi
  have h1 := List.all_eq_true.1 h i hi
  have hi := List.mem_range.1 hi
  rw [Bool.and_eq_true] at h1 ⊢
  refine ⟨h1.1, ?_⟩
  rw [List.all_eq_true]
  intro k hk
  have h2 := List.all_eq_true.1 h1.2 k hk
  rw [Bool.or_eq_true] at h2 ⊢
  rcases h2 with h2 | h2
  · exact .inl h2
  · rw [masks_at ops _ i hi] at h2
    exact .inr (depB_le ops (by omega) (mask_dep ops hlt _ i k hi h2))
theorem w_draw {P id l R fr O} (RO eff : Nat → Bool) (news : List (List Nat)) (_fuel : Nat) (hm : P.follows .mixedOrders = true) {ms : List Nat} (hms : masks l.toArray l.toArray.size = ms) (hB : drawOk2 l.toArray eff ms = true) (hf : ∀ m ∈ news.flatten, m ∉ RV.namesL fr) (h : D P l.toArray RO eff news.flatten news 0 l (R .normal) ⟨fr, O⟩) : W P (.region id l.toArray true) R ⟨fr, O⟩ :=
  w_draw0 RO eff news _ hm (drawOk_of2 hms hB) hf h

end Eng
end Go.Proofs.YtmfbcipjknjicaaGreatDoor

/- The engine, part P: further steps: guards in drawn regions, tests that are told apart, indexes by number, forgetting, freezing, sealing. No condition. -/
namespace Go.Proofs.YtmfbcipjknjicaaGreatDoor
set_option linter.unusedSectionVars false
variable [One Bool]
namespace Eng
open Go.RowKit

abbrev RVi (n : Int) : RV := .v (.int .i64 n)
abbrev RVb (b : Bool) : RV := .v (.bool b)

theorem Fl.plain {P ops RO d op ty pos after s r} (h : ∀ s2 : St, (∀ x ∈ op.operands.toList, s2.get x = s.get x) → (∀ n, RO n = true → olook n s2.O = olook n s.O) → OpS P ⟨d, op, ty, pos, after, none⟩ s2 ⟨sput d r s2.fr, s2.O⟩) : Fl P ops RO ⟨d, op, ty, pos, after, none⟩ s r :=
  fun s2 ha hO => .plain rfl (h s2 ha.1 hO)
theorem Fl.yes {P ops RO d op ty pos after j want t b s r} (hj : gslot ops j = some t) (ht : lget s.fr t = .v (.bool b)) (hb : b = want) (h : ∀ s2 : St, (∀ x ∈ op.operands.toList, s2.get x = s.get x) → (∀ n, RO n = true → olook n s2.O = olook n s.O) → OpS P ⟨d, op, ty, pos, after, some (j, want)⟩ s2 ⟨sput d r s2.fr, s2.O⟩) : Fl P ops RO ⟨d, op, ty, pos, after, some (j, want)⟩ s r :=
  fun s2 ha hO => .yes rfl hj ((ha.2 t (by simpa [grd] using hj)).trans (hb ▸ ht)) (h s2 ha.1 hO)
theorem Fl.no {P ops RO d op ty pos after j want t b s} (hj : gslot ops j = some t) (ht : lget s.fr t = .v (.bool b)) (hb : b = !want) : Fl P ops RO ⟨d, op, ty, pos, after, some (j, want)⟩ s (.v undef) :=
  fun s2 ha _ => .no2 rfl hj ((ha.2 t (by simpa [grd] using hj)).trans ht) (by subst hb; cases want <;> rfl)
theorem Fl.no' {P ops RO d op ty pos after j want t s} (hj : gslot ops j = some t) (ht : lget s.fr t = .v undef) : Fl P ops RO ⟨d, op, ty, pos, after, some (j, want)⟩ s (.v undef) :=
  fun s2 ha _ => .no' rfl hj ((ha.2 t (by simpa [grd] using hj)).trans ht)
theorem Ef.plain {P ops new d op ty pos after s r O'} (h : ∀ s2 : St, (∀ x ∈ op.operands.toList, s2.get x = s.get x) → s2.O = s.O → (∀ m ∈ new, m ∉ RV.namesL s2.fr) → OpS P ⟨d, op, ty, pos, after, none⟩ s2 ⟨sput d r s2.fr, O'⟩) : Ef P ops new ⟨d, op, ty, pos, after, none⟩ s r O' :=
  fun s2 ha hO hn => .plain rfl (h s2 ha.1 hO hn)
theorem Ef.yes {P ops new d op ty pos after j want t b s r O'} (hj : gslot ops j = some t) (ht : lget s.fr t = .v (.bool b)) (hb : b = want) (h : ∀ s2 : St, (∀ x ∈ op.operands.toList, s2.get x = s.get x) → s2.O = s.O → (∀ m ∈ new, m ∉ RV.namesL s2.fr) → OpS P ⟨d, op, ty, pos, after, some (j, want)⟩ s2 ⟨sput d r s2.fr, O'⟩) : Ef P ops new ⟨d, op, ty, pos, after, some (j, want)⟩ s r O' :=
  fun s2 ha hO hn => .yes rfl hj ((ha.2 t (by simpa [grd] using hj)).trans (hb ▸ ht)) (h s2 ha.1 hO hn)
theorem Ef.no {P ops d op ty pos after j want t b s} (hj : gslot ops j = some t) (ht : lget s.fr t = .v (.bool b)) (hb : b = !want) : Ef P ops [] ⟨d, op, ty, pos, after, some (j, want)⟩ s (.v undef) s.O :=
  fun s2 ha hO _ => by rw [← hO]; exact .no2 rfl hj ((ha.2 t (by simpa [grd] using hj)).trans ht) (by subst hb; cases want <;> rfl)
theorem Ef.no' {P ops d op ty pos after j want t s} (hj : gslot ops j = some t) (ht : lget s.fr t = .v undef) : Ef P ops [] ⟨d, op, ty, pos, after, some (j, want)⟩ s (.v undef) s.O :=
  fun s2 ha hO _ => by rw [← hO]; exact .no' rfl hj ((ha.2 t (by simpa [grd] using hj)).trans ht)

/-! A guard, a test that is not decided: both ways. -/
theorem w_cd {P c x y R s} {p : Prop} [Decidable p] (hc : s.get c = .v (.bool (decide p))) (ht : p → W P x R s) (hf : ¬ p → W P y R s) : W P (.cond c x y) R s :=
  w_cond hc (fun h => ht (of_decide_eq_true h)) (fun h => hf (of_decide_eq_false h))
theorem w_cn {P c x y R s b} (hc : s.get c = .v (.bool (!b))) (ht : b = false → W P x R s) (hf : b = true → W P y R s) : W P (.cond c x y) R s :=
  w_cond hc (fun h => ht (by simpa using h)) (fun h => hf (by simpa using h))
theorem w_cnd {P c x y R s} {p : Prop} [Decidable p] (hc : s.get c = .v (.bool (!decide p))) (ht : ¬ p → W P x R s) (hf : p → W P y R s) : W P (.cond c x y) R s :=
  w_cond hc (fun h => ht (by simpa using h)) (fun h => hf (by simpa using h))

section
variable {P : Program} {s : St} {d : Option Tmp} {ty : TypeId} {pos : String} {after : Array Edge} {g : Option (Nat × Bool)}
theorem ops_inc {x t u} {a : Nat} (hx : s.get x = .v (.int .i64 (a : Nat))) (h : a + 1 ≤ 9223372036854775807) : OpS P ⟨d, .binOp .add t x (.const (.int .i64 1)) u, ty, pos, after, g⟩ s ⟨sput d (.v (.int .i64 ((a + 1 : Nat) : Int))) s.fr, s.O⟩ := by
  have := ops_add (P := P) (d := d) (ty := ty) (pos := pos) (after := after) (g := g) (t := t) (u := u) (s := s) (x := x) (y := .const (.int .i64 1)) (m := a) (n := 1) hx rfl (by omega) (by omega)
  rwa [show ((a : Int) + 1) = ((a + 1 : Nat) : Int) by omega] at this
theorem ops_addn {x y t u} {a b : Nat} (hx : s.get x = .v (.int .i64 (a : Nat))) (hy : s.get y = .v (.int .i64 (b : Nat))) (h : a + b ≤ 9223372036854775807) : OpS P ⟨d, .binOp .add t x y u, ty, pos, after, g⟩ s ⟨sput d (.v (.int .i64 ((a + b : Nat) : Int))) s.fr, s.O⟩ := by
  have := ops_add (P := P) (d := d) (ty := ty) (pos := pos) (after := after) (g := g) (t := t) (u := u) (s := s) (x := x) (y := y) (m := a) (n := b) hx hy (by omega) (by omega)
  rwa [show ((a : Int) + b) = ((a + b : Nat) : Int) by omega] at this

theorem ops_idx_map {α : Type} {f : α → RV} {l : List α} {x ix c k} {i : Nat} (hx : s.get x = .sh (l.map f)) (hi : s.get ix = .v (.int k (i : Nat))) (h : i < l.length) (ht : P.underlying c = some (.slice (P.elem c))) (hw : P.cellsOf (P.elem c) = (f l[i]).width) :
    OpS P ⟨d, .indexAddr c x ix, ty, pos, after, g⟩ s ⟨sput d (.psh (f l[i])) s.fr, s.O⟩ :=
  ops_idx_sh hx hi (by simp [h]) ht hw
end

end Eng
end Go.Proofs.YtmfbcipjknjicaaGreatDoor

/- The engine, part Q: tests that are told apart are written into the frame; loops whose written slots are forgotten by themselves. No condition. -/
namespace Go.Proofs.YtmfbcipjknjicaaGreatDoor
set_option linter.unusedSectionVars false
variable [One Bool]
namespace Eng
open Go.RowKit

theorem lset_lget : ∀ (fr : List RV) (t : Nat) (r : RV), lget fr t = r → r ≠ .any → lset fr t r = fr
  | [], t, r, h, hr => by simp [lset]
  | x :: xs, 0, r, h, hr => by simp only [lget] at h; subst h; rfl
  | x :: xs, t + 1, r, h, hr => by simp only [lget] at h; simp only [lset]; rw [lset_lget xs t r h hr]

section
variable {P : Program} {ops : Array Oper} {o : Oper} {rest : List Oper} {R : St → Prop} {fr fr1 fr2 : List RV} {O : List Bk} {j : Nat} {want : Bool} {t : Tmp}

theorem l_sp {b : Bool} (hg : o.guard = some (j, want)) (hj : gslot ops j = some t) (ht : lget fr t = .v (.bool b)) (e1 : lset fr t (.v (.bool true)) = fr1 := by simp only [nz, nf, nl, nb, nr, ng, nq, nu, reduceIte, Nat.reduceEqDiff, Nat.reduceAdd]; rfl) (e2 : lset fr t (.v (.bool false)) = fr2 := by simp only [nz, nf, nl, nb, nr, ng, nq, nu, reduceIte, Nat.reduceEqDiff, Nat.reduceAdd]; rfl) (h1 : b = true → L P ops (o :: rest) R ⟨fr1, O⟩) (h2 : b = false → L P ops (o :: rest) R ⟨fr2, O⟩) : L P ops (o :: rest) R ⟨fr, O⟩ := by
  have _ := hg; have _ := hj
  subst e1; subst e2
  cases b
  · rw [← lset_lget fr t _ ht (by simp)]; exact h2 rfl
  · rw [← lset_lget fr t _ ht (by simp)]; exact h1 rfl
theorem l_spd {p : Prop} [Decidable p] (hg : o.guard = some (j, want)) (hj : gslot ops j = some t) (ht : lget fr t = .v (.bool (decide p))) (e1 : lset fr t (.v (.bool true)) = fr1 := by simp only [nz, nf, nl, nb, nr, ng, nq, nu, reduceIte, Nat.reduceEqDiff, Nat.reduceAdd]; rfl) (e2 : lset fr t (.v (.bool false)) = fr2 := by simp only [nz, nf, nl, nb, nr, ng, nq, nu, reduceIte, Nat.reduceEqDiff, Nat.reduceAdd]; rfl) (h1 : p → L P ops (o :: rest) R ⟨fr1, O⟩) (h2 : ¬ p → L P ops (o :: rest) R ⟨fr2, O⟩) : L P ops (o :: rest) R ⟨fr, O⟩ :=
  l_sp hg hj ht e1 e2 (fun h => h1 (of_decide_eq_true h)) (fun h => h2 (of_decide_eq_false h))
theorem l_spn {b : Bool} (hg : o.guard = some (j, want)) (hj : gslot ops j = some t) (ht : lget fr t = .v (.bool (!b))) (e1 : lset fr t (.v (.bool true)) = fr1 := by simp only [nz, nf, nl, nb, nr, ng, nq, nu, reduceIte, Nat.reduceEqDiff, Nat.reduceAdd]; rfl) (e2 : lset fr t (.v (.bool false)) = fr2 := by simp only [nz, nf, nl, nb, nr, ng, nq, nu, reduceIte, Nat.reduceEqDiff, Nat.reduceAdd]; rfl) (h1 : b = false → L P ops (o :: rest) R ⟨fr1, O⟩) (h2 : b = true → L P ops (o :: rest) R ⟨fr2, O⟩) : L P ops (o :: rest) R ⟨fr, O⟩ :=
  l_sp hg hj ht e1 e2 (fun h => h1 (by simpa using h)) (fun h => h2 (by simpa using h))
theorem l_spnd {p : Prop} [Decidable p] (hg : o.guard = some (j, want)) (hj : gslot ops j = some t) (ht : lget fr t = .v (.bool (!decide p))) (e1 : lset fr t (.v (.bool true)) = fr1 := by simp only [nz, nf, nl, nb, nr, ng, nq, nu, reduceIte, Nat.reduceEqDiff, Nat.reduceAdd]; rfl) (e2 : lset fr t (.v (.bool false)) = fr2 := by simp only [nz, nf, nl, nb, nr, ng, nq, nu, reduceIte, Nat.reduceEqDiff, Nat.reduceAdd]; rfl) (h1 : ¬ p → L P ops (o :: rest) R ⟨fr1, O⟩) (h2 : p → L P ops (o :: rest) R ⟨fr2, O⟩) : L P ops (o :: rest) R ⟨fr, O⟩ :=
  l_sp hg hj ht e1 e2 (fun h => h1 (by simpa using h)) (fun h => h2 (by simpa using h))

variable {RO : Nat → Bool} {eff : Nat → Bool} {ALL : List Nat} {news : List (List Nat)} {k : Nat}
theorem d_sp {b : Bool} (hg : o.guard = some (j, want)) (hj : gslot ops j = some t) (ht : lget fr t = .v (.bool b)) (e1 : lset fr t (.v (.bool true)) = fr1 := by simp only [nz, nf, nl, nb, nr, ng, nq, nu, reduceIte, Nat.reduceEqDiff, Nat.reduceAdd]; rfl) (e2 : lset fr t (.v (.bool false)) = fr2 := by simp only [nz, nf, nl, nb, nr, ng, nq, nu, reduceIte, Nat.reduceEqDiff, Nat.reduceAdd]; rfl) (h1 : b = true → D P ops RO eff ALL news k (o :: rest) R ⟨fr1, O⟩) (h2 : b = false → D P ops RO eff ALL news k (o :: rest) R ⟨fr2, O⟩) : D P ops RO eff ALL news k (o :: rest) R ⟨fr, O⟩ := by
  have _ := hg; have _ := hj
  subst e1; subst e2
  cases b
  · rw [← lset_lget fr t _ ht (by simp)]; exact h2 rfl
  · rw [← lset_lget fr t _ ht (by simp)]; exact h1 rfl
theorem d_spd {p : Prop} [Decidable p] (hg : o.guard = some (j, want)) (hj : gslot ops j = some t) (ht : lget fr t = .v (.bool (decide p))) (e1 : lset fr t (.v (.bool true)) = fr1 := by simp only [nz, nf, nl, nb, nr, ng, nq, nu, reduceIte, Nat.reduceEqDiff, Nat.reduceAdd]; rfl) (e2 : lset fr t (.v (.bool false)) = fr2 := by simp only [nz, nf, nl, nb, nr, ng, nq, nu, reduceIte, Nat.reduceEqDiff, Nat.reduceAdd]; rfl) (h1 : p → D P ops RO eff ALL news k (o :: rest) R ⟨fr1, O⟩) (h2 : ¬ p → D P ops RO eff ALL news k (o :: rest) R ⟨fr2, O⟩) : D P ops RO eff ALL news k (o :: rest) R ⟨fr, O⟩ :=
  d_sp hg hj ht e1 e2 (fun h => h1 (of_decide_eq_true h)) (fun h => h2 (of_decide_eq_false h))
theorem d_spn {b : Bool} (hg : o.guard = some (j, want)) (hj : gslot ops j = some t) (ht : lget fr t = .v (.bool (!b))) (e1 : lset fr t (.v (.bool true)) = fr1 := by simp only [nz, nf, nl, nb, nr, ng, nq, nu, reduceIte, Nat.reduceEqDiff, Nat.reduceAdd]; rfl) (e2 : lset fr t (.v (.bool false)) = fr2 := by simp only [nz, nf, nl, nb, nr, ng, nq, nu, reduceIte, Nat.reduceEqDiff, Nat.reduceAdd]; rfl) (h1 : b = false → D P ops RO eff ALL news k (o :: rest) R ⟨fr1, O⟩) (h2 : b = true → D P ops RO eff ALL news k (o :: rest) R ⟨fr2, O⟩) : D P ops RO eff ALL news k (o :: rest) R ⟨fr, O⟩ :=
  d_sp hg hj ht e1 e2 (fun h => h1 (by simpa using h)) (fun h => h2 (by simpa using h))
theorem d_spnd {p : Prop} [Decidable p] (hg : o.guard = some (j, want)) (hj : gslot ops j = some t) (ht : lget fr t = .v (.bool (!decide p))) (e1 : lset fr t (.v (.bool true)) = fr1 := by simp only [nz, nf, nl, nb, nr, ng, nq, nu, reduceIte, Nat.reduceEqDiff, Nat.reduceAdd]; rfl) (e2 : lset fr t (.v (.bool false)) = fr2 := by simp only [nz, nf, nl, nb, nr, ng, nq, nu, reduceIte, Nat.reduceEqDiff, Nat.reduceAdd]; rfl) (h1 : ¬ p → D P ops RO eff ALL news k (o :: rest) R ⟨fr1, O⟩) (h2 : p → D P ops RO eff ALL news k (o :: rest) R ⟨fr2, O⟩) : D P ops RO eff ALL news k (o :: rest) R ⟨fr, O⟩ :=
  d_sp hg hj ht e1 e2 (fun h => h1 (by simpa using h)) (fun h => h2 (by simpa using h))
end

def wr : Code → List Nat
  | .seq x y => wr x ++ wr y
  | .block _ c => wr c
  | .loop c => wr c
  | .scope c => wr c
  | .cond _ x y => wr x ++ wr y
  | .region _ ops _ => ops.toList.filterMap (·.dst)
  | _ => []
def forget : List Nat → List RV → List RV
  | [], fr => fr
  | t :: l, fr => lset (forget l fr) t .any
def puts : List (Nat × RV) → List RV → List RV
  | [], fr => fr
  | (t, r) :: l, fr => lset (puts l fr) t r

theorem w_loopm {P c R fr O} {ι : Type} (u : ι → List (Nat × RV)) (Oi : ι → List Bk) (C : ι → Prop) (μ : ι → Nat) (i0 : ι) {fr' : ι → List RV} {ws : List Nat} {fr0 : List RV} (hw : wr c = ws := by simp only [wr, List.filterMap_cons, List.filterMap_nil, List.cons_append, List.nil_append, List.append_nil] <;> rfl) (h00 : forget ws fr = fr0 := by simp only [forget, lset] <;> rfl) (e : ∀ i, puts (u i) fr0 = fr' i := by intro i; simp only [puts, lset] <;> rfl) (h0 : C i0) (hs : LE ⟨fr, O⟩ ⟨fr' i0, Oi i0⟩)
    (round : ∀ i, C i → W P c (RT (RN (fun i => ⟨fr' i, Oi i⟩) C μ i) R) ⟨fr' i, Oi i⟩) : W P (.loop c) R ⟨fr, O⟩ := by
  have _ := hw; have _ := h00; have _ := e
  exact w_loop (fun i => ⟨fr' i, Oi i⟩) C μ i0 h0 hs round
theorem w_loopk {P c R fr O} {ι : Type} (u : ι → List (Nat × RV)) (C : ι → Prop) (μ : ι → Nat) (i0 : ι) {fr' : ι → List RV} {ws : List Nat} {fr0 : List RV} (hw : wr c = ws := by simp only [wr, List.filterMap_cons, List.filterMap_nil, List.cons_append, List.nil_append, List.append_nil] <;> rfl) (h00 : forget ws fr = fr0 := by simp only [forget, lset] <;> rfl) (e : ∀ i, puts (u i) fr0 = fr' i := by intro i; simp only [puts, lset] <;> rfl) (h0 : C i0) (hs : LE ⟨fr, O⟩ ⟨fr' i0, O⟩)
    (round : ∀ i, C i → W P c (RT (RN (fun i => ⟨fr' i, O⟩) C μ i) R) ⟨fr' i, O⟩) : W P (.loop c) R ⟨fr, O⟩ :=
  w_loopm u (fun _ => O) C μ i0 hw h00 e h0 hs round
end Eng
end Go.Proofs.YtmfbcipjknjicaaGreatDoor

/- The engine, part R: a named block goes into a cell that refers to it; slices that are filled in order. No condition. -/
namespace Go.Proofs.YtmfbcipjknjicaaGreatDoor
set_option linter.unusedSectionVars false
variable [One Bool]
namespace Eng
open Go.RowKit

theorem OE.setCell2 {w F ρ k e ce fe j r r0 fr} (h : OE w F ρ k [e] ce fe) (hj : e.cellsL[j]? = some r0) (h0 : r0.plain = true) (hr : ∀ y, OE w F ρ 1 [r0] [y] [] → OE w F ρ 1 [r] [y] fr) : ∃ fe', OE w F ρ k [e.setCell j r] ce fe' ∧ fe'.Perm (fr ++ fe) := by
  have hw := h.width
  have h1 := h.cellsL
  have hlt : j < e.cellsL.length := (List.getElem?_eq_some_iff.1 hj).1
  obtain ⟨c1, d, c2, f1, fd, f2, rfl, hc1, hd, rfl, h2, h4, h3⟩ := h1.at hj
  match d, hd with
  | [y], _ =>
    have := h4.plain_fp h0
    subst this
    have h5 := hr y h4
    have hl : e.cellsL.set j r = e.cellsL.take j ++ ([r] ++ e.cellsL.drop (j + 1)) := by
      rw [List.set_eq_take_append_cons_drop, if_pos hlt]; rfl
    refine ⟨f1 ++ (fr ++ f2), ?_, ?_⟩
    · have h6 : OE w F ρ 1 (e.cellsL.set j r) (c1 ++ ([y] ++ c2)) (f1 ++ (fr ++ f2)) := by rw [hl]; exact h2.append (h5.append h3)
      cases e with
      | agg l => exact OE.of_cellsL (e := .agg (l.set j r)) (by simpa [RV.cellsL] using h6) (by simpa [RV.width] using hw)
      | _ =>
        simp only [RV.cellsL, List.length_singleton] at hlt
        obtain rfl : j = 0 := by omega
        simp only [RV.width] at hw
        subst hw
        simpa [RV.cellsL, RV.setCell] using h6
    · simp only [List.nil_append]
      exact List.perm_append_comm_assoc _ _ _

theorem oerase_comm (n m : Nat) (O : List Bk) : oerase n (oerase m O) = oerase m (oerase n O) := by
  induction O with
  | nil => rfl
  | cons x O ih =>
    obtain ⟨q, k, e⟩ := x
    by_cases h1 : q = n <;> by_cases h2 : q = m
    · subst h1; subst h2; rfl
    · subst h1; simp [oerase, h2]
    · subst h2; simp [oerase, h1]
    · simp [oerase, h1, h2, ih]
theorem olook_oerase {n m : Nat} (h : n ≠ m) (O : List Bk) : olook n (oerase m O) = olook n O := by
  induction O with
  | nil => rfl
  | cons x O ih =>
    obtain ⟨q, k, e⟩ := x
    by_cases h2 : q = m
    · subst h2; simp [oerase, olook, Ne.symm h]
    · simp [oerase, h2, olook, ih]

theorem le_seal {fr fr' : List RV} {O O' : List Bk} (n i j m : Nat) {k k2 len : Nat} {els els2 : List RV} {e : RV} (ho : olook n O = some (k, els)) (he : els[i]? = some e) (hj : e.cellsL[j]? = some (.ref m 0 len)) (hm : olook m O = some (k2, els2)) (hlen : len = els2.length) (hn : RV.namesL els2 = []) (hne : n ≠ m)
    (e1 : RV.killL m fr = fr') (e2 : oerase m (oset n (els.set i (e.setCell j (.ow k2 els2))) O) = O') : LE ⟨fr, O⟩ ⟨fr', O'⟩ := by
  subst e1; subst e2; subst hlen
  refine ⟨?_⟩
  rintro E a w ⟨F, ρ, fp, hr⟩
  obtain ⟨fp', hO, hp⟩ := hr.O.pull ho
  have hlt : i < els.length := (List.getElem?_eq_some_iff.1 he).1
  have hm' : olook m (oerase n O) = some (k2, els2) := by rw [olook_oerase (Ne.symm hne)]; exact hm
  have key : ∃ fpn, OL w F ρ ((n, k, els.set i (e.setCell j (.ow k2 els2))) :: oerase m (oerase n O)) fpn ∧ fpn.Perm fp' := by
    cases hO with
    | nilb _ _ _ => simp at hlt
    | map _ hb _ => obtain ⟨_, e0⟩ := hb.cell he hj; cases e0
    | @cons _ b _ _ ty c cells _ fp1 fp2 hk hρ hρb hb hs hl hmx hc hE hO2 =>
      obtain ⟨c1, ce, c2, f1, fe, f2, hcs, hc1, hce, rfl, hE1, hE2, hE3⟩ := hE.at he
      -- the block goes into the cell
      have h1 := hE2.cellsL
      obtain ⟨d1, d, d2, g1, gd, g2, hds, hd1, hd, hgs, h2, h4, h3⟩ := h1.at hj
      match d, hd with
      | [y], _ =>
        have := h4.plain_fp rfl
        subst this
        obtain ⟨q1, q2, hq1, hq2, hq3⟩ := SealL.cells (.own hm' hn .nil) h4 (by simp [RV.isAgg]) hO2
        obtain ⟨fe', hfe, hperm⟩ := hE2.setCell2 (r := .ow k2 els2) (fr := q1) hj rfl (fun y' hy' => by
          have e1 : y' = y := by
            rcases hy'.single rfl with ⟨h, _⟩ | ⟨_, _, _, _, _, _, _, e, _⟩ | ⟨_, _, _, e, rfl, _⟩ | ⟨_, _, _, e, _⟩ | ⟨_, e, _⟩
            · cases h
            · cases e
            · rcases h4.single rfl with ⟨h, _⟩ | ⟨_, _, _, _, _, _, _, e', _⟩ | ⟨_, _, _, e', rfl, _⟩ | ⟨_, _, _, e', _⟩ | ⟨_, e', _⟩
              · cases h
              · cases e'
              · cases e; cases e'; rfl
              · cases e'
              · cases e'
            · cases e
            · cases e
          rw [e1]; exact hq1)
        have hset : els.set i (e.setCell j (.ow k2 els2)) = els.take i ++ ([e.setCell j (.ow k2 els2)] ++ els.drop (i + 1)) := by
          rw [List.set_eq_take_append_cons_drop, if_pos hlt]; rfl
        have hEn : OE w F ρ k (els.set i (e.setCell j (.ow k2 els2))) cells (f1 ++ (fe' ++ f2)) := by
          rw [hset, hcs]; exact hE1.append (hfe.append hE3)
        refine ⟨_, .cons hk hρ hρb hb hs (by simpa using hl) hmx (by simpa using hc) hEn hq2, ?_⟩
        refine List.Perm.cons _ ?_
        have p1 : (f1 ++ (fe' ++ f2)).Perm (q1 ++ (f1 ++ (fe ++ f2))) := by
          refine ((List.Perm.refl f1).append (hperm.append (List.Perm.refl f2))).trans ?_
          simp only [List.append_assoc]
          exact List.perm_append_comm_assoc _ _ _
        have p2 : (f1 ++ (fe' ++ f2) ++ q2).Perm ((f1 ++ (fe ++ f2)) ++ (q1 ++ q2)) := by
          refine (p1.append (List.Perm.refl q2)).trans ?_
          simp only [List.append_assoc]
          have := List.perm_append_comm_assoc q1 (f1 ++ (fe ++ f2)) q2
          simpa only [List.append_assoc] using this
        exact p2.trans ((List.Perm.refl _).append hq3)
  obtain ⟨fpn, hOn, hpn⟩ := key
  have hcom : oerase n (oerase m (oset n (els.set i (e.setCell j (.ow k2 els2))) O)) = oerase m (oerase n O) := by
    rw [oerase_comm, oerase_oset]
  have hlook : olook n (oerase m (oset n (els.set i (e.setCell j (.ow k2 els2))) O)) = some (k, els.set i (e.setCell j (.ow k2 els2))) := by
    rw [olook_oerase hne]; exact olook_oset ho
  rw [← hcom] at hOn
  obtain ⟨fpz, hOz, hpz⟩ := hOn.push hlook
  have hperm : fpz.Perm fp := hpz.symm.trans (hpn.trans hp.symm)
  refine ⟨F, ρ, fpz, hr.defers, by simpa using hr.size, fun t => ?_, hOz, hperm.nodup_iff.2 hr.nodup, fun b hb => hr.fpF b (hperm.mem_iff.1 hb), fun b hb => hr.fpE b (hperm.mem_iff.1 hb), hr.F0, hr.Fn, hr.Fs, hr.keep, hr.hsize, hr.os, hr.tape, hr.output, hr.pin⟩
  show SV _ _ _ (lget (RV.killL m fr) t) _ _
  rw [lget_killL]
  exact (hr.fr t).kill m fun _ _ => rfl

def fillL {α : Type} (f : α → RV) (z : RV) (l : List α) (k : Nat) : List RV := (l.take k).map f ++ List.replicate (l.length - k) z
@[simp] theorem fillL_length {α : Type} (f : α → RV) (z : RV) (l : List α) (k : Nat) : k ≤ l.length → (fillL f z l k).length = l.length := by intro h; simp [fillL]; omega
theorem names_v (x : Value) : (RV.v x).names = [] := id rfl
theorem names_any : RV.any.names = [] := id rfl
theorem names_sh (e : List RV) : (RV.sh e).names = [] := id rfl
theorem names_psh (e : RV) : (RV.psh e).names = [] := id rfl
theorem names_ow (k : Nat) (e : List RV) : (RV.ow k e).names = [] := id rfl
theorem names_ref (n o l : Nat) : (RV.ref n o l).names = [n] := id rfl
theorem names_ptr (n o l : Nat) : (RV.ptr n o l).names = [n] := id rfl
theorem names_agg (l : List RV) : (RV.agg l).names = RV.namesL l := id rfl
theorem names_tup (l : List RV) : (RV.tup l).names = RV.namesL l := id rfl
theorem names_fn (f : BF) (l : List RV) : (RV.fn f l).names = RV.namesL l := id rfl
theorem namesL_nil : RV.namesL [] = [] := id rfl
theorem namesL_cons (e : RV) (l : List RV) : RV.namesL (e :: l) = e.names ++ RV.namesL l := id rfl
theorem noShL_append (a b : List RV) : RV.noShL (a ++ b) = (RV.noShL a && RV.noShL b) := by
  induction a with
  | nil => simp [RV.noShL]
  | cons x xs ih => simp [RV.noShL, ih, Bool.and_assoc]
theorem noShL_map {α : Type} (f : α → RV) (l : List α) (h : ∀ x, (f x).noSh = true) : RV.noShL (l.map f) = true := by
  induction l with
  | nil => simp [RV.noShL]
  | cons x xs ih => simp [RV.noShL, ih, h]
theorem noSh_v (x : Value) : (RV.v x).noSh = true := id (by simp [RV.noSh])
theorem noSh_ow (k : Nat) (e : List RV) : (RV.ow k e).noSh = RV.noShL e := by simp [RV.noSh]
theorem noSh_agg (e : List RV) : (RV.agg e).noSh = RV.noShL e := by simp [RV.noSh]
theorem namesL_append (a b : List RV) : RV.namesL (a ++ b) = RV.namesL a ++ RV.namesL b := by
  induction a with
  | nil => rfl
  | cons x xs ih => simp [RV.namesL, ih]
theorem namesL_map0 {α : Type} (f : α → RV) (l : List α) (h : ∀ x, (f x).names = []) : RV.namesL (l.map f) = [] := by
  induction l with
  | nil => rfl
  | cons x xs ih => simp [RV.namesL, ih, h]
theorem namesL_rep0 (z : RV) (n : Nat) (h : z.names = []) : RV.namesL (List.replicate n z) = [] := by
  induction n with
  | zero => rfl
  | succ n ih => simp [List.replicate_succ, RV.namesL, ih, h]
theorem namesL_fill0 {α : Type} (f : α → RV) (z : RV) (l : List α) (k : Nat) (h : ∀ x, (f x).names = []) (hz : z.names = []) : RV.namesL (fillL f z l k) = [] := by
  rw [fillL, namesL_append, namesL_map0 f _ h, namesL_rep0 z _ hz]; rfl

theorem fzL_map {α : Type} (f : α → RV) (l : List α) : RV.fzL (l.map f) = l.map fun x => (f x).fz := by rw [fzL_eq, List.map_map]; rfl
theorem fz_v (x : Value) : (RV.v x).fz = .v x := by simp [RV.fz]
theorem fz_sh (l : List RV) : (RV.sh l).fz = .sh l := by simp [RV.fz]
theorem fz_ow (k : Nat) (l : List RV) : (RV.ow k l).fz = .sh (RV.fzL l) := by simp [RV.fz]
theorem fz_agg (l : List RV) : (RV.agg l).fz = .agg (RV.fzL l) := by simp [RV.fz]
theorem take_map_len {α β : Type} (f : α → β) (l : List α) : (l.map f).take l.length = l.map f := by rw [List.take_of_length_le (by simp)]

theorem le_drop {fr fr' : List RV} {O O' : List Bk} (m : Nat) (e1 : RV.killL m fr = fr') (e2 : oerase m O = O') : LE ⟨fr, O⟩ ⟨fr', O'⟩ := by
  subst e1; subst e2
  refine ⟨?_⟩
  rintro E a w ⟨F, ρ, fp, hr⟩
  have key : ∃ fpn, OL w F ρ (oerase m O) fpn ∧ (∀ b ∈ fpn, b ∈ fp) ∧ fpn.Nodup := by
    cases hl : olook m O with
    | none =>
      have : oerase m O = O := by
        clear hr
        induction O with
        | nil => rfl
        | cons x O ih =>
          obtain ⟨q, k, e⟩ := x
          by_cases hq : q = m
          · simp [olook, hq] at hl
          · simp only [olook, if_neg hq] at hl
            simp only [oerase, if_neg hq, ih hl]
      exact ⟨fp, by rw [this]; exact hr.O, fun _ h => h, hr.nodup⟩
    | some ke =>
      obtain ⟨fp', hO, hp⟩ := hr.O.pull (k := ke.1) (els := ke.2) hl
      obtain ⟨f1, f2, rfl, h2, _⟩ := hO.tail
      exact ⟨f2, h2, fun b hb => hp.mem_iff.2 (by simp [hb]), (List.nodup_append.1 (hp.nodup_iff.1 hr.nodup)).2.1⟩
  obtain ⟨fpn, h1, h2, h3⟩ := key
  refine ⟨F, ρ, fpn, hr.defers, by simpa using hr.size, fun t => ?_, h1, h3, fun b hb => hr.fpF b (h2 b hb), fun b hb => hr.fpE b (h2 b hb), hr.F0, hr.Fn, hr.Fs, hr.keep, hr.hsize, hr.os, hr.tape, hr.output, hr.pin⟩
  show SV _ _ _ (lget (RV.killL m fr) t) _ _
  rw [lget_killL]
  exact (hr.fr t).kill m fun _ _ => rfl

theorem sealL_own {O n k els rs rs' O' len} (hl : olook n O = some (k, els)) (hlen : len = els.length) (hn : RV.namesL els = []) (h : SealL (oerase n O) rs rs' O') : SealL O (.ref n 0 len :: rs) (.ow k els :: rs') O' := by
  subst hlen; exact .own hl hn h
end Eng
end Go.Proofs.YtmfbcipjknjicaaGreatDoor

/- The engine, part S: calls in drawn regions. No condition. -/
namespace Go.Proofs.YtmfbcipjknjicaaGreatDoor
set_option linter.unusedSectionVars false
variable [One Bool]
namespace Eng
open Go.RowKit

def roL (l : List Nat) : Nat → Bool := fun n => l.contains n
theorem ro_of {l : List Nat} {O O' : List Bk} (h : ∀ n ∈ l, olook n O' = olook n O) : ∀ n, roL l n = true → olook n O' = olook n O := fun n hn => h n (by simpa [roL] using hn)

theorem Ef.callv {P ops new d f args ats ty pos after s argsR r} (hargs : args.toList.map (fun x => view1 s.O (s.get x)) = argsR := by first | rfl | (simp only [nz, nf, vw, nr, reduceIte, Nat.reduceEqDiff, ne_eq, not_false_eq_true]; rfl) | (simp only [nz, nf, vw, nr, reduceIte, Nat.reduceEqDiff, ne_eq, not_false_eq_true]; done) | (simp [view1, viewC, olook, nv, nz, nf, *]; fail_if_success show _)) (hsee : (args.toList.map s.get).all RV.seeOk = true := by rfl) (hc : callable P f = true := by kernel_rfl) (hfc : FCr P f argsR r) (hr : r.resOkT = true := by simp [RV.resOkT, RV.resOk, RV.isAgg, nm]) (hns : r.noSh = true := by simp [ns]) (hnb : (bnames (openR d r).2).Nodup := by simp [nz, nm])
    (hnew : bnames (openR d r).2 = new := by first | rfl | (simp [nz, nm]; fail_if_success show _)) (hf : ∀ m ∈ new, m < 1000000000000 ∧ m ∉ onames s.O := by simp [nz, nm]) : Ef P ops new ⟨some d, .call ⟨.value (.func f), args, ats⟩, ty, pos, after, none⟩ s (openR d r).1 ((openR d r).2 ++ s.O) := by
  subst hnew
  refine Ef.plain fun s2 hs hO hn => ?_
  have hg : ∀ x ∈ args.toList, s2.get x = s.get x := fun x hx => hs x (by simp only [Op.operands, Call.operands, Array.toList_append]; simp [hx])
  rw [← hO]
  refine ops_callv ?_ ?_ hc hfc hr hns hnb fun m hm => ⟨(hf m hm).1, hn m hm, by rw [hO]; exact (hf m hm).2⟩
  · rw [← hargs, hO]
    exact List.map_congr_left fun x hx => by rw [hg x hx]
  · rw [List.map_congr_left hg]; exact hsee
section
variable {P : Program} {ops : Array Oper} {RO : Nat → Bool} {d : Option Tmp} {ty : TypeId} {pos : String} {after : Array Edge} {s : St} {j : Nat} {want : Bool} {t : Tmp} {b : Bool}
theorem Fl.move {x} : Fl P ops RO ⟨d, .move x, ty, pos, after, none⟩ s (s.get x) := .plain fun s2 hs _ => by
  have h := ops_move (P := P) (d := d) (ty := ty) (pos := pos) (after := after) (g := none) (s := s2) (x := x)
  rwa [hs x (by simp [Op.operands])] at h
theorem Fl.assign {x} : Fl P ops RO ⟨d, .assign x, ty, pos, after, none⟩ s (s.get x) := .plain fun s2 hs _ => by
  have h := ops_assign (P := P) (d := d) (ty := ty) (pos := pos) (after := after) (g := none) (s := s2) (x := x)
  rwa [hs x (by simp [Op.operands])] at h
theorem Fl.pick_t {c x y} (hc : s.get c = .v (.bool true)) : Fl P ops RO ⟨d, .pick c x y, ty, pos, after, none⟩ s (s.get x) := .plain fun s2 hs _ => by
  have h := ops_pick_t (P := P) (d := d) (ty := ty) (pos := pos) (after := after) (g := none) (s := s2) (c := c) (x := x) (y := y) ((hs c (by simp [Op.operands])).trans hc)
  rwa [hs x (by simp [Op.operands])] at h
theorem Fl.pick_f {c x y} (hc : s.get c = .v (.bool false)) : Fl P ops RO ⟨d, .pick c x y, ty, pos, after, none⟩ s (s.get y) := .plain fun s2 hs _ => by
  have h := ops_pick_f (P := P) (d := d) (ty := ty) (pos := pos) (after := after) (g := none) (s := s2) (c := c) (x := x) (y := y) ((hs c (by simp [Op.operands])).trans hc)
  rwa [hs y (by simp [Op.operands])] at h
theorem Fl.moveY {x} (hj : gslot ops j = some t) (ht : lget s.fr t = .v (.bool b)) (hb : b = want) : Fl P ops RO ⟨d, .move x, ty, pos, after, some (j, want)⟩ s (s.get x) := .yes hj ht hb fun s2 hs _ => by
  have h := ops_move (P := P) (d := d) (ty := ty) (pos := pos) (after := after) (g := some (j, want)) (s := s2) (x := x)
  rwa [hs x (by simp [Op.operands])] at h
theorem Fl.assignY {x} (hj : gslot ops j = some t) (ht : lget s.fr t = .v (.bool b)) (hb : b = want) : Fl P ops RO ⟨d, .assign x, ty, pos, after, some (j, want)⟩ s (s.get x) := .yes hj ht hb fun s2 hs _ => by
  have h := ops_assign (P := P) (d := d) (ty := ty) (pos := pos) (after := after) (g := some (j, want)) (s := s2) (x := x)
  rwa [hs x (by simp [Op.operands])] at h
theorem Fl.pick_tY {c x y} (hj : gslot ops j = some t) (ht : lget s.fr t = .v (.bool b)) (hb : b = want) (hc : s.get c = .v (.bool true)) : Fl P ops RO ⟨d, .pick c x y, ty, pos, after, some (j, want)⟩ s (s.get x) := .yes hj ht hb fun s2 hs _ => by
  have h := ops_pick_t (P := P) (d := d) (ty := ty) (pos := pos) (after := after) (g := some (j, want)) (s := s2) (c := c) (x := x) (y := y) ((hs c (by simp [Op.operands])).trans hc)
  rwa [hs x (by simp [Op.operands])] at h
theorem Fl.pick_fY {c x y} (hj : gslot ops j = some t) (ht : lget s.fr t = .v (.bool b)) (hb : b = want) (hc : s.get c = .v (.bool false)) : Fl P ops RO ⟨d, .pick c x y, ty, pos, after, some (j, want)⟩ s (s.get y) := .yes hj ht hb fun s2 hs _ => by
  have h := ops_pick_f (P := P) (d := d) (ty := ty) (pos := pos) (after := after) (g := some (j, want)) (s := s2) (c := c) (x := x) (y := y) ((hs c (by simp [Op.operands])).trans hc)
  rwa [hs y (by simp [Op.operands])] at h
end

end Eng
end Go.Proofs.YtmfbcipjknjicaaGreatDoor

/- The engine, part T: the operations that only look, as a drawn region takes them. No condition. Printed by wip/bin/genfs.py. -/
namespace Go.Proofs.YtmfbcipjknjicaaGreatDoor
set_option linter.unusedSectionVars false
variable [One Bool]
namespace Eng
open Go.RowKit
set_option linter.unusedSimpArgs false

def Fs (P : Program) (RO : Nat → Bool) (o : Oper) (s : St) (r : RV) : Prop :=
  ∀ s2 : St, (∀ x ∈ o.op.operands.toList, s2.get x = s.get x) → (∀ n, RO n = true → olook n s2.O = olook n s.O) → OpS P o s2 ⟨sput o.dst r s2.fr, s2.O⟩
theorem Fl.pl {P ops RO d op ty pos after s r} (h : Fs P RO ⟨d, op, ty, pos, after, none⟩ s r) : Fl P ops RO ⟨d, op, ty, pos, after, none⟩ s r := .plain fun s2 hs hO => h s2 hs hO
theorem Fl.ye {P ops RO d op ty pos after j want t b s r} (hj : gslot ops j = some t) (ht : lget s.fr t = .v (.bool b)) (hb : b = want) (h : Fs P RO ⟨d, op, ty, pos, after, some (j, want)⟩ s r) : Fl P ops RO ⟨d, op, ty, pos, after, some (j, want)⟩ s r := .yes hj ht hb fun s2 hs hO => h s2 hs hO

section
variable {P : Program} {RO : Nat → Bool} {s : St} {d : Option Tmp} {ty : TypeId} {pos : String} {after : Array Edge} {g : Option (Nat × Bool)}

theorem fs_lss {x y t u k m n} (hx : s.get x = .v (.int k m)) (hy : s.get y = .v (.int k n)) : Fs P RO ⟨d, .binOp .lss t x y u, ty, pos, after, g⟩ s (.v (.bool (decide (m < n)))) := fun s2 hs hO => ops_lss ((hs _ (by simp [Op.operands, Call.operands])).trans hx) ((hs _ (by simp [Op.operands, Call.operands])).trans hy)
theorem fs_leq {x y t u k m n} (hx : s.get x = .v (.int k m)) (hy : s.get y = .v (.int k n)) : Fs P RO ⟨d, .binOp .leq t x y u, ty, pos, after, g⟩ s (.v (.bool (decide (m ≤ n)))) := fun s2 hs hO => ops_leq ((hs _ (by simp [Op.operands, Call.operands])).trans hx) ((hs _ (by simp [Op.operands, Call.operands])).trans hy)
theorem fs_gtr {x y t u k m n} (hx : s.get x = .v (.int k m)) (hy : s.get y = .v (.int k n)) : Fs P RO ⟨d, .binOp .gtr t x y u, ty, pos, after, g⟩ s (.v (.bool (decide (n < m)))) := fun s2 hs hO => ops_gtr ((hs _ (by simp [Op.operands, Call.operands])).trans hx) ((hs _ (by simp [Op.operands, Call.operands])).trans hy)
theorem fs_geq {x y t u k m n} (hx : s.get x = .v (.int k m)) (hy : s.get y = .v (.int k n)) : Fs P RO ⟨d, .binOp .geq t x y u, ty, pos, after, g⟩ s (.v (.bool (decide (n ≤ m)))) := fun s2 hs hO => ops_geq ((hs _ (by simp [Op.operands, Call.operands])).trans hx) ((hs _ (by simp [Op.operands, Call.operands])).trans hy)
theorem fs_eqi {x y t u k m n} (hx : s.get x = .v (.int k m)) (hy : s.get y = .v (.int k n)) : Fs P RO ⟨d, .binOp .eql t x y u, ty, pos, after, g⟩ s (.v (.bool (decide (m = n)))) := fun s2 hs hO => ops_eqi ((hs _ (by simp [Op.operands, Call.operands])).trans hx) ((hs _ (by simp [Op.operands, Call.operands])).trans hy)
theorem fs_nei {x y t u k m n} (hx : s.get x = .v (.int k m)) (hy : s.get y = .v (.int k n)) : Fs P RO ⟨d, .binOp .neq t x y u, ty, pos, after, g⟩ s (.v (.bool (decide (m ≠ n)))) := fun s2 hs hO => ops_nei ((hs _ (by simp [Op.operands, Call.operands])).trans hx) ((hs _ (by simp [Op.operands, Call.operands])).trans hy)
theorem fs_add {x y t u} {m n : Int} (hx : s.get x = .v (.int .i64 m)) (hy : s.get y = .v (.int .i64 n)) (h1 : -9223372036854775808 ≤ m + n) (h2 : m + n ≤ 9223372036854775807) : Fs P RO ⟨d, .binOp .add t x y u, ty, pos, after, g⟩ s (.v (.int .i64 (m + n))) := fun s2 hs hO => ops_add ((hs _ (by simp [Op.operands, Call.operands])).trans hx) ((hs _ (by simp [Op.operands, Call.operands])).trans hy) h1 h2
theorem fs_sub {x y t u} {m n : Int} (hx : s.get x = .v (.int .i64 m)) (hy : s.get y = .v (.int .i64 n)) (h1 : -9223372036854775808 ≤ m - n) (h2 : m - n ≤ 9223372036854775807) : Fs P RO ⟨d, .binOp .sub t x y u, ty, pos, after, g⟩ s (.v (.int .i64 (m - n))) := fun s2 hs hO => ops_sub ((hs _ (by simp [Op.operands, Call.operands])).trans hx) ((hs _ (by simp [Op.operands, Call.operands])).trans hy) h1 h2
theorem fs_mul {x y t u} {m n : Int} (hx : s.get x = .v (.int .i64 m)) (hy : s.get y = .v (.int .i64 n)) (h1 : -9223372036854775808 ≤ m * n) (h2 : m * n ≤ 9223372036854775807) : Fs P RO ⟨d, .binOp .mul t x y u, ty, pos, after, g⟩ s (.v (.int .i64 (m * n))) := fun s2 hs hO => ops_mul ((hs _ (by simp [Op.operands, Call.operands])).trans hx) ((hs _ (by simp [Op.operands, Call.operands])).trans hy) h1 h2
theorem fs_inc {x t u} {a : Nat} (hx : s.get x = .v (.int .i64 (a : Nat))) (h : a + 1 ≤ 9223372036854775807) : Fs P RO ⟨d, .binOp .add t x (.const (.int .i64 1)) u, ty, pos, after, g⟩ s (.v (.int .i64 ((a + 1 : Nat) : Int))) := fun s2 hs hO => ops_inc ((hs _ (by simp [Op.operands, Call.operands])).trans hx) h
theorem fs_addn {x y t u} {a b : Nat} (hx : s.get x = .v (.int .i64 (a : Nat))) (hy : s.get y = .v (.int .i64 (b : Nat))) (h : a + b ≤ 9223372036854775807) : Fs P RO ⟨d, .binOp .add t x y u, ty, pos, after, g⟩ s (.v (.int .i64 ((a + b : Nat) : Int))) := fun s2 hs hO => ops_addn ((hs _ (by simp [Op.operands, Call.operands])).trans hx) ((hs _ (by simp [Op.operands, Call.operands])).trans hy) h
theorem fs_not {x b t} (hx : s.get x = .v (.bool b)) : Fs P RO ⟨d, .unOp .not t x, ty, pos, after, g⟩ s (.v (.bool !b)) := fun s2 hs hO => ops_not ((hs _ (by simp [Op.operands, Call.operands])).trans hx)
theorem fs_pick_b {c x y b p q} (hc : s.get c = .v (.bool b)) (hx : s.get x = .v (.bool p)) (hy : s.get y = .v (.bool q)) : Fs P RO ⟨d, .pick c x y, ty, pos, after, g⟩ s (.v (.bool (if b then p else q))) := fun s2 hs hO => ops_pick_b ((hs _ (by simp [Op.operands, Call.operands])).trans hc) ((hs _ (by simp [Op.operands, Call.operands])).trans hx) ((hs _ (by simp [Op.operands, Call.operands])).trans hy)
theorem fs_eqb {x y t u p q} (hx : s.get x = .v (.bool p)) (hy : s.get y = .v (.bool q)) (ht : P.underlying t = some .bool) : Fs P RO ⟨d, .binOp .eql t x y u, ty, pos, after, g⟩ s (.v (.bool (p == q))) := fun s2 hs hO => ops_eqb ((hs _ (by simp [Op.operands, Call.operands])).trans hx) ((hs _ (by simp [Op.operands, Call.operands])).trans hy) ht
theorem fs_neb {x y t u p q} (hx : s.get x = .v (.bool p)) (hy : s.get y = .v (.bool q)) (ht : P.underlying t = some .bool) : Fs P RO ⟨d, .binOp .neq t x y u, ty, pos, after, g⟩ s (.v (.bool (p != q))) := fun s2 hs hO => ops_neb ((hs _ (by simp [Op.operands, Call.operands])).trans hx) ((hs _ (by simp [Op.operands, Call.operands])).trans hy) ht
theorem fs_eqs {x y t u p q} (hx : s.get x = .str p) (hy : s.get y = .str q) : Fs P RO ⟨d, .binOp .eql t x y u, ty, pos, after, g⟩ s (.v (.bool (decide (p = q)))) := fun s2 hs hO => ops_eqs ((hs _ (by simp [Op.operands, Call.operands])).trans hx) ((hs _ (by simp [Op.operands, Call.operands])).trans hy)
theorem fs_nes {x y t u p q} (hx : s.get x = .str p) (hy : s.get y = .str q) : Fs P RO ⟨d, .binOp .neq t x y u, ty, pos, after, g⟩ s (.v (.bool (decide (p ≠ q)))) := fun s2 hs hO => ops_nes ((hs _ (by simp [Op.operands, Call.operands])).trans hx) ((hs _ (by simp [Op.operands, Call.operands])).trans hy)
theorem fs_lts {x y t u p q} (hx : s.get x = .str p) (hy : s.get y = .str q) : Fs P RO ⟨d, .binOp .lss t x y u, ty, pos, after, g⟩ s (.v (.bool (Op.bytesLess p q))) := fun s2 hs hO => ops_lts ((hs _ (by simp [Op.operands, Call.operands])).trans hx) ((hs _ (by simp [Op.operands, Call.operands])).trans hy)
theorem fs_ges {x y t u p q} (hx : s.get x = .str p) (hy : s.get y = .str q) : Fs P RO ⟨d, .binOp .geq t x y u, ty, pos, after, g⟩ s (.v (.bool (!Op.bytesLess p q))) := fun s2 hs hO => ops_ges ((hs _ (by simp [Op.operands, Call.operands])).trans hx) ((hs _ (by simp [Op.operands, Call.operands])).trans hy)
theorem fs_cat {x y t u p q} (hx : s.get x = .str p) (hy : s.get y = .str q) (h : p.length + q.length ≤ 9223372036854775807) : Fs P RO ⟨d, .binOp .add t x y u, ty, pos, after, g⟩ s (.str (p ++ q)) := fun s2 hs hO => ops_cat ((hs _ (by simp [Op.operands, Call.operands])).trans hx) ((hs _ (by simp [Op.operands, Call.operands])).trans hy) h
theorem fs_byte {x ix t p k i b} (hx : s.get x = .str p) (hi : s.get ix = .v (.int k (i : Nat))) (hb : p[i]? = some b) (ht : P.underlying t = some .string) : Fs P RO ⟨d, .index t x ix, ty, pos, after, g⟩ s (.v (.int .u8 b.toNat)) := fun s2 hs hO => ops_byte ((hs _ (by simp [Op.operands, Call.operands])).trans hx) ((hs _ (by simp [Op.operands, Call.operands])).trans hi) hb ht
theorem fs_lens {x c p} (hx : s.get x = .str p) (ht : P.underlying c = some .string) : Fs P RO ⟨d, .call ⟨.builtin .len, #[x], #[c]⟩, ty, pos, after, g⟩ s (.v (.int .i64 p.length)) := fun s2 hs hO => ops_lens ((hs _ (by simp [Op.operands, Call.operands])).trans hx) ht
theorem fs_len_sh {x c els} (hx : s.get x = .sh els) (ht : P.underlying c = some (.slice (P.elem c))) : Fs P RO ⟨d, .call ⟨.builtin .len, #[x], #[c]⟩, ty, pos, after, g⟩ s (.v (.int .i64 els.length)) := fun s2 hs hO => ops_len_sh ((hs _ (by simp [Op.operands, Call.operands])).trans hx) ht
theorem fs_len_ref {x c n off len} (hx : s.get x = .ref n off len) (ht : P.underlying c = some (.slice (P.elem c))) : Fs P RO ⟨d, .call ⟨.builtin .len, #[x], #[c]⟩, ty, pos, after, g⟩ s (.v (.int .i64 len)) := fun s2 hs hO => ops_len_ref ((hs _ (by simp [Op.operands, Call.operands])).trans hx) ht
theorem fs_len_nil {x c} (hx : s.get x = .v (.slice none 0 0)) (ht : P.underlying c = some (.slice (P.elem c))) : Fs P RO ⟨d, .call ⟨.builtin .len, #[x], #[c]⟩, ty, pos, after, g⟩ s (.v (.int .i64 0)) := fun s2 hs hO => ops_len_nil ((hs _ (by simp [Op.operands, Call.operands])).trans hx) ht
theorem fs_idx_map {α : Type} {f : α → RV} {l : List α} {x ix c k} {i : Nat} (hx : s.get x = .sh (l.map f)) (hi : s.get ix = .v (.int k (i : Nat))) (h : i < l.length) (ht : P.underlying c = some (.slice (P.elem c))) (hw : P.cellsOf (P.elem c) = (f l[i]).width) : Fs P RO ⟨d, .indexAddr c x ix, ty, pos, after, g⟩ s (.psh (f l[i])) := fun s2 hs hO => ops_idx_map ((hs _ (by simp [Op.operands, Call.operands])).trans hx) ((hs _ (by simp [Op.operands, Call.operands])).trans hi) h ht hw
theorem fs_load_psh {x t e} (hx : s.get x = .psh e) (hp : e.plain = true) (ht : scalarT P t = true) : Fs P RO ⟨d, .load t x, ty, pos, after, g⟩ s (e) := fun s2 hs hO => ops_load_psh ((hs _ (by simp [Op.operands, Call.operands])).trans hx) hp ht
theorem fs_load_psha {x t l} (hx : s.get x = .psh (.agg l)) (ht : aggT P t = true) (hsz : P.cellsOf t = l.length) (h0 : 0 < l.length) : Fs P RO ⟨d, .load t x, ty, pos, after, g⟩ s (.agg l) := fun s2 hs hO => ops_load_psha ((hs _ (by simp [Op.operands, Call.operands])).trans hx) ht hsz h0
theorem fs_fld_psh {x t f off l c} (hx : s.get x = .psh (.agg l)) (hf : fldOk P t f off = true) (hc : l[off]? = some c) : Fs P RO ⟨d, .fieldAddr t x f, ty, pos, after, g⟩ s (.psh c) := fun s2 hs hO => ops_fld_psh ((hs _ (by simp [Op.operands, Call.operands])).trans hx) hf hc
theorem fs_fld_ptr {x t f off n i k els} (hx : s.get x = .ptr n i 0) (hf : fldOk P t f off = true) (hro : RO n = true) (ho : olook n s.O = some (k, els)) (hi : i < els.length) : Fs P RO ⟨d, .fieldAddr t x f, ty, pos, after, g⟩ s (.ptr n i off) := fun s2 hs hO => ops_fld_ptr ((hs _ (by simp [Op.operands, Call.operands])).trans hx) hf ((hO _ hro).trans ho) hi
theorem fs_idx_ref {x ix c n off len k i kk els} (hx : s.get x = .ref n off len) (hi : s.get ix = .v (.int k (i : Nat))) (hl : i < len) (hro : RO n = true) (ho : olook n s.O = some (kk, els)) (hne : els ≠ []) (ht : P.underlying c = some (.slice (P.elem c))) (hw : P.cellsOf (P.elem c) = kk) : Fs P RO ⟨d, .indexAddr c x ix, ty, pos, after, g⟩ s (.ptr n (off + i) 0) := fun s2 hs hO => ops_idx_ref ((hs _ (by simp [Op.operands, Call.operands])).trans hx) ((hs _ (by simp [Op.operands, Call.operands])).trans hi) hl ((hO _ hro).trans ho) hne ht hw
theorem fs_load_ptr {x t n i j k els e c} (hx : s.get x = .ptr n i j) (hro : RO n = true) (ho : olook n s.O = some (k, els)) (he : els[i]? = some e) (hc : e.cellsL[j]? = some c) (hp : c.plain = true) (ht : scalarT P t = true) : Fs P RO ⟨d, .load t x, ty, pos, after, g⟩ s (c) := fun s2 hs hO => ops_load_ptr ((hs _ (by simp [Op.operands, Call.operands])).trans hx) ((hO _ hro).trans ho) he hc hp ht
theorem fs_load_ptra {x t n i k els l} (hx : s.get x = .ptr n i 0) (hro : RO n = true) (ho : olook n s.O = some (k, els)) (he : els[i]? = some (.agg l)) (hp : l.all RV.plain = true) (ht : aggT P t = true) (hsz : P.cellsOf t = l.length) : Fs P RO ⟨d, .load t x, ty, pos, after, g⟩ s (.agg l) := fun s2 hs hO => ops_load_ptra ((hs _ (by simp [Op.operands, Call.operands])).trans hx) ((hO _ hro).trans ho) he hp ht hsz
end

end Eng
end Go.Proofs.YtmfbcipjknjicaaGreatDoor
