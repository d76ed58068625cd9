/- The engine, part K: calls; what comes back; blocks sealed and frozen; a function's end. No condition. -/
import Derived.Test.YtpbokegnbipbjaaEngJ
namespace Go.Proofs.Ytpbokegnbipbjaa
namespace Eng
open Go.RowKit

/-! What comes back gets names. -/

def openC (nm : Nat) : RV → RV × List Bk
  | .ow k els => (.ref nm 0 els.length, [(nm, k, els)])
  | r => (r, [])
def openL (nm step : Nat) : List RV → List RV × List Bk
  | [] => ([], [])
  | r :: rs => ((openC (nm + step) r).1 :: (openL (nm + step) step rs).1, (openC (nm + step) r).2 ++ (openL (nm + step) step rs).2)
def open1 (nm step : Nat) : RV → RV × List Bk
  | .agg l => (.agg (openL nm step l).1, (openL nm step l).2)
  | r => openC nm r
def openT (nm : Nat) : List RV → List RV × List Bk
  | [] => ([], [])
  | r :: rs => ((open1 (nm + 1000) 100000000 r).1 :: (openT (nm + 1000) rs).1, (open1 (nm + 1000) 100000000 r).2 ++ (openT (nm + 1000) rs).2)
def openR (nm : Nat) : RV → RV × List Bk
  | .tup l => (.tup (openT nm l).1, (openT nm l).2)
  | r => open1 nm 1000 r

def bnames (O : List Bk) : List Nat := O.map (·.1)

/-- A step in which blocks by value become named ones. -/
def Opens (w : World) (F : Nat → Prop) (ρ : Places) (bks : List Bk) (fp : List Nat) (ρ' : Places) : Prop :=
  (∀ m, m ∉ bnames bks → ρ' m = ρ m) ∧ ∀ O fpO, OL w F ρ' O fpO → ∃ fp', OL w F ρ' (bks ++ O) fp' ∧ (fp ++ fpO).Perm fp'

theorem OE.opnC {w F ρ r y fp} (nm : Nat) (h : OE w F ρ 1 [r] [y] fp) (ha : r.isAgg = false) (hn : nm ∉ r.names) : ∃ ρ', Opens w F ρ (openC nm r).2 fp ρ' ∧ OE w F ρ' 1 [(openC nm r).1] [y] [] := by
  by_cases how : ∃ k els, r = .ow k els
  · obtain ⟨k, els, rfl⟩ := how
    rcases h.single rfl with ⟨h1, _⟩ | ⟨b, cap, ty, c, k', els', fp1, e, rfl, rfl, hk, hb, hs, hl, hm, hnn, hE⟩ | ⟨_, _, _, e, _⟩ | ⟨_, _, _, e, _⟩ | ⟨k', e, rfl, rfl, hk⟩
    · cases h1
    · cases e
      refine ⟨fun m => if m = nm then (some b, k, cap) else ρ m, ⟨fun m hm => ?_, fun O fpO hO => ?_⟩, ?_⟩
      · simp only [openC, bnames, List.map_cons, List.map_nil, List.mem_singleton] at hm
        simp [hm]
      · have := OL.cons (n := nm) (ρ := fun m => if m = nm then (some b, k, cap) else ρ m) hk (by simp) (by simp) hb (by simpa using hs) (by simpa using hl) (by simpa using hm) rfl (hE.places (by simp [hnn])) hO
        exact ⟨_, this, by simp⟩
      · have := OE.ref (w := w) (F := F) (ρ := fun m => if m = nm then (some b, k, cap) else ρ m) nm 0 els.length (.nil _ _)
        simpa [openC] using this
    · cases e
    · cases e
    · cases e
      refine ⟨fun m => if m = nm then (none, k, 0) else ρ m, ⟨fun m hm => ?_, fun O fpO hO => ?_⟩, ?_⟩
      · simp only [openC, bnames, List.map_cons, List.map_nil, List.mem_singleton] at hm
        simp [hm]
      · exact ⟨_, OL.nilb hk (by simp) hO, by simp⟩
      · have := OE.ref (w := w) (F := F) (ρ := fun m => if m = nm then (none, k, 0) else ρ m) nm 0 0 (.nil _ _)
        simpa [openC] using this
  · have e : openC nm r = (r, []) := by cases r <;> first | rfl | exact absurd ⟨_, _, rfl⟩ how
    have hf : fp = [] := by
      rcases h.single ha with ⟨_, h3⟩ | ⟨_, _, _, _, k, els, _, e, _⟩ | ⟨_, _, _, e, _, h3⟩ | ⟨_, _, _, e, _, h3⟩ | ⟨k, e, _, h3, _⟩
      · exact h3
      · exact absurd ⟨k, els, e⟩ how
      · exact h3
      · exact h3
      · exact h3
    subst hf
    rw [e]
    exact ⟨ρ, ⟨fun _ _ => rfl, fun O fpO hO => ⟨fpO, hO, .refl _⟩⟩, h⟩

theorem openC_names (nm : Nat) (r : RV) : ∀ m ∈ bnames (openC nm r).2, m = nm := by
  cases r <;> simp [openC, bnames]
theorem openC_rest (nm : Nat) (r : RV) : ∀ m ∈ (openC nm r).1.names, m ∈ r.names ∨ m = nm := by
  cases r <;> simp [openC, RV.names] <;> intros <;> simp_all
theorem openL_names (step : Nat) (hs : 0 < step) : ∀ (rs : List RV) (nm : Nat), ∀ m ∈ bnames (openL nm step rs).2, nm < m
  | [], nm, m, hm => by simp [openL, bnames] at hm
  | r :: rs, nm, m, hm => by
    simp only [openL, bnames, List.map_append, List.mem_append] at hm
    rcases hm with hm | hm
    · have := openC_names _ r m hm; omega
    · have := openL_names step hs rs (nm + step) m hm; omega

theorem Opens.trans {w F ρ ρ1 ρ2 b1 b2 f1 f2} (h1 : Opens w F ρ b1 f1 ρ1) (h2 : Opens w F ρ1 b2 f2 ρ2) (hd : ∀ m ∈ bnames b1, m ∉ bnames b2) (hc : ∀ b ∈ b1, ∀ m ∈ RV.namesL b.2.2, m ∉ bnames b2) : Opens w F ρ (b1 ++ b2) (f1 ++ f2) ρ2 := by
  refine ⟨fun m hm => ?_, fun O fpO hO => ?_⟩
  · simp only [bnames, List.map_append, List.mem_append, not_or] at hm
    rw [h2.1 m hm.2, h1.1 m hm.1]
  · obtain ⟨fp', hO', hp'⟩ := h2.2 O fpO hO
    -- the first blocks, under the last places
    have key : ∀ O' fpO', OL w F ρ2 O' fpO' → ∃ fp', OL w F ρ2 (b1 ++ O') fp' ∧ (f1 ++ fpO').Perm fp' := by
      intro O' fpO' hO'
      -- through an empty rest
      obtain ⟨g, hg, hgp⟩ := h1.2 [] [] .nil
      rw [List.append_nil] at hg hgp
      have hg2 : OL w F ρ2 b1 g := hg.places fun m hm => h2.1 m (by
        have hmem : ∀ O : List Bk, (∀ m ∈ bnames O, m ∉ bnames b2) → (∀ b ∈ O, ∀ m ∈ RV.namesL b.2.2, m ∉ bnames b2) → m ∈ onames O → m ∉ bnames b2 := by
          intro O
          induction O with
          | nil => intro _ _ h; simp [onames] at h
          | cons x O ih =>
            obtain ⟨q, k, els⟩ := x
            intro h3 h4 h5
            simp only [onames, List.mem_cons, List.mem_append] at h5
            rcases h5 with rfl | h5 | h5
            · exact h3 _ (by simp [bnames])
            · exact h4 (q, k, els) (by simp) m h5
            · exact ih (fun q hq => h3 q (by simp only [bnames, List.map_cons, List.mem_cons] at hq ⊢; exact .inr hq)) (fun b hb => h4 b (by simp [hb])) h5
        exact hmem b1 hd hc hm)
      have app : ∀ (A : List Bk) (fa : List Nat), OL w F ρ2 A fa → OL w F ρ2 (A ++ O') (fa ++ fpO') := by
        intro A
        induction A with
        | nil => intro fa h; cases h; simpa using hO'
        | cons x A ih =>
          intro fa h
          obtain ⟨q1, q2, rfl, h6, h7⟩ := h.tail
          have := h7 _ _ (ih _ h6)
          rw [List.append_assoc]; simpa using this
      exact ⟨_, app _ _ hg2, hgp.append (.refl _)⟩
    obtain ⟨fp'', hO'', hp''⟩ := key _ _ hO'
    refine ⟨fp'', by simpa using hO'', ?_⟩
    rw [List.append_assoc]
    exact ((List.Perm.refl f1).append hp').trans hp''

theorem OE.opnL {w F} (step : Nat) (hs : 0 < step) : ∀ (rs : List RV) (ρ : Places) (nm : Nat) (ys : List Value) (fp : List Nat), OE w F ρ 1 rs ys fp → (∀ r ∈ rs, r.isAgg = false) → RV.namesL rs = [] →
    ∃ ρ', Opens w F ρ (openL nm step rs).2 fp ρ' ∧ OE w F ρ' 1 (openL nm step rs).1 ys []
  | [], ρ, nm, ys, fp, h, _, _ => by cases h; exact ⟨ρ, ⟨fun _ _ => rfl, fun O fpO hO => ⟨fpO, hO, .refl _⟩⟩, .nil _ _⟩
  | r :: rs, ρ, nm, ys, fp, h, ha, hn => by
    obtain ⟨c1, c2, f1, f2, rfl, rfl, hc1, h1, h2⟩ := h.cons_inv
    simp only [RV.namesL, List.append_eq_nil_iff] at hn
    match c1, hc1 with
    | [y], _ =>
      obtain ⟨ρ1, hO1, hE1⟩ := h1.opnC (nm + step) (ha r (by simp)) (by simp [hn.1])
      have h2' : OE w F ρ1 1 rs c2 f2 := h2.places fun m hm => by simp [hn.2] at hm
      obtain ⟨ρ2, hO2, hE2⟩ := OE.opnL step hs rs ρ1 (nm + step) c2 f2 h2' (fun r hr => ha r (by simp [hr])) hn.2
      refine ⟨ρ2, hO1.trans hO2 ?_ ?_, ?_⟩
      · intro m hm hm2
        have := openC_names _ r m hm
        have := openL_names step hs rs (nm + step) m hm2
        omega
      · intro b hb m hm
        cases r <;> simp [openC] at hb
        subst hb
        rename_i k els
        rcases h1.single rfl with ⟨h3, _⟩ | ⟨_, _, _, _, _, _, _, e, _, _, _, _, _, _, _, hnn, _⟩ | ⟨_, _, _, e, _⟩ | ⟨_, _, _, e, _⟩ | ⟨k', e, _⟩
        · cases h3
        · cases e; rw [hnn] at hm; cases hm
        · cases e
        · cases e
        · cases e; simp [RV.namesL] at hm
      · refine OE.cons (fp1 := []) (fp2 := []) (hE1.places fun m hm => ?_) hE2
        refine hO2.1 m fun hm2 => ?_
        simp only [RV.namesL, List.append_nil] at hm
        have h5 := openL_names step hs rs (nm + step) m hm2
        rcases openC_rest _ r m hm with h6 | h6
        · simp [hn.1] at h6
        · omega

theorem S1.opn {w F ρ r y fp} (nm step : Nat) (hs : 0 < step) (h : S1 w F ρ r y fp) (hn : r.names = []) (hc : ∀ l, r = .agg l → l.all (fun r => !r.isAgg) = true) (hfn : ∀ f l, r ≠ .fn f l) :
    ∃ ρ', Opens w F ρ (open1 nm step r).2 fp ρ' ∧ S1 w F ρ' (open1 nm step r).1 y [] := by
  cases h with
  | any => exact ⟨ρ, ⟨fun _ _ => rfl, fun O fpO hO => ⟨fpO, hO, .refl _⟩⟩, .any _⟩
  | v => exact ⟨ρ, ⟨fun _ _ => rfl, fun O fpO hO => ⟨fpO, hO, .refl _⟩⟩, .v _⟩
  | cell ha h =>
    obtain ⟨ρ', h1, h2⟩ := h.opnC nm ha (by simp [hn])
    have e : open1 nm step r = openC nm r := by cases r <;> simp [RV.isAgg] at ha <;> rfl
    rw [e]
    refine ⟨ρ', h1, .cell ?_ h2⟩
    cases r <;> simp [RV.isAgg] at ha <;> rfl
  | @agg l c fp h =>
    obtain ⟨ρ', h1, h2⟩ := OE.opnL step hs l ρ nm c.toList fp h (fun r hr => by have := hc l rfl; simp at this; exact this r hr) (by simpa [RV.names] using hn)
    exact ⟨ρ', h1, .agg h2⟩
  | fn => exact absurd rfl (hfn _ _)

theorem open1_names (nm step : Nat) (hs : 0 < step) (r : RV) : ∀ m ∈ bnames (open1 nm step r).2, nm ≤ m := by
  intro m hm
  cases r <;> simp only [open1] at hm
  case agg l => have := openL_names step hs l nm m hm; omega
  all_goals (have := openC_names _ _ m hm; omega)

/-! Calls. -/

def callable (P : Program) (f : FuncId) : Bool := match P.funcs[f]? with | some fn => fn.body.isSome && (fn.name != "runtime.NumGoroutine") | none => false

theorem run_call {P : Program} {o : Oper} {a : Act} {w : World} {f args ats} (ho : o.op = .call ⟨.value (.func f), args, ats⟩) (hc : callable P f = true) : (execOp a.eval o).run P w = .ok (.enter f (args.map a.eval)) w := by
  unfold callable at hc
  split at hc
  · rename_i fn hf
    simp only [Bool.and_eq_true, bne_iff_ne] at hc
    obtain ⟨bd, hb⟩ := Option.isSome_iff_exists.1 hc.1
    simp [execOp, ho, resolve, Deferred.ofValue, invoke, Act.eval, callFunc, hf, hc.2, hb]
  · cases hc

/-- A function that hands back just this, and keeps nothing. -/
def FCr (P : Program) (f : FuncId) (args : List RV) (r : RV) : Prop := FC P f args [] fun rv O => rv = r ∧ O = []

def RV.notTup : RV → Bool | .tup _ => false | _ => true

theorem RelX.args {E s a w F ρ fp} (h : RelX E s a w F ρ fp) (l : List Operand) (hn : (l.map s.get).all RV.notTup = true) : SL w F ρ (l.map s.get) (l.map a.eval) [] := by
  induction l with
  | nil => exact .nil
  | cons x l ih =>
    simp only [List.map_cons, List.all_cons, Bool.and_eq_true] at hn
    have h1 := h.get x
    refine SL.cons (fp1 := []) ?_ (ih hn.2)
    cases hq : s.get x with
    | tup => rw [hq] at hn; simp [RV.notTup] at hn
    | _ =>
      rw [hq] at h1
      cases h1 with
      | one h1 => exact h1

mutual
/-- Nothing frozen within. -/
def RV.noSh : RV → Bool
  | .v _ => true
  | .any => true
  | .sh _ => false
  | .psh _ => false
  | .ow _ l => RV.noShL l
  | .agg l => RV.noShL l
  | .tup l => RV.noShL l
  | .fn _ l => RV.noShL l
  | .ref _ _ _ => true
  | .ptr _ _ _ => true
def RV.noShL : List RV → Bool
  | [] => true
  | e :: es => e.noSh && RV.noShL es
end

theorem FE.noSh {w F F' k es cs} (h : FE w F k es cs) (hn : RV.noShL es = true) : FE w F' k es cs := by
  induction h with
  | nil => exact .nil _
  | v x h1 _ ih => simp only [RV.noShL, RV.noSh, Bool.true_and] at hn; exact .v x h1 (ih hn)
  | any x h1 _ ih => simp only [RV.noShL, RV.noSh, Bool.true_and] at hn; exact .any x h1 (ih hn)
  | shnil => simp [RV.noShL, RV.noSh] at hn
  | sh => simp [RV.noShL, RV.noSh] at hn
  | psh => simp [RV.noShL, RV.noSh] at hn
  | agg _ hk _ ih1 ih2 => simp only [RV.noShL, RV.noSh, Bool.and_eq_true] at hn; exact .agg (ih1 hn.1) hk (ih2 hn.2)
theorem OE.noSh {w F F' ρ k es cs fp} (h : OE w F ρ k es cs fp) (hn : RV.noShL es = true) : OE w F' ρ k es cs fp := by
  induction h with
  | nil => exact .nil _ _
  | fz h1 _ ih =>
    simp only [RV.noShL, Bool.and_eq_true] at hn
    exact .fz (h1.noSh (by simp [RV.noShL, hn.1])) (ih hn.2)
  | ow b cap ty c hk hb hs hl hm hc hnn _ _ ih1 ih2 => simp only [RV.noShL, RV.noSh, Bool.and_eq_true] at hn; exact .ow b cap ty c hk hb hs hl hm hc hnn (ih1 hn.1) (ih2 hn.2)
  | ownil k hk _ ih => simp only [RV.noShL, RV.noSh, Bool.and_eq_true] at hn; exact .ownil k hk (ih hn.2)
  | ref n off len _ ih => simp only [RV.noShL, RV.noSh, Bool.and_eq_true] at hn; exact .ref n off len (ih hn.2)
  | ptr n i j _ ih => simp only [RV.noShL, RV.noSh, Bool.and_eq_true] at hn; exact .ptr n i j (ih hn.2)
  | agg _ hk _ ih1 ih2 => simp only [RV.noShL, RV.noSh, Bool.and_eq_true] at hn; exact .agg (ih1 hn.1) hk (ih2 hn.2)
theorem S1.noSh {w F F' ρ r y fp} (h : S1 w F ρ r y fp) (hn : r.noSh = true) : S1 w F' ρ r y fp := by
  cases h with
  | any => exact .any _
  | v => exact .v _
  | cell ha h => exact .cell ha (h.noSh (by simp [RV.noShL, hn]))
  | agg h => exact .agg (h.noSh (by simpa [RV.noSh] using hn))
  | fn h => exact .fn (h.noSh (by simpa [RV.noSh] using hn))
theorem SL.noSh {w F F' ρ rs ys fp} (h : SL w F ρ rs ys fp) (hn : RV.noShL rs = true) : SL w F' ρ rs ys fp := by
  induction h with
  | nil => exact .nil
  | cons h1 _ ih => simp only [RV.noShL, Bool.and_eq_true] at hn; exact .cons (h1.noSh hn.1) (ih hn.2)
theorem SV.noSh {w F F' ρ r y fp} (h : SV w F ρ r y fp) (hn : r.noSh = true) : SV w F' ρ r y fp := by
  cases h with
  | one h => exact .one (h.noSh hn)
  | tup h => exact .tup (h.noSh (by simpa [RV.noSh] using hn))

mutual
/-- What is owned, seen as frozen. -/
def RV.fz : RV → RV
  | .v x => .v x
  | .any => .any
  | .sh l => .sh l
  | .psh e => .psh e
  | .ow _ l => .sh (RV.fzL l)
  | .agg l => .agg (RV.fzL l)
  | .ref _ _ _ => .any
  | .ptr _ _ _ => .any
  | .tup _ => .any
  | .fn _ _ => .any
def RV.fzL : List RV → List RV
  | [] => []
  | e :: es => e.fz :: RV.fzL es
end
theorem fzL_eq (l : List RV) : RV.fzL l = l.map RV.fz := by
  induction l with
  | nil => simp [RV.fzL]
  | cons e es ih => simp [RV.fzL, ih]

theorem FE.fzL {w F k es cs} (h : FE w F k es cs) : RV.fzL es = es := by
  induction h with
  | nil => simp [RV.fzL]
  | agg _ _ _ ih1 ih2 => simp [RV.fzL, RV.fz, ih1, ih2]
  | _ => simp [RV.fzL, RV.fz, *]

theorem OE.fz_ {w : World} {F F' : Nat → Prop} {ρ k es cs fp} (h : OE w F ρ k es cs fp) (hF : ∀ b, F b → F' b) (hfp : ∀ b ∈ fp, F' b) : FE w F' k (RV.fzL es) cs := by
  induction h with
  | nil => exact .nil _
  | @fz ρ k e c es cs fp h1 _ ih =>
    have e1 := h1.fzL
    simp only [RV.fzL, List.cons.injEq, and_true] at e1 ⊢
    rw [e1]
    exact FE.cons (h1.mono fun b hb => ⟨hF b hb, rfl⟩) (ih hfp)
  | @ow ρ b cap ty c k els cells es cs fp1 fp2 hk hb hs hl hm hc hnn _ _ ih1 ih2 =>
    simp only [RV.fzL, RV.fz]
    have h1 := ih1 fun x hx => hfp x (by simp [hx])
    have h2 := ih2 fun x hx => hfp x (by simp [hx])
    have hlen : (RV.fzL els).length = els.length := by rw [fzL_eq]; simp
    have := FE.sh (w := w) (F := F') ⟨b, 0, none⟩ cap k hk (hfp b (by simp)) (by rw [hlen]; omega) (by rw [← hc]; exact OE.block hb _) h1 h2
    rwa [hlen] at this
  | ownil k hk _ ih => simp only [RV.fzL, RV.fz]; exact .shnil none 0 (ih hfp)
  | ref n off len _ ih => simp only [RV.fzL, RV.fz]; exact .any _ rfl (ih hfp)
  | ptr n i j _ ih => simp only [RV.fzL, RV.fz]; exact .any _ rfl (ih hfp)
  | agg _ hk _ ih1 ih2 => simp only [RV.fzL, RV.fz]; exact .agg (ih1 fun x hx => hfp x (by simp [hx])) hk (ih2 fun x hx => hfp x (by simp [hx]))

end Eng
end Go.Proofs.Ytpbokegnbipbjaa
