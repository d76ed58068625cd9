/- The engine, part M: calls with what is owned seen as frozen; a function's end; blocks frozen, sealed; nil slices; cuts; struct values. No condition. -/
import Derived.Test.YtpbokegnbipbjaaEngL
namespace Go.Proofs.Ytpbokegnbipbjaa
namespace Eng
open Go.RowKit

theorem viewL_ok {w F ρ O fp} (hO : OL w F ρ O fp) : ∀ (l : List RV) (cs : List Value), OE w F ρ 1 l cs [] → l.all RV.plain = true → FE w (fun b => F b ∨ b ∈ fp) 1 (l.map (viewC O)) cs
  | [], cs, h, _ => by cases h; exact .nil _
  | e :: es, cs, h, hp => by
    simp only [List.all_cons, Bool.and_eq_true] at hp
    obtain ⟨c1, c2, f1, f2, rfl, hf, hc1, h1, h2⟩ := h.cons_inv
    have hf' := List.append_eq_nil_iff.1 hf.symm
    obtain ⟨rfl, rfl⟩ := hf'
    match c1, hc1 with
    | [z], _ =>
      have h3 := viewC_ok hO h1 (by cases e <;> simp [RV.plain, RV.isAgg] at hp ⊢) (by rintro k els rfl; simp [RV.plain] at hp)
      rw [List.map_cons]
      exact FE.cons h3 (viewL_ok hO es c2 h2 hp.2)

/-- Seen as frozen: what a callee may look at. -/
theorem view1_ok {w F ρ O fp r y} (hO : OL w F ρ O fp) (h : SV w F ρ r y []) (hn : (view1 O r).notTup = true) (hp : ∀ l, r = .agg l → l.all RV.plain = true) (hfn : ∀ f l, r ≠ .fn f l) (how : ∀ k els, r ≠ .ow k els) : S1 w (fun b => F b ∨ b ∈ fp) ρ (view1 O r) y [] := by
  cases h with
  | tup => simp [view1, viewC, RV.notTup] at hn
  | one h => cases h with
    | any => exact .any _
    | v => exact .v _
    | @cell e y fp ha h =>
      have e1 : view1 O r = viewC O r := by cases r <;> first | rfl | simp [RV.isAgg] at ha
      rw [e1]
      refine .cell ?_ (OE.of_FE (viewC_ok hO h ha how))
      cases r <;> simp [RV.isAgg] at ha <;> simp only [viewC]
      all_goals first
        | rfl
        | (split <;> (try split) <;> (try split) <;> (try split) <;> rfl)
    | @agg l c _ h =>
      simp only [view1]
      exact .agg (OE.of_FE (viewL_ok hO _ _ h (hp l rfl)))
    | fn => exact absurd rfl (hfn _ _)

/-- Fit to be seen. -/
def RV.seeOk : RV → Bool | .agg l => l.all RV.plain | .fn _ _ => false | .ow _ _ => false | .tup _ => false | _ => true

theorem view1_notTup (O : List Bk) (r : RV) (h : r.seeOk = true) : (view1 O r).notTup = true := by
  cases r <;> simp only [view1, viewC] <;> first
    | rfl
    | (simp [RV.seeOk] at h; done)
    | (split <;> (try split) <;> (try split) <;> (try split) <;> rfl)

section
variable {P : Program} {s : St} {d : Tmp} {ty : TypeId} {pos : String} {after : Array Edge} {g : Option (Nat × Bool)}

theorem RelX.viewArgs {E a w F ρ fp} (h : RelX E s a w F ρ fp) (l : List Operand) (hn : (l.map s.get).all RV.seeOk = true) : SL w (fun b => F b ∨ b ∈ fp) ρ (l.map fun x => view1 s.O (s.get x)) (l.map a.eval) [] := by
  induction l with
  | nil => exact .nil
  | cons x l ih =>
    simp only [List.map_cons, List.all_cons, Bool.and_eq_true] at hn
    refine SL.cons (fp1 := []) (view1_ok h.O (h.get x) (view1_notTup _ _ hn.1) ?_ ?_ ?_) (ih hn.2)
    · intro l hl; rw [hl] at hn; exact hn.1
    · intro f l hl; rw [hl] at hn; simp [RV.seeOk] at hn
    · intro k els hl; rw [hl] at hn; simp [RV.seeOk] at hn

/-- A call that may look at what is owned; what comes back holds nothing frozen. -/
theorem ops_callv {f args ats argsR r} (hargs : args.toList.map (fun x => view1 s.O (s.get x)) = argsR) (hsee : (args.toList.map s.get).all RV.seeOk = true) (hc : callable P f = true) (hfc : FCr P f argsR r) (hr : r.resOkT = true) (hns : r.noSh = true) (hnb : (bnames (openR d r).2).Nodup)
    (hf : ∀ m ∈ bnames (openR d r).2, m ∉ RV.namesL s.fr ∧ m ∉ onames s.O) :
    OpS P ⟨some d, .call ⟨.value (.func f), args, ats⟩, ty, pos, after, g⟩ s ⟨lset s.fr d (openR d r).1, (openR d r).2 ++ s.O⟩ := by
  rintro E a w ⟨F, ρ, fp, h⟩ K Q hK
  have hA := h.viewArgs args.toList hsee
  rw [hargs] at hA
  simp only [Oper.wp, run_call (a := a) (w := w) (o := ⟨some d, .call ⟨.value (.func f), args, ats⟩, ty, pos, after, g⟩) rfl hc, Oper.upon_enter]
  have hcall := hfc w (fun b => F b ∨ b ∈ fp) ρ _ [] hA .nil List.nodup_nil (fun b hb => nomatch hb) (fun b hb => hb.elim (h.Fs b) (h.O.lt b))
  rw [show (args.toList.map a.eval).toArray = args.map a.eval from Array.ext' (by rw [Array.toList_map])] at hcall
  refine hcall.mono ?_
  rintro e w' ⟨v, rv, Oout, F', ρ', fp1, fp2, rfl, ⟨rfl, rfl⟩, hsv, hO2, hnd, hfp, hF, hF', hb, hsz, h1, h2, h3⟩
  have hsv' : SV w' (fun b => F' b ∧ b ∉ fp) ρ' rv v fp1 := hsv.noSh hns
  refine hK _ _ (h.behind (F' := fun b => F' b ∧ b ∉ fp) hsv' hr hnb hf (List.nodup_append.1 hnd).1 (fun b hb => ?_) (fun b hb => ⟨hF b (.inl hb), fun hx => h.fpF b hx hb⟩) ?_ (fun b hb' => hb b hb' (by simp)) hsz h1 h2 h3)
  · have := hfp b (by simp [hb])
    simp only [List.not_mem_nil, false_or] at this
    exact ⟨fun hx => this.1 hx.1, this.2⟩
  · intro b hb
    have := hF' b hb.1
    refine ⟨?_, this.2⟩
    rcases this.1 with (h4 | h4) | h4
    · exact .inl h4
    · exact absurd h4 hb.2
    · exact .inr h4

end

/-! A function's end. -/

/-- What the result variables hold. -/
inductive ResL (P : Program) (s : St) : List ResultVar → List RV → Prop
  | nil : ResL P s [] []
  | tmp {t r rs cs} (h : lget s.fr t = r) (hn : r.notTup = true) (hr : ResL P s rs cs) : ResL P s (.tmp t :: rs) (r :: cs)
  | cell {t ty n k l rs cs} (h : lget s.fr t = .ptr n 0 0) (ho : olook n s.O = some (k, [.agg l])) (hp : l.all RV.plain = true) (ht : aggT P ty = true) (hs : P.cellsOf ty = l.length) (hr : ResL P s rs cs) : ResL P s (.cell t ty :: rs) (.agg l :: cs)

/-- Named blocks that results lead to go out with them. -/
inductive SealL : List Bk → List RV → List RV → List Bk → Prop
  | nil {O} : SealL O [] [] O
  | keep {O r rs rs' O'} (h : SealL O rs rs' O') : SealL O (r :: rs) (r :: rs') O'
  | own {O n k els rs rs' O'} (hl : olook n O = some (k, els)) (hn : RV.namesL els = []) (h : SealL (oerase n O) rs rs' O') : SealL O (.ref n 0 els.length :: rs) (.ow k els :: rs') O'
  | agg {O l l' O1 rs rs' O'} (h1 : SealL O l l' O1) (h : SealL O1 rs rs' O') : SealL O (.agg l :: rs) (.agg l' :: rs') O'

theorem OL.pos {w F ρ n k els O fp} (h : OL w F ρ ((n, k, els) :: O) fp) : 0 < k := by
  cases h with
  | nilb hk => exact hk
  | cons hk => exact hk

theorem SealL.cells {w F ρ} {O l l' O'} (h : SealL O l l' O') : ∀ {ys fp}, OE w F ρ 1 l ys [] → (∀ r ∈ l, r.isAgg = false) → OL w F ρ O fp → ∃ fp1 fp2, OE w F ρ 1 l' ys fp1 ∧ OL w F ρ O' fp2 ∧ (fp1 ++ fp2).Perm fp := by
  induction h with
  | nil => intro ys fp h _ hO; cases h; exact ⟨[], fp, .nil _ _, hO, .refl _⟩
  | keep _ ih =>
    intro ys fp h ha hO
    obtain ⟨c1, c2, f1, f2, rfl, hf, hc1, h1, h2⟩ := h.cons_inv
    obtain ⟨rfl, rfl⟩ := List.append_eq_nil_iff.1 hf.symm
    obtain ⟨fp1, fp2, h3, h4, h5⟩ := ih h2 (fun r hr => ha r (by simp [hr])) hO
    exact ⟨fp1, fp2, OE.cons (fp1 := []) h1 h3, h4, h5⟩
  | @own O n k els rs rs' O' hl hn _ ih =>
    intro ys fp h ha hO
    obtain ⟨c1, c2, f1, f2, rfl, hf, hc1, h1, h2⟩ := h.cons_inv
    obtain ⟨rfl, rfl⟩ := List.append_eq_nil_iff.1 hf.symm
    match c1, hc1 with
    | [y], _ =>
      obtain ⟨fp', hO', hp⟩ := hO.pull hl
      rcases h1.single rfl with ⟨h3, _⟩ | ⟨_, _, _, _, _, _, _, e, _⟩ | ⟨_, _, _, e, rfl, _⟩ | ⟨_, _, _, e, _⟩ | ⟨_, e, _⟩
      · cases h3
      · cases e
      · cases e
        cases hO' with
        | nilb hk hρ hO2 =>
          obtain ⟨fp1, fp2, h3, h4, h5⟩ := ih h2 (fun r hr => ha r (by simp [hr])) hO2
          refine ⟨fp1, fp2, ?_, h4, h5.trans hp.symm⟩
          simp only [hρ, Option.map_none, List.length_nil]
          exact .ownil k hk h3
        | @cons _ b _ _ ty c cells _ g1 g2 hk hρ hρb hb hs hl2 hm hc hE hO2 =>
          obtain ⟨fp1, fp2, h3, h4, h5⟩ := ih h2 (fun r hr => ha r (by simp [hr])) hO2
          refine ⟨b :: (g1 ++ fp1), fp2, ?_, h4, ?_⟩
          · simp only [hρb, Option.map_some, Nat.zero_mul, Nat.sub_zero]
            exact .ow b _ ty c hk hb hs hl2 hm hc hn (hE.places (by simp [hn])) h3
          · refine List.Perm.trans ?_ hp.symm
            simp only [List.cons_append, List.append_assoc]
            exact List.Perm.cons _ ((List.Perm.refl g1).append h5)
      · cases e
      · cases e
  | agg _ _ _ _ => intro ys fp h ha hO; have := ha (.agg _) (List.mem_cons_self ..); simp [RV.isAgg] at this

theorem SealL.all {w F ρ} {O l l' O'} (h : SealL O l l' O') : ∀ {ys fp}, SL w F ρ l ys [] → (∀ l1, .agg l1 ∈ l → ∀ r ∈ l1, r.isAgg = false) → OL w F ρ O fp → ∃ fp1 fp2, SL w F ρ l' ys fp1 ∧ OL w F ρ O' fp2 ∧ (fp1 ++ fp2).Perm fp := by
  induction h with
  | nil => intro ys fp h _ hO; cases h; exact ⟨[], fp, .nil, hO, .refl _⟩
  | keep _ ih =>
    intro ys fp h ha hO
    generalize hf : ([] : List Nat) = fpz at h
    cases h with
    | cons h1 h2 =>
      obtain ⟨rfl, rfl⟩ := List.append_eq_nil_iff.1 hf.symm
      obtain ⟨fp1, fp2, h3, h4, h5⟩ := ih h2 (fun l1 hr => ha l1 (by simp [hr])) hO
      exact ⟨fp1, fp2, SL.cons (fp1 := []) h1 h3, h4, h5⟩
  | @own O n k els rs rs' O' hl hn hrest ih =>
    intro ys fp h ha hO
    generalize hf : ([] : List Nat) = fpz at h
    cases h with
    | @cons _ y _ ys' _ _ h1 h2 =>
      obtain ⟨rfl, rfl⟩ := List.append_eq_nil_iff.1 hf.symm
      have h1' := (SV.one h1).cell rfl (by simp) (by simp) (by simp) (by simp)
      obtain ⟨g1, g2, h6, h7, h8⟩ := (SealL.own hl hn .nil).cells h1' (by simp [RV.isAgg]) hO
      obtain ⟨fp1, fp2, h3, h4, h5⟩ := ih h2 (fun l1 hr => ha l1 (by simp [hr])) h7
      refine ⟨g1 ++ fp1, fp2, SL.cons (.cell rfl h6) h3, h4, ?_⟩
      rw [List.append_assoc]
      exact ((List.Perm.refl g1).append h5).trans h8
  | @agg O l l' O1 rs rs' O' hc hrest ih1 ih =>
    intro ys fp h ha hO
    generalize hf : ([] : List Nat) = fpz at h
    cases h with
    | @cons _ y _ ys' _ _ h1 h2 =>
      obtain ⟨rfl, rfl⟩ := List.append_eq_nil_iff.1 hf.symm
      obtain ⟨c, rfl, h1'⟩ := (SV.one h1).agg_inv
      obtain ⟨g1, g2, h6, h7, h8⟩ := hc.cells h1' (ha l (by simp)) hO
      obtain ⟨fp1, fp2, h3, h4, h5⟩ := ih h2 (fun l1 hr => ha l1 (by simp [hr])) h7
      refine ⟨g1 ++ fp1, fp2, SL.cons (.agg h6) h3, h4, ?_⟩
      rw [List.append_assoc]
      exact ((List.Perm.refl g1).append h5).trans h8

def resRun (P : Program) (tmps : Array Value) (w : World) : ResultVar → Value → Prop
  | .tmp t, y => y = tmps.getD t undef
  | .cell t ty, y => ∃ ad, tmps.getD t undef = .pointer (some ad) ∧ (loadVar ty ad).run P w = .ok y w

theorem ResL.run {P s rs cs} (h : ResL P s rs cs) {E a w F ρ fp} (hr : RelX E s a w F ρ fp) : ∃ ys : List Value, ys.length = rs.length ∧ SL w F ρ cs ys [] ∧ ∀ (i : Nat) (v : ResultVar) (y : Value), rs[i]? = some v → ys[i]? = some y → resRun P a.tmps w v y := by
  induction h with
  | nil => exact ⟨[], rfl, .nil, by simp⟩
  | @tmp t r rs cs h hn _ ih =>
    obtain ⟨ys, h1, h2, h3⟩ := ih
    have hv := hr.fr t
    rw [h] at hv
    have hs1 : S1 w F ρ r (a.tmps.getD t undef) [] := by
      generalize a.tmps.getD t undef = z at hv
      cases hv with
      | one h => exact h
      | tup => simp [RV.notTup] at hn
    refine ⟨a.tmps.getD t undef :: ys, by simp [h1], SL.cons (fp1 := []) hs1 h2, ?_⟩
    intro i v y hi hy
    cases i with
    | zero => simp only [List.getElem?_cons_zero, Option.some.injEq] at hi hy; subst hi; exact hy.symm
    | succ i => exact h3 i v y (by simpa using hi) (by simpa using hy)
  | @cell t ty n k l rs cs h ho hp ht hs _ ih =>
    obtain ⟨ys, h1, h2, h3⟩ := ih
    have hv := hr.fr t
    rw [h] at hv
    obtain ⟨fp', hr'⟩ := hr.front ho
    obtain ⟨b, tb, cc, fp1, fp2, hk, hρ, hρb, hb, hs', hl, hm, hE, _, _⟩ := hr'.O.head (by simp)
    have h4 := hE.cellsL
    simp only [RV.cellsL] at h4
    have hfe := h4.plain_fpL hp
    subst hfe
    have h5 := hv.ptr_inv
    simp only [hρb, Option.map_some, Nat.zero_mul, Nat.add_zero] at h5
    have hlen := h4.length
    have hw := hE.width
    simp only [RV.width] at hw
    have hload := run_load_a (P := P) (a := ⟨b, 0, none⟩) ht (cs := cc.toList.take ([RV.agg l].length * k)) (by omega) (by omega) (OE.block hb _)
    refine ⟨.agg (cc.toList.take ([RV.agg l].length * k)).toArray :: ys, by simp [h1], SL.cons (fp1 := []) (.agg (by simpa using h4)) h2, ?_⟩
    intro i v y hi hy
    cases i with
    | zero =>
      simp at hi hy
      subst hi
      subst hy
      exact ⟨_, h5, by simpa using hload⟩
    | succ i => exact h3 i v y (by simpa using hi) (by simpa using hy)

def packV : List Value → Value | [y] => y | l => .tuple l.toArray

theorem run_results {P : Program} {fn : Func} {tmps : Array Value} {w : World} {rs : List ResultVar} {ys : List Value} (hf : fn.results = rs.toArray) (hl : ys.length = rs.length) (h : ∀ (i : Nat) (v : ResultVar) (y : Value), rs[i]? = some v → ys[i]? = some y → resRun P tmps w v y) (h4 : rs.length ≤ 4) :
    (results fn tmps).run P w = .ok (packV ys) w := by
  match rs, ys, hl, h4 with
  | [], [], _, _ => simp [results, hf, packV]
  | [v1], [y1], _, _ =>
    have f1 := h 0 _ _ rfl rfl
    cases v1 <;> simp only [resRun, Array.getD_eq_getD_getElem?] at f1 <;> (try obtain ⟨a1, p1, q1⟩ := f1) <;> simp [results, packV, asAddr, *]
  | [v1, v2], [y1, y2], _, _ =>
    have f1 := h 0 _ _ rfl rfl
    have f2 := h 1 _ _ rfl rfl
    cases v1 <;> cases v2 <;> simp only [resRun, Array.getD_eq_getD_getElem?] at f1 f2 <;> (try obtain ⟨a1, p1, q1⟩ := f1) <;> (try obtain ⟨a2, p2, q2⟩ := f2) <;> simp [results, packV, asAddr, *]
  | [v1, v2, v3], [y1, y2, y3], _, _ =>
    have f1 := h 0 _ _ rfl rfl
    have f2 := h 1 _ _ rfl rfl
    have f3 := h 2 _ _ rfl rfl
    cases v1 <;> cases v2 <;> cases v3 <;> simp only [resRun, Array.getD_eq_getD_getElem?] at f1 f2 f3 <;> (try obtain ⟨a1, p1, q1⟩ := f1) <;> (try obtain ⟨a2, p2, q2⟩ := f2) <;> (try obtain ⟨a3, p3, q3⟩ := f3) <;> simp [results, packV, asAddr, *]
  | [v1, v2, v3, v4], [y1, y2, y3, y4], _, _ =>
    have f1 := h 0 _ _ rfl rfl
    have f2 := h 1 _ _ rfl rfl
    have f3 := h 2 _ _ rfl rfl
    have f4 := h 3 _ _ rfl rfl
    cases v1 <;> cases v2 <;> cases v3 <;> cases v4 <;> simp only [resRun, Array.getD_eq_getD_getElem?] at f1 f2 f3 f4 <;> (try obtain ⟨a1, p1, q1⟩ := f1) <;> (try obtain ⟨a2, p2, q2⟩ := f2) <;> (try obtain ⟨a3, p3, q3⟩ := f3) <;> (try obtain ⟨a4, p4, q4⟩ := f4) <;> simp [results, packV, asAddr, *]

def packR : List RV → RV | [r] => r | l => .tup l

/-- The end: the results, what they lead to gone out with them; the rest forgotten. -/
theorem ends_of {P fn s rs cs cs' O' r e} (he : e = Exit.ret ∨ e = Exit.normal) (hf : fn.results = rs.toArray) (h4 : rs.length ≤ 4) (h : ResL P s rs cs) (hag : ∀ l1, .agg l1 ∈ cs → ∀ r ∈ l1, r.isAgg = false) (hs : SealL s.O cs cs' O') (hr : packR cs' = r) :
    Ends P fn (fun rv O => rv = r ∧ O = []) e s := by
  have main : ∀ E a w, Rel E s a w → ∃ v rv Oout F ρ fp1 fp2, (results fn a.tmps).run P w = .ok v w ∧ (rv = r ∧ Oout = []) ∧ SV w F ρ rv v fp1 ∧ OL w F ρ Oout fp2 ∧ (fp1 ++ fp2).Nodup ∧
      (∀ b ∈ fp1 ++ fp2, ¬ F b ∧ (E.B0 b ∨ E.w0.heap.size ≤ b)) ∧ (∀ b, E.F0 b → F b) ∧ (∀ b, F b → (E.F0 b ∨ E.w0.heap.size ≤ b) ∧ b < w.heap.size) := by
    rintro E a w ⟨F, ρ, fp, hrel⟩
    obtain ⟨ys, h1, h2, h3⟩ := h.run hrel
    obtain ⟨fp1, fp2, h5, h6, h7⟩ := hs.all h2 hag hrel.O
    have hnd : fp1.Nodup := (List.nodup_append.1 (h7.nodup_iff.2 hrel.nodup)).1
    refine ⟨_, r, [], F, ρ, fp1, [], run_results hf h1 h3 h4, ⟨rfl, rfl⟩, ?_, .nil, by simpa using hnd, ?_, hrel.F0, fun b hb => ⟨hrel.Fn b hb, hrel.Fs b hb⟩⟩
    · have hlen := h5.length
      subst hr
      match cs', ys, h5, hlen with
      | [c], [y], h5, _ =>
        cases h5 with
        | cons h8 h9 => cases h9; rw [List.append_nil]; exact .one h8
      | [], [], h5, _ => exact .tup (c := #[]) (by simpa using h5)
      | _ :: _ :: _, _ :: _ :: _, h5, _ => exact .tup (by simpa using h5)
    · intro b hb
      simp only [List.append_nil] at hb
      have hm : b ∈ fp := h7.mem_iff.1 (by simp [hb])
      exact ⟨hrel.fpF b hm, hrel.fpE b hm⟩
  rcases he with rfl | rfl <;> exact main

end Eng
end Go.Proofs.Ytpbokegnbipbjaa
