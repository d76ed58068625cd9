/- The engine, part L: calls as operations; a function's end; blocks frozen, sealed; nil slices owned. No condition. -/
import Derived.Test.YtpbokegnbipbjaaEngK
namespace Go.Proofs.Ytpbokegnbipbjaa
namespace Eng
open Go.RowKit

theorem openL_closed {w F} (step : Nat) : ∀ (rs : List RV) (ρ : Places) (nm : Nat) (ys : List Value) (fp : List Nat), OE w F ρ 1 rs ys fp → ∀ b ∈ (openL nm step rs).2, RV.namesL b.2.2 = []
  | [], _, _, _, _, _ => by simp [openL]
  | r :: rs, ρ, nm, ys, fp, h => by
    obtain ⟨c1, c2, f1, f2, rfl, rfl, hc1, h1, h2⟩ := h.cons_inv
    intro b hb
    simp only [openL, List.mem_append] at hb
    rcases hb with hb | hb
    · cases r <;> simp [openC] at hb
      subst hb
      match c1, hc1 with
      | [y], _ =>
        rcases h1.single rfl with ⟨h3, _⟩ | ⟨_, _, _, _, _, _, _, e, _, _, _, _, _, _, _, hnn, _⟩ | ⟨_, _, _, e, _⟩ | ⟨_, _, _, e, _⟩ | ⟨k', e, _⟩
        · cases h3
        · cases e; exact hnn
        · cases e
        · cases e
        · cases e; rfl
    · exact openL_closed step rs ρ (nm + step) c2 f2 h2 b hb

theorem open1_closed {w F ρ r y fp} (nm step : Nat) (h : S1 w F ρ r y fp) : ∀ b ∈ (open1 nm step r).2, RV.namesL b.2.2 = [] := by
  intro b hb
  cases h with
  | any => simp [open1, openC] at hb
  | v => simp [open1, openC] at hb
  | cell ha h =>
    have h3 := openL_closed 0 [r] ρ nm [y] fp h
    have e : open1 nm step r = openC nm r := by cases r <;> simp [RV.isAgg] at ha <;> rfl
    rw [e] at hb
    exact h3 b (by simpa [openL] using hb)
  | agg h => exact openL_closed step _ ρ nm _ _ h b hb
  | fn => simp [open1, openC] at hb

theorem openL_rest (step : Nat) : ∀ (rs : List RV) (nm : Nat), RV.namesL rs = [] → ∀ m ∈ RV.namesL (openL nm step rs).1, m ∈ bnames (openL nm step rs).2
  | [], _, _, m, hm => by simp [openL, RV.namesL] at hm
  | r :: rs, nm, hn, m, hm => by
    simp only [RV.namesL, List.append_eq_nil_iff] at hn
    simp only [openL, RV.namesL, List.mem_append, bnames, List.map_append] at hm ⊢
    rcases hm with hm | hm
    · left
      cases r <;> simp [openC, RV.names] at hm hn ⊢ <;> first | exact hm | simp_all
    · exact .inr (openL_rest step rs (nm + step) hn.2 m hm)
theorem open1_rest (nm step : Nat) (r : RV) (hn : r.names = []) : ∀ m ∈ (open1 nm step r).1.names, m ∈ bnames (open1 nm step r).2 := by
  intro m hm
  cases r with
  | agg l => exact openL_rest step l nm (by simpa [RV.names] using hn) m (by simpa [open1, RV.names] using hm)
  | ow k els => simp [open1, openC, RV.names, bnames] at hm ⊢; exact hm
  | _ => simp [open1, openC, hn] at hm

/-- What a result looks like: no struct in a struct, no function, no name. -/
def RV.resOk : RV → Bool
  | .agg l => l.all (fun r => !r.isAgg) && RV.namesL l == []
  | .fn _ _ => false
  | .tup _ => false
  | r => r.names == []

theorem S1.opn' {w F ρ r y fp} (nm step : Nat) (hs : 0 < step) (h : S1 w F ρ r y fp) (hr : r.resOk = true) :
    ∃ ρ', Opens w F ρ (open1 nm step r).2 fp ρ' ∧ S1 w F ρ' (open1 nm step r).1 y [] := by
  refine h.opn nm step hs ?_ ?_ ?_
  · cases r <;> simp [RV.resOk, RV.names] at hr ⊢; exact hr.2
  · rintro l rfl; simp only [RV.resOk, Bool.and_eq_true] at hr; exact hr.1
  · rintro f l rfl; simp [RV.resOk] at hr
theorem RV.resOk_names {r : RV} (hr : r.resOk = true) : r.names = [] := by
  cases r <;> simp [RV.resOk, RV.names] at hr ⊢; exact hr.2

theorem SL.opn {w F} : ∀ (rs : List RV) (ρ : Places) (nm : Nat) (ys : List Value) (fp : List Nat), SL w F ρ rs ys fp → rs.all RV.resOk = true → (bnames (openT nm rs).2).Nodup →
    ∃ ρ', Opens w F ρ (openT nm rs).2 fp ρ' ∧ SL w F ρ' (openT nm rs).1 ys []
  | [], ρ, nm, ys, fp, h, _, _ => by cases h; exact ⟨ρ, ⟨fun _ _ => rfl, fun O fpO hO => ⟨fpO, hO, .refl _⟩⟩, .nil⟩
  | r :: rs, ρ, nm, ys, fp, h, hr, hnd => by
    simp only [List.all_cons, Bool.and_eq_true] at hr
    cases h with
    | @cons _ y _ ys' f1 f2 h1 h2 =>
      simp only [openT, bnames, List.map_append] at hnd
      obtain ⟨n1, n2, n3⟩ := List.nodup_append.1 hnd
      obtain ⟨ρ1, hO1, hS1⟩ := h1.opn' (nm + 1000) 100000000 (by omega) hr.1
      have hnm : ∀ (l : List RV), l.all RV.resOk = true → RV.namesL l = [] := by
        intro l
        induction l with
        | nil => intro _; rfl
        | cons x xs ih => intro hx; simp only [List.all_cons, Bool.and_eq_true] at hx; simp [RV.namesL, RV.resOk_names hx.1, ih hx.2]
      obtain ⟨ρ2, hO2, hS2⟩ := SL.opn rs ρ1 (nm + 1000) ys' f2 (h2.places fun m hm => by rw [hnm _ hr.2] at hm; cases hm) hr.2 n2
      refine ⟨ρ2, hO1.trans hO2 ?_ ?_, ?_⟩
      · intro m hm hm2; exact n3 m hm m hm2 rfl
      · intro b hb m hm; rw [open1_closed _ _ h1 b hb] at hm; cases hm
      · refine SL.cons (fp1 := []) (hS1.places fun m hm => hO2.1 m fun hm2 => ?_) hS2
        exact n3 m (open1_rest _ _ r (RV.resOk_names hr.1) m hm) m hm2 rfl

def RV.resOkT : RV → Bool | .tup l => l.all RV.resOk | r => r.resOk

theorem SV.opn {w F ρ r y fp} (nm : Nat) (h : SV w F ρ r y fp) (hr : r.resOkT = true) (hnd : (bnames (openR nm r).2).Nodup) : ∃ ρ', Opens w F ρ (openR nm r).2 fp ρ' ∧ SV w F ρ' (openR nm r).1 y [] := by
  cases h with
  | one h =>
    have hr' : r.resOk = true := by
      cases hq : r with
      | tup l =>
        subst hq
        cases h with
        | cell ha h2 =>
          rcases h2.single rfl with ⟨h3, _⟩ | ⟨_, _, _, _, _, _, _, e, _⟩ | ⟨_, _, _, e, _⟩ | ⟨_, _, _, e, _⟩ | ⟨_, e, _⟩
          · cases h3
          all_goals cases e
      | _ => subst hq; exact hr
    obtain ⟨ρ', h1, h2⟩ := h.opn' nm 1000 (by omega) hr'
    have e : openR nm r = open1 nm 1000 r := by cases r <;> first | rfl | simp [RV.resOk] at hr'
    rw [e]
    exact ⟨ρ', h1, .one h2⟩
  | tup h =>
    obtain ⟨ρ', h1, h2⟩ := SL.opn _ ρ nm _ fp h hr hnd
    exact ⟨ρ', h1, .tup h2⟩

theorem RV.resOkT_names {r : RV} (hr : r.resOkT = true) : r.names = [] := by
  cases r with
  | tup l =>
    simp only [RV.resOkT] at hr
    simp only [RV.names]
    induction l with
    | nil => rfl
    | cons x xs ih => simp only [List.all_cons, Bool.and_eq_true] at hr; simp [RV.namesL, RV.resOk_names hr.1, ih hr.2]
  | _ => exact RV.resOk_names hr

theorem RelX.opens {E s a w F ρ fp bks fpn ρ'} (h : RelX E s a w F ρ fp) (hO : Opens w F ρ bks fpn ρ') (hf : ∀ m ∈ bnames bks, m ∉ RV.namesL s.fr ∧ m ∉ onames s.O) (hnd : (fpn ++ fp).Nodup) (hfp : ∀ x ∈ fpn, ¬ F x ∧ (E.B0 x ∨ E.w0.heap.size ≤ x)) :
    ∃ fp', RelX E ⟨s.fr, bks ++ s.O⟩ a w F ρ' fp' := by
  have hρ : ∀ m, m ∈ RV.namesL s.fr ∨ m ∈ onames s.O → ρ' m = ρ m := fun m hm => hO.1 m fun hb => hm.elim (hf m hb).1 (hf m hb).2
  obtain ⟨fp', h1, hp⟩ := hO.2 s.O fp (h.O.places fun m hm => hρ m (.inr hm))
  refine ⟨fp', h.defers, h.size, fun i => (h.fr i).places fun m hm => hρ m (.inl (names_lget _ _ _ hm)), h1, hp.nodup_iff.1 hnd, ?_, ?_, h.F0, h.Fn, h.Fs, h.keep, h.hsize, h.os, h.tape, h.output⟩
  · intro b hb
    rcases List.mem_append.1 (hp.mem_iff.2 hb) with hb | hb
    · exact (hfp b hb).1
    · exact h.fpF b hb
  · intro b hb
    rcases List.mem_append.1 (hp.mem_iff.2 hb) with hb | hb
    · exact (hfp b hb).2
    · exact h.fpE b hb

/-- Behind a call: what the callee hands back is the caller's. -/
theorem RelX.behind {E s a w F ρ fp} (h : RelX E s a w F ρ fp) {d : Tmp} {r v w' F' ρ' fp1} (hsv : SV w' F' ρ' r v fp1) (hr : r.resOkT = true) (hnb : (bnames (openR d r).2).Nodup) (hf : ∀ m ∈ bnames (openR d r).2, m ∉ RV.namesL s.fr ∧ m ∉ onames s.O)
    (hnd : fp1.Nodup) (hfp : ∀ b ∈ fp1, ¬ F' b ∧ w.heap.size ≤ b) (hF : ∀ b, F b → F' b) (hF' : ∀ b, F' b → (F b ∨ w.heap.size ≤ b) ∧ b < w'.heap.size) (hb : ∀ b, b < w.heap.size → w'.heap[b]? = w.heap[b]?) (hsz : w.heap.size ≤ w'.heap.size) (h1 : w'.os = w.os) (h2 : w'.tape = w.tape) (h3 : w'.output = w.output) :
    Rel E ⟨lset s.fr d (openR d r).1, (openR d r).2 ++ s.O⟩ (a.put (some d) v) w' := by
  have hw := h.world hF hF' hb hsz h1 h2 h3
  obtain ⟨ρ2, hO, hS⟩ := (hsv.places (ρ' := ρ) fun m hm => by rw [RV.resOkT_names hr] at hm; cases hm).opn d hr hnb
  obtain ⟨fp', hx⟩ := hw.opens hO hf (by
    refine List.nodup_append.2 ⟨hnd, h.nodup, fun x hx y hy e => ?_⟩
    subst e
    have := (hfp x hx).2
    have := h.O.lt x hy
    omega) (fun x hx => ⟨(hfp x hx).1, .inr (Nat.le_trans h.hsize (hfp x hx).2)⟩)
  exact ⟨F', ρ2, fp', hx.put (some d) hS⟩

section
variable {P : Program} {s : St} {d : Tmp} {ty : TypeId} {pos : String} {after : Array Edge} {g : Option (Nat × Bool)}

theorem ops_call {f args ats argsR r} (hargs : args.toList.map s.get = argsR) (hnt : argsR.all RV.notTup = true) (hc : callable P f = true) (hfc : FCr P f argsR r) (hr : r.resOkT = true) (hnb : (bnames (openR d r).2).Nodup)
    (hf : ∀ m ∈ bnames (openR d r).2, m ∉ RV.namesL s.fr ∧ m ∉ onames s.O) :
    OpS P ⟨some d, .call ⟨.value (.func f), args, ats⟩, ty, pos, after, g⟩ s ⟨lset s.fr d (openR d r).1, (openR d r).2 ++ s.O⟩ := by
  rintro E a w ⟨F, ρ, fp, h⟩ K Q hK
  have hA := h.args args.toList (by rw [hargs]; exact hnt)
  rw [hargs] at hA
  simp only [Oper.wp, run_call (a := a) (w := w) (o := ⟨some d, .call ⟨.value (.func f), args, ats⟩, ty, pos, after, g⟩) rfl hc, Oper.upon_enter]
  have hcall := hfc w F ρ _ [] hA .nil List.nodup_nil (fun b hb => nomatch hb) h.Fs
  rw [show (args.toList.map a.eval).toArray = args.map a.eval from Array.ext' (by rw [Array.toList_map])] at hcall
  refine hcall.mono ?_
  rintro e w' ⟨v, rv, Oout, F', ρ', fp1, fp2, rfl, ⟨rfl, rfl⟩, hsv, hO2, hnd, hfp, hF, hF', hb, hsz, h1, h2, h3⟩
  refine hK _ _ (h.behind hsv hr hnb hf (List.nodup_append.1 hnd).1 (fun b hb => ?_) hF hF' (fun b hb' => hb b hb' (by simp)) hsz h1 h2 h3)
  have := hfp b (by simp [hb])
  simpa using this

/-- A named block seen as frozen. -/
def viewC (O : List Bk) : RV → RV
  | .ref n off len => match olook n O with
    | some (_, els) => if off + len ≤ els.length then .sh (RV.fzL ((els.drop off).take len)) else .any
    | none => .any
  | .ptr n i j => match olook n O with
    | some (_, els) => match els[i]? with
      | some e => if j = 0 then .psh e.fz else match e.cellsL[j]? with
        | some c => .psh c.fz
        | none => .any
      | none => .any
    | none => .any
  | r => r
def view1 (O : List Bk) : RV → RV
  | .agg l => .agg (l.map (viewC O))
  | r => viewC O r

theorem fzL_single (e : RV) : RV.fzL [e] = [e.fz] := by simp [RV.fzL]

theorem viewC_ok {w F ρ O fp r y} (hO : OL w F ρ O fp) (h : OE w F ρ 1 [r] [y] []) (ha : r.isAgg = false) (hn : ∀ k els, r ≠ .ow k els) : FE w (fun b => F b ∨ b ∈ fp) 1 [viewC O r] [y] := by
  have hone := h.one y (by simp)
  have any : FE w (fun b => F b ∨ b ∈ fp) 1 [.any] [y] := .any y hone (.nil _)
  rcases h.single ha with ⟨h1, _⟩ | ⟨_, _, _, _, _, _, _, e, _⟩ | ⟨n, off, len, rfl, rfl, _⟩ | ⟨n, i, j, rfl, rfl, _⟩ | ⟨_, e, _⟩
  · have h2 : viewC O r = r := by cases r <;> first | rfl | cases h1
    rw [h2]
    exact h1.mono fun b hb => ⟨.inl hb, rfl⟩
  · exact absurd e (hn _ _)
  · simp only [viewC]
    cases ho : olook n O with
    | none => exact any
    | some x =>
      obtain ⟨k, els⟩ := x
      simp only
      split
      · rename_i hle
        by_cases h0 : len = 0
        · subst h0
          simp only [List.take_zero, RV.fzL]
          exact .shnil _ _ (.nil _)
        · obtain ⟨fp', hO', hp⟩ := hO.pull ho
          obtain ⟨b, ty, c, fp1, fp2, hk, hρ, hρb, hb, hs, hl, hm, hE, _, rfl⟩ := hO'.head (by rintro rfl; simp at hle; omega)
          simp only [hρb, Option.map_some, hρ]
          have hE' := hE.fz_ (F' := fun b => F b ∨ b ∈ fp) (fun _ hb => .inl hb) (fun x hx => .inr (hp.mem_iff.2 (by simp [hx])))
          rw [fzL_eq] at hE'
          have h1 := (hE'.take_drop off (by simp; omega)).2
          have h2 := (h1.take_drop len (by simp; omega)).1
          have hlen : (RV.fzL ((els.drop off).take len)).length = len := by rw [fzL_eq]; simp; omega
          rw [← List.map_drop, ← List.map_take, ← fzL_eq] at h2
          have hc : CellsAt w ⟨b, off * k, none⟩ (((c.toList.take (els.length * k)).drop (off * k)).take (len * k)) := by
            intro j z hj
            rw [List.getElem?_take] at hj
            split at hj
            · rw [List.getElem?_drop] at hj
              have := OE.block hb (els.length * k) (off * k + j) z hj
              rw [Addr.add_lit] at this ⊢
              simpa [Nat.add_assoc] using this
            · cases hj
          have := FE.sh (w := w) (F := fun b => F b ∨ b ∈ fp) ⟨b, off * k, none⟩ ((ρ n).2.2 - off) k hk (.inr (hp.mem_iff.2 (by simp))) (by rw [hlen]; omega) hc h2 (.nil _)
          rwa [hlen] at this
      · exact any
  · simp only [viewC]
    cases ho : olook n O with
    | none => exact any
    | some x =>
      obtain ⟨k, els⟩ := x
      simp only
      cases hi : els[i]? with
      | none => exact any
      | some e =>
        simp only
        obtain ⟨fp', hO', hp⟩ := hO.pull ho
        obtain ⟨b, ty, c, fp1, fp2, hk, hρ, hρb, hb, hs, hl, hm, hE, _, rfl⟩ := hO'.head (by rintro rfl; simp at hi)
        simp only [hρb, Option.map_some, hρ]
        have hE' := hE.fz_ (F' := fun b => F b ∨ b ∈ fp) (fun _ hb => .inl hb) (fun x hx => .inr (hp.mem_iff.2 (by simp [hx])))
        have hlt : i < els.length := (List.getElem?_eq_some_iff.1 hi).1
        have hlt' : i < (RV.fzL els).length := by rw [fzL_eq]; simpa using hlt
        have hat := hE'.at i hlt'
        have hei : (RV.fzL els)[i] = e.fz := by
          have : (RV.fzL els)[i]? = some e.fz := by rw [fzL_eq]; simp [hi]
          exact (List.getElem?_eq_some_iff.1 this).2
        rw [hei] at hat
        have hbF : (fun b => F b ∨ b ∈ fp) b := .inr (hp.mem_iff.2 (by simp))
        have hc : CellsAt w ⟨b, i * k, none⟩ (((c.toList.take (els.length * k)).drop (i * k)).take k) := by
          intro q z hj
          rw [List.getElem?_take] at hj
          split at hj
          · rw [List.getElem?_drop] at hj
            have := OE.block hb (els.length * k) (i * k + q) z hj
            rw [Addr.add_lit] at this ⊢
            simpa [Nat.add_assoc] using this
          · cases hj
        by_cases hj0 : j = 0
        · subst hj0
          exact .psh _ k hk hbF hc hat (.nil _)
        · rw [if_neg hj0]
          cases hcl : e.cellsL[j]? with
          | none => exact .any _ rfl (.nil _)
          | some cc =>
            simp only
            have hcells := hat.cellsL
            have hfc : e.fz.cellsL[j]? = some cc.fz := by
              cases e with
              | agg l => simp only [RV.cellsL] at hcl; simp [RV.fz, RV.cellsL, fzL_eq, hcl]
              | _ => simp only [RV.cellsL] at hcl; rw [List.getElem?_singleton, if_neg hj0] at hcl; cases hcl
            obtain ⟨z, hz, h4⟩ := hcells.cell hfc
            have := hc.one hz
            rw [Addr.add_lit] at this
            exact .psh _ 1 (by omega) hbF this h4 (.nil _)
  · exact absurd e (hn _ _)

end
end Eng
end Go.Proofs.Ytpbokegnbipbjaa
