/- Calls of which it is told only that their results are of some form: contracts with 'there is'. No condition. -/
import Derived.Test.YtmfbcipjknjicaaGreatDoorEf
import Derived.Test.YtmfbcipjknjicaaGreatDoorJ6
namespace Go.Proofs.YtmfbcipjknjicaaGreatDoor
set_option linter.unusedSectionVars false
variable [One Bool]
open Eng
set_option linter.unusedSimpArgs false
set_option maxHeartbeats 0
set_option maxRecDepth 100000
namespace Eng
open Go.RowKit
section
variable {P : Program} {s : St} {d : Tmp} {ty : TypeId} {pos : String} {after : Array Edge} {g : Option (Nat × Bool)}
def OpX {ι : Type} (P : Program) (o : Oper) (s : St) (C : ι → Prop) (S : ι → St) : Prop :=
  ∀ E a w, Rel E s a w → ∀ (K : Act → World → Prop) (Q : Exit → Act → World → Prop), (∀ x, C x → ∀ a' w', Rel E (S x) a' w' → K a' w') → o.wp P a w K Q
theorem l_opx {ι : Type} {ops o rest R} {C : ι → Prop} {S : ι → St} (hg : o.guard = none) (h : OpX P o s C S) (hk : ∀ x, C x → L P ops rest R (S x)) : L P ops (o :: rest) R s :=
  ⟨fun E a w hr Q hQ => wpList_plain hg fun K hK => h E a w hr K Q fun x hx a' w' hr' => hK _ _ ((hk x hx).out E a' w' hr' Q hQ)⟩
theorem en_mono {fn Post Post' e} (h : EN P fn Post e s) (hp : ∀ rv O, Post rv O → Post' rv O) : EN P fn Post' e s := by
  refine ⟨?_⟩
  have h1 := h.out
  cases e with
  | normal =>
    intro E a w hr
    obtain ⟨v, rv, Oo, F, ρ, fp1, fp2, h2, h3, h4⟩ := h1 E a w hr
    exact ⟨v, rv, Oo, F, ρ, fp1, fp2, h2, hp _ _ h3, h4⟩
  | ret =>
    intro E a w hr
    obtain ⟨v, rv, Oo, F, ρ, fp1, fp2, h2, h3, h4⟩ := h1 E a w hr
    exact ⟨v, rv, Oo, F, ρ, fp1, fp2, h2, hp _ _ h3, h4⟩
  | _ => exact h1
theorem en_ex {ι : Type} {C : ι → Prop} {r : ι → RV} {Oout : ι → List Bk} {fn e} (x : ι) (hC : C x) (h : EN P fn (fun rv O => rv = r x ∧ O = Oout x) e s) : EN P fn (fun rv O => ∃ x, C x ∧ rv = r x ∧ O = Oout x) e s :=
  en_mono h fun _ _ hh => ⟨x, hC, hh.1, hh.2⟩
theorem callX_core {ι : Type} {C : ι → Prop} {r : ι → RV} {Oout : ι → List Bk} {o : Oper} {f : FuncId} {argsL : List Operand} {extra : List RV} {argsR} (ns ks : List Nat) {M R : List Bk} (hdst : o.dst = some d)
    (hrun : ∀ E a w F ρ fp, RelX E s a w F ρ fp → ∃ ev, SL w F ρ extra ev [] ∧ (execOp a.eval o).run P w = .ok (.enter f ((argsL.map a.eval) ++ ev).toArray) w)
    (hp : pulls ns s.O = some (M, R)) (hargs : RV.renL (pinσ M) (argsL.map s.get ++ extra) = argsR) (hnt : (argsL.map s.get).all RV.notTup = true)
    (hna : ∀ n ∈ RV.namesL (argsL.map s.get ++ extra), (mpos n M).isSome = true) (hnM : ∀ b ∈ M, ∀ n ∈ RV.namesL b.2.2, (mpos n M).isSome = true)
    (hfc : FC P f argsR (renO (pinσ M) M) fun rv O => ∃ x, C x ∧ rv = r x ∧ O = Oout x) (hnO : ∀ x, ∀ n ∈ onames (Oout x), 1000000000000 ≤ n ∧ n - 1000000000000 < M.length)
    (hr : ∀ x, (r x).resOkT = true) (hnb : ∀ x, (bnames (openR d (r x)).2).Nodup) (hf : ∀ x, ∀ m ∈ bnames (openR d (r x)).2, m < 1000000000000 ∧ m ∉ RV.namesL (killLs ks s.fr) ∧ m ∉ onames (renO (unpin M) (Oout x) ++ R)) :
    OpX P o s C fun x => ⟨lset (killLs ks s.fr) d (openR d (r x)).1, (openR d (r x)).2 ++ (renO (unpin M) (Oout x) ++ R)⟩ := by
  rintro E a w ⟨F, ρ, fp0, h0⟩ K Q hK
  obtain ⟨ev, hev, hrun⟩ := hrun E a w F ρ fp0 h0
  obtain ⟨fp, hOL, hperm⟩ := h0.O.pulls ns hp
  have h : RelX E ⟨s.fr, M ++ R⟩ a w F ρ fp := h0.perm hOL hperm
  obtain ⟨fM, fR, hOM, hOR, hfp⟩ := OL.split2 (A := M) (B := R) h.O
  subst hfp
  have hnd0 := List.nodup_append.1 h.nodup
  have hA0 : SL w F ρ (argsL.map s.get ++ extra) (argsL.map a.eval ++ ev) [] := by
    have h1 := h0.args argsL hnt
    revert h1
    generalize argsL.map s.get = l
    generalize argsL.map a.eval = l'
    generalize hz : ([] : List Nat) = z
    intro h1
    induction h1 with
    | nil => rw [← hz]; exact hev
    | cons hx hxs ih =>
      obtain ⟨rfl, rfl⟩ := List.append_eq_nil_iff.1 hz.symm
      exact SL.cons (fp1 := []) hx (ih rfl)
  have hA : SL w F (pinρ ρ M) argsR (argsL.map a.eval ++ ev) [] := by
    rw [← hargs]
    exact hA0.ren (pinσ M) fun n hn => pinσ_ok (hna n hn)
  have hin : OL w F (pinρ ρ M) (renO (pinσ M) M) fM := hOM.ren (pinσ M) fun n hn => pinσ_ok (by
    rcases mem_onames hn with h1 | ⟨b, hb, h1⟩
    · exact mpos_of_mem h1
    · exact hnM b hb n h1)
  simp only [Oper.wp, hrun, Oper.upon_enter]
  have hcall := hfc w F (pinρ ρ M) _ fM hA hin hnd0.1 (fun b hb => h.fpF b (by simp [hb])) h.Fs
  refine hcall.mono ?_
  rintro e w' ⟨v, rv, Oout', F', ρ', fp1, fp2, rfl, ⟨x, hCx, rfl, rfl⟩, hsv, hO2, hnd, hfpX, hF, hF', hb, hsz, h1, h2, h3, hpin⟩
  have hnd1 := List.nodup_append.1 hnd
  have hout : OL w' F' ρ (renO (unpin M) (Oout x)) fp2 := hO2.ren (unpin M) fun n hn => by
    obtain ⟨h4, h5⟩ := hnO x n hn
    unfold unpin
    obtain ⟨i, rfl⟩ : ∃ i, n = 1000000000000 + i := ⟨n - 1000000000000, by omega⟩
    rw [hpin _ h4]
    rw [Nat.add_sub_cancel_left] at h5 ⊢
    rw [List.getElem?_eq_getElem h5, pinρ_at (List.getElem?_eq_getElem h5)]
  have hFR : ∀ b ∈ fR, b ∉ fM := fun b hb hx => hnd0.2.2 b hx b hb rfl
  have hrest : OL w' F' ρ R fR := hOR.mono (fun b hx => ⟨hF b hx, hb b (h.Fs b hx) fun hy => h.fpF b (by simp [hy]) hx⟩) fun b hx => hb b (hOR.lt b hx) (hFR b hx)
  have hFR' : ∀ b ∈ fR, ¬ F' b := by
    intro b hx hy
    rcases (hF' b hy).1 with hz | hz | hz
    · exact h.fpF b (by simp [hx]) hz
    · exact hFR b hx hz
    · have := hOR.lt b hx; omega
  have hdisj : ∀ x, (x ∈ fp1 ∨ x ∈ fp2) → x ∉ fR := by
    intro x hx hy
    rcases (hfpX x (by simp only [List.mem_append]; exact hx)).2 with hz | hz
    · exact hnd0.2.2 x hz x hy rfl
    · have := hOR.lt x hy; omega
  have hE : ∀ x, (x ∈ fp1 ∨ x ∈ fp2) → ¬ F' x ∧ (E.B0 x ∨ E.w0.heap.size ≤ x) := by
    intro x hx
    have h4 := hfpX x (by simp only [List.mem_append]; exact hx)
    refine ⟨h4.1, ?_⟩
    rcases h4.2 with hz | hz
    · exact h.fpE x (by simp [hz])
    · exact .inr (Nat.le_trans h.hsize hz)
  have hrel : RelX E ⟨s.fr, renO (unpin M) (Oout x) ++ R⟩ a w' F' ρ (fp2 ++ fR) := by
    refine ⟨h.defers, h.size, fun i => (h.fr i).mono (fun b hx => ⟨hF b hx, hb b (h.Fs b hx) fun hy => h.fpF b (by simp [hy]) hx⟩) (by simp), hout.join hrest, List.nodup_append.2 ⟨hnd1.2.1, hnd0.2.1, fun x hx y hy e => by subst e; exact hdisj x (.inr hx) hy⟩, ?_, ?_, fun b hx => hF b (h.F0 b hx), ?_, fun b hx => (hF' b hx).2, ?_, Nat.le_trans h.hsize hsz, h1.trans h.os, h2.trans h.tape, h3.trans h.output, h.pin⟩
    · intro b hx
      rcases List.mem_append.1 hx with hx | hx
      · exact (hE b (.inr hx)).1
      · exact hFR' b hx
    · intro b hx
      rcases List.mem_append.1 hx with hx | hx
      · exact (hE b (.inr hx)).2
      · exact h.fpE b (by simp [hx])
    · intro b hx
      rcases (hF' b hx).1 with hz | hz | hz
      · exact h.Fn b hz
      · rcases h.fpE b (by simp [hz]) with hy | hy
        · exact .inr (.inl hy)
        · exact .inr (.inr hy)
      · exact .inr (.inr (Nat.le_trans h.hsize hz))
    · intro b hlt hB
      rw [hb b (by have := h.hsize; omega) (fun hx => by rcases h.fpE b (by simp [hx]) with hy | hy; · exact hB hy
                                                         · omega)]
      exact h.keep b hlt hB
  have hrel := hrel.killLs ks
  obtain ⟨ρ2, hOp, hS⟩ := (hsv.places (ρ' := ρ) fun m hm => by rw [RV.resOkT_names (hr x)] at hm; cases hm).opn d (hr x) (hnb x)
  obtain ⟨fp', hx⟩ := hrel.opens hOp (hf x) (List.nodup_append.2 ⟨hnd1.1, hrel.nodup, fun x hx y hy e => by
    subst e
    rcases List.mem_append.1 hy with hy | hy
    · exact hnd1.2.2 x hx x hy rfl
    · exact hdisj x (.inl hx) hy⟩) (fun x hx => hE x (.inl hx))
  rw [hdst]
  exact hK x hCx _ _ ⟨F', ρ2, fp', hx.put (some d) hS⟩
theorem l_callPx {ι : Type} {ops : Array Oper} {rest R} {fr : List RV} {O : List Bk} {f args ats argsR} (C : ι → Prop) (r : ι → RV) (n : Nat) (els' : ι → List RV) {k : Nat} {els : List RV} (hfc : FC P f argsR [(1000000000000, k, els)] fun rv O' => ∃ x, C x ∧ rv = r x ∧ O' = [(1000000000000, k, els' x)])
    (ho : olook n O = some (k, els) := by rfl) (hargs : RV.renL (pin1 n) (args.toList.map (⟨fr, O⟩ : St).get) = argsR := by first | rfl | (simp only [vw, ng, nm, nz, nf, nr, pin1, reduceIte, Nat.reduceEqDiff]; rfl) | (simp [ng, pin1]; fail_if_success show _)) (hnt : (args.toList.map (⟨fr, O⟩ : St).get).all RV.notTup = true := by rfl)
    (hna : ∀ q ∈ RV.namesL (args.toList.map (⟨fr, O⟩ : St).get), q = n := by intro q hq; revert hq; simp [St.get, lget, nm]) (hc : callable P f = true := by kernel_rfl)
    (hM : RV.namesL els = [] := by simp [nm]) (hM' : ∀ x, RV.namesL (els' x) = [] := by intro x; simp [nm]) (hr : ∀ x, (r x).resOkT = true := by intro x; simp [RV.resOkT, RV.resOk, RV.isAgg, nm]) (hnb : ∀ x, (bnames (openR d (r x)).2).Nodup := by intro x; simp [nz, nm]) (hf : ∀ x, ∀ m ∈ bnames (openR d (r x)).2, m < 1000000000000 ∧ m ∉ RV.namesL fr ∧ m ∉ n :: onames (oerase n O) := by intro x; simp [nz, nm])
    {fr' : ι → List RV} {O' : ι → List Bk} (e : ∀ x, (⟨lset fr d (openR d (r x)).1, (openR d (r x)).2 ++ oset n (els' x) O⟩ : St) = ⟨fr' x, O' x⟩ := by intro x; simp only [nz, nf, nl, nb, nr, ng, nq, nu, reduceIte, Nat.reduceEqDiff, Nat.reduceAdd]; rfl)
    (hk : ∀ x, C x → L P ops rest R ⟨fr' x, O' x⟩) : L P ops (⟨some d, .call ⟨.value (.func f), args, ats⟩, ty, pos, after, none⟩ :: rest) R ⟨fr, O⟩ := by
  have hpu : pulls [n] O = some ([(n, k, els)], oerase n O) := by simp [pulls, ho]
  have hσ : ∀ q, pinσ [(n, k, els)] q = pin1 n q := by
    intro q; unfold pinσ pin1; simp only [mpos]
    by_cases h : n = q
    · simp [h]
    · have h2 : ¬ q = n := fun e => h e.symm
      simp [h, h2]
  have hσ' : pinσ [(n, k, els)] = pin1 n := funext hσ
  have hun : unpin [(n, k, els)] 1000000000000 = n := by simp [unpin]
  have hre : ∀ x, renO (unpin [(n, k, els)]) [(1000000000000, k, els' x)] = [(n, k, els' x)] := fun x => by simp only [renO, renL_id (hM' x), hun]
  have h := callX_core (P := P) (s := ⟨fr, O⟩) (d := d) (o := ⟨some d, .call ⟨.value (.func f), args, ats⟩, ty, pos, after, none⟩) (f := f) (argsL := args.toList) (extra := []) (argsR := argsR) (C := C) (r := r) [n] [] (Oout := fun x => [(1000000000000, k, els' x)]) rfl
    (fun E a w F ρ fp h => ⟨[], .nil, by
      rw [run_call (a := a) (w := w) (o := ⟨some d, .call ⟨.value (.func f), args, ats⟩, ty, pos, after, none⟩) rfl hc]
      simp only [List.append_nil, Result.ok.injEq, Next.enter.injEq, true_and, and_true]
      exact Array.ext' (by rw [Array.toList_map])⟩) hpu (by rw [hσ', List.append_nil]; exact hargs) hnt
    (by rw [List.append_nil]; intro q hq; rw [hna q hq]; simp [mpos]) (by intro b hb; simp at hb; subst hb; intro m hm; rw [hM] at hm; cases hm) (by simp only [renO, renL_id hM, hσ, pin1, if_true]; exact hfc)
    (by intro x m hm; simp [onames, hM'] at hm; subst hm; simp) hr hnb
    (fun x m hm => ⟨(hf x m hm).1, (hf x m hm).2.1, by have := (hf x m hm).2.2; simpa [hre, onames, hM'] using this⟩)
  refine l_opx (C := C) (S := fun x => ⟨fr' x, O' x⟩) rfl (fun E a w hr K Q hK => h E a w hr K Q fun x hx a' w' hr' => hK x hx a' w' ?_) hk
  show Rel E ⟨fr' x, O' x⟩ a' w'
  rw [← e x]
  simp only [hre] at hr'
  exact ((shuf_back ho).app _).le E a' w' hr'
theorem l_callX {ι : Type} {ops : Array Oper} {rest R} {fr : List RV} {O : List Bk} {f args ats argsR} (C : ι → Prop) (r : ι → RV) (hfc : FC P f argsR [] fun rv O' => ∃ x, C x ∧ rv = r x ∧ O' = [])
    (hargs : args.toList.map (⟨fr, O⟩ : St).get = argsR := by rfl) (hnt : (args.toList.map (⟨fr, O⟩ : St).get).all RV.notTup = true := by rfl) (hna : RV.namesL argsR = [] := by simp [nm]) (hc : callable P f = true := by kernel_rfl)
    (hr : ∀ x, (r x).resOkT = true := by intro x; simp [RV.resOkT, RV.resOk, RV.isAgg, nm]) (hnb : ∀ x, (bnames (openR d (r x)).2).Nodup := by intro x; simp [nz, nm]) (hf : ∀ x, ∀ m ∈ bnames (openR d (r x)).2, m < 1000000000000 ∧ m ∉ RV.namesL fr ∧ m ∉ onames O := by intro x; simp [nz, nm])
    {fr' : ι → List RV} {O' : ι → List Bk} (e : ∀ x, (⟨lset fr d (openR d (r x)).1, (openR d (r x)).2 ++ O⟩ : St) = ⟨fr' x, O' x⟩ := by intro x; simp only [nz, nf, nl, nb, nr, ng, nq, nu, reduceIte, Nat.reduceEqDiff, Nat.reduceAdd]; rfl)
    (hk : ∀ x, C x → L P ops rest R ⟨fr' x, O' x⟩) : L P ops (⟨some d, .call ⟨.value (.func f), args, ats⟩, ty, pos, after, none⟩ :: rest) R ⟨fr, O⟩ := by
  have h := callX_core (P := P) (s := ⟨fr, O⟩) (d := d) (o := ⟨some d, .call ⟨.value (.func f), args, ats⟩, ty, pos, after, none⟩) (f := f) (argsL := args.toList) (extra := []) (argsR := argsR) (C := C) (r := r) [] [] (M := []) (R := O) (Oout := fun _ => []) rfl
    (fun E a w F ρ fp h => ⟨[], .nil, by
      rw [run_call (a := a) (w := w) (o := ⟨some d, .call ⟨.value (.func f), args, ats⟩, ty, pos, after, none⟩) rfl hc]
      simp only [List.append_nil, Result.ok.injEq, Next.enter.injEq, true_and, and_true]
      exact Array.ext' (by rw [Array.toList_map])⟩) rfl (by rw [List.append_nil, hargs, renL_id hna]) hnt
    (by rw [List.append_nil, hargs, hna]; intro q hq; cases hq) (by intro b hb; cases hb) (by simpa [renO] using hfc)
    (by intro x m hm; simp [onames] at hm) hr hnb
    (fun x m hm => ⟨(hf x m hm).1, (hf x m hm).2.1, by simpa [renO] using (hf x m hm).2.2⟩)
  refine l_opx (C := C) (S := fun x => ⟨fr' x, O' x⟩) rfl (fun E a w hr K Q hK => h E a w hr K Q fun x hx a' w' hr' => hK x hx a' w' ?_) hk
  show Rel E ⟨fr' x, O' x⟩ a' w'
  rw [← e x]
  simpa [renO, killLs] using hr'

end
end Eng
end Go.Proofs.YtmfbcipjknjicaaGreatDoor
/- Calls whose result is a pointer to a new block, with others that it leads to. No condition. -/
namespace Go.Proofs.YtmfbcipjknjicaaGreatDoor
set_option linter.unusedSectionVars false
variable [One Bool]
open Eng
set_option linter.unusedSimpArgs false
set_option linter.unusedVariables false
set_option maxHeartbeats 0
set_option maxRecDepth 100000
namespace Eng
open Go.RowKit
section
variable {P : Program} {s : St} {d : Tmp} {ty : TypeId} {pos : String} {after : Array Edge} {g : Option (Nat × Bool)}
theorem ops_callN (δ : Nat) {f args ats argsR} {n i j : Nat} {Onew : List Bk}
    (hfc : FC P f argsR [] fun rv O' => rv = .ptr n i j ∧ O' = Onew)
    (hargs : args.toList.map s.get = argsR) (hnt : (args.toList.map s.get).all RV.notTup = true) (hc : callable P f = true)
    (hm : ∀ q ∈ n :: onames Onew, q + δ < 1000000000000 ∧ q + δ ∉ RV.namesL s.fr ∧ q + δ ∉ onames s.O) :
    OpS P ⟨some d, .call ⟨.value (.func f), args, ats⟩, ty, pos, after, none⟩ s ⟨lset s.fr d (.ptr (n + δ) i j), renO (· + δ) Onew ++ s.O⟩ := by
  rintro E a w ⟨F, ρ, fp, h⟩ K Q hK
  have hA : SL w F ρ argsR (args.toList.map a.eval) [] := hargs ▸ h.args args.toList hnt
  simp only [Oper.wp, run_call (a := a) (w := w) (o := ⟨some d, .call ⟨.value (.func f), args, ats⟩, ty, pos, after, none⟩) rfl hc, Oper.upon_enter]
  have hgk := h.O.gok
  have hcall := hfc w F ρ (args.toList.map a.eval) [] hA (.nil hgk) (by simp) (by simp) h.Fs
  rw [show (args.map a.eval) = (args.toList.map a.eval).toArray from Array.ext' (by rw [Array.toList_map])]
  refine hcall.mono ?_
  rintro e w' ⟨v, rv, Oout', F', ρ', fp1, fp2, rfl, ⟨rfl, rfl⟩, hsv, hO2, hnd, hfpX, hF, hF', hb, hsz, h1, h2, h3, hpin⟩
  have hnd1 := List.nodup_append.1 hnd
  have hb2 : ∀ b, b < w.heap.size → w'.heap[b]? = w.heap[b]? := fun b hlt => hb b hlt (by simp)
  have hF2 : ∀ b, F' b → (F b ∨ w.heap.size ≤ b) ∧ b < w'.heap.size := fun b hx => by
    have := hF' b hx
    simpa using this
  have hw := h.world hF hF2 hb2 hsz h1 h2 h3
  have hnew : ∀ b, b ∈ fp1 ∨ b ∈ fp2 → ¬ F' b ∧ w.heap.size ≤ b := fun b hx => by
    have := hfpX b (by simpa using hx)
    simpa using this
  let ρ2 : Places := fun q => if q ∈ (n :: onames Oout').map (· + δ) then ρ' (q - δ) else ρ q
  have hne : ∀ q, q ∉ (n :: onames Oout').map (· + δ) → ρ2 q = ρ q := fun q hq => by
    show (if _ then _ else _) = _
    rw [if_neg hq]
  have hre : ∀ q ∈ n :: onames Oout', ρ2 (q + δ) = ρ' q := fun q hq => by
    show (if _ then _ else _) = _
    rw [if_pos (List.mem_map.2 ⟨q, hq, rfl⟩), Nat.add_sub_cancel]
  have hO3 : OL w' F' ρ2 (renO (· + δ) Oout') fp2 := hO2.ren (· + δ) fun q hq => hre q (List.mem_cons_of_mem _ hq)
  have hfrn : ∀ q ∈ RV.namesL s.fr, q ∉ (n :: onames Oout').map (· + δ) := fun q hq hx => by
    obtain ⟨q', h4, rfl⟩ := List.mem_map.1 hx
    exact (hm q' h4).2.1 hq
  have hOn : ∀ q ∈ onames s.O, q ∉ (n :: onames Oout').map (· + δ) := fun q hq hx => by
    obtain ⟨q', h4, rfl⟩ := List.mem_map.1 hx
    exact (hm q' h4).2.2 hq
  have hsO := hw.O.places (ρ' := ρ2) fun q hq => hne q (hOn q hq)
  have hx : RelX E ⟨s.fr, renO (· + δ) Oout' ++ s.O⟩ a w' F' ρ2 (fp2 ++ fp) := by
    refine ⟨hw.defers, hw.size, fun i => (hw.fr i).places fun q hq => hne q (hfrn q (names_lget _ _ _ hq)), hO3.join hsO, ?_, ?_, ?_, hw.F0, hw.Fn, hw.Fs, hw.keep, hw.hsize, hw.os, hw.tape, hw.output, fun q hq => (hne q (fun hx => ?_)).trans (hw.pin q hq)⟩
    · refine List.nodup_append.2 ⟨hnd1.2.1, h.nodup, fun y hy z hz e => ?_⟩
      subst e
      have := (hnew y (.inr hy)).2
      have := h.O.lt y hz
      omega
    · intro b hx
      rcases List.mem_append.1 hx with hx | hx
      · exact (hnew b (.inr hx)).1
      · exact hw.fpF b hx
    · intro b hx
      rcases List.mem_append.1 hx with hx | hx
      · exact .inr (Nat.le_trans h.hsize (hnew b (.inr hx)).2)
      · exact h.fpE b hx
    · obtain ⟨q', h4, rfl⟩ := List.mem_map.1 hx
      have := (hm q' h4).1
      have hq : 1000000000000 ≤ q' + δ := hq
      omega
  have hS : SV w' F' ρ2 (.ptr (n + δ) i j) v [] := by
    have e := hsv.ptr_inv
    have hp := hsv.ptr_pos
    have hr := hre n (by simp)
    rw [← hr] at hp e
    rw [e]
    exact .one (.cell rfl (.ptr _ _ _ hp (.nil _ _)))
  exact hK _ _ ⟨F', ρ2, _, hx.put (some d) hS⟩
end
end Eng
end Go.Proofs.YtmfbcipjknjicaaGreatDoor
