/- The engine, part Ef: blocks under other names, calls that are handed blocks which lead to each other, function values, addresses that are looked at, whole numbers of 64 bits without sign. No condition. -/
import Derived.Test.YtmfbcipjknjicaaGreatDoorEe
namespace Go.Proofs.YtmfbcipjknjicaaGreatDoor
set_option linter.unusedSectionVars false
variable [One Bool]
namespace Eng
open Go.RowKit
set_option linter.unusedSimpArgs false

mutual
def RV.ren (σ : Nat → Nat) : RV → RV
  | .ref m a b => .ref (σ m) a b
  | .ptr m a b => .ptr (σ m) a b
  | .agg l => .agg (RV.renL σ l)
  | .fn f l => .fn f (RV.renL σ l)
  | .tup l => .tup (RV.renL σ l)
  | .v x => .v x
  | .any => .any
  | .sh l => .sh l
  | .ow k l => .ow k l
  | .psh e => .psh e
def RV.renL (σ : Nat → Nat) : List RV → List RV
  | [] => []
  | e :: es => e.ren σ :: RV.renL σ es
end
theorem FE.renL {w F k es cs} (σ : Nat → Nat) (h : FE w F k es cs) : RV.renL σ es = es := by
  induction h with
  | nil => simp [RV.renL]
  | v _ _ _ ih => simp [RV.renL, RV.ren, ih]
  | any _ _ _ ih => simp [RV.renL, RV.ren, ih]
  | shnil _ _ _ ih => simp [RV.renL, RV.ren, ih]
  | sh _ _ _ _ _ _ _ _ _ _ ih => simp [RV.renL, RV.ren, ih]
  | psh _ _ _ _ _ _ _ _ ih => simp [RV.renL, RV.ren, ih]
  | agg _ _ _ ih1 ih2 => simp [RV.renL, RV.ren, ih1, ih2]
theorem OE.ren {w F ρ ρ' k es cs fp} (σ : Nat → Nat) (h : OE w F ρ k es cs fp) (hn : ∀ n ∈ RV.namesL es, ρ' (σ n) = ρ n) : OE w F ρ' k (RV.renL σ es) cs fp := by
  induction h with
  | nil => exact .nil _ _
  | fz h1 _ ih =>
    have e := h1.renL σ
    simp only [RV.renL, List.cons.injEq, and_true] at e ⊢
    rw [e]
    exact .fz h1 (ih fun n hx => hn n (by simp [RV.namesL, hx]))
  | ow b cap ty c hk hb hs hl hm hc hnn h1 _ _ ih2 => simp only [RV.renL, RV.ren]; exact .ow b cap ty c hk hb hs hl hm hc hnn h1 (ih2 fun n hx => hn n (by simp [RV.namesL, hx]))
  | ownil k hk _ ih => simp only [RV.renL, RV.ren]; exact .ownil k hk (ih fun n hx => hn n (by simp [RV.namesL, hx]))
  | ref n off len hr _ ih =>
    simp only [RV.renL, RV.ren]
    have e := hn n (by simp [RV.namesL, RV.names])
    rw [← e]
    exact .ref (σ n) off len (by rw [e]; exact hr) (ih fun n hx => hn n (by simp [RV.namesL, hx]))
  | ptr n i j hr _ ih =>
    simp only [RV.renL, RV.ren]
    have e := hn n (by simp [RV.namesL, RV.names])
    rw [← e]
    exact .ptr (σ n) i j (by rw [e]; exact hr) (ih fun n hx => hn n (by simp [RV.namesL, hx]))
  | agg _ hk _ ih1 ih2 => simp only [RV.renL, RV.ren]; exact .agg (ih1 fun n hx => hn n (by simp [RV.namesL, RV.names, hx])) hk (ih2 fun n hx => hn n (by simp [RV.namesL, hx]))
  | fn f _ _ ih1 ih2 => simp only [RV.renL, RV.ren]; exact .fn f (ih1 fun n hx => hn n (by simp [RV.namesL, RV.names, hx])) (ih2 fun n hx => hn n (by simp [RV.namesL, hx]))
theorem S1.ren {w F ρ ρ' e y fp} (σ : Nat → Nat) (h : S1 w F ρ e y fp) (hn : ∀ n ∈ e.names, ρ' (σ n) = ρ n) : S1 w F ρ' (e.ren σ) y fp := by
  cases h with
  | any => simp only [RV.ren]; exact .any _
  | v => simp only [RV.ren]; exact .v _
  | cell ha h =>
    have := h.ren σ (fun n hx => hn n (by simpa [RV.namesL] using hx))
    simp only [RV.renL] at this
    refine .cell ?_ this
    cases e <;> simp [RV.ren, RV.isAgg] at ha ⊢
  | agg h => simp only [RV.ren]; exact .agg (h.ren σ fun n hx => hn n (by simpa [RV.names] using hx))
  | fn h => simp only [RV.ren]; exact .fn (h.ren σ fun n hx => hn n (by simpa [RV.names] using hx))
theorem SL.ren {w F ρ ρ' es ys fp} (σ : Nat → Nat) (h : SL w F ρ es ys fp) (hn : ∀ n ∈ RV.namesL es, ρ' (σ n) = ρ n) : SL w F ρ' (RV.renL σ es) ys fp := by
  induction h with
  | nil => simp only [RV.renL]; exact .nil
  | cons h1 _ ih => simp only [RV.renL]; exact .cons (h1.ren σ fun n hx => hn n (by simp [RV.namesL, hx])) (ih fun n hx => hn n (by simp [RV.namesL, hx]))
theorem SV.ren {w F ρ ρ' e y fp} (σ : Nat → Nat) (h : SV w F ρ e y fp) (hn : ∀ n ∈ e.names, ρ' (σ n) = ρ n) : SV w F ρ' (e.ren σ) y fp := by
  cases h with
  | one h => exact .one (h.ren σ hn)
  | tup h => simp only [RV.ren]; exact .tup (h.ren σ fun n hx => hn n (by simpa [RV.names] using hx))
def renO (σ : Nat → Nat) : List Bk → List Bk
  | [] => []
  | (n, k, els) :: O => (σ n, k, RV.renL σ els) :: renO σ O
theorem length_renL (σ : Nat → Nat) (l : List RV) : (RV.renL σ l).length = l.length := by
  induction l with
  | nil => simp [RV.renL]
  | cons x xs ih => simp [RV.renL, ih]
theorem mapEls_ren (σ : Nat → Nat) (b : Nat) (m : List (Value × Value)) : RV.renL σ (mapEls b m) = mapEls b m := by
  unfold mapEls
  simp only [RV.renL, RV.ren, List.cons.injEq, true_and]
  induction m with
  | nil => rfl
  | cons x xs ih => simp [RV.renL, RV.ren, ih]
theorem KObj.ren {w : World} {b els} (σ : Nat → Nat) (h : KObj w b els) : RV.renL σ els = els := by
  cases h with
  | map => exact mapEls_ren _ _ _
  | iter => simp [itEls, RV.renL, RV.ren]
theorem OL.ren {w F ρ ρ' O fp} (σ : Nat → Nat) (h : OL w F ρ O fp) (hn : ∀ n ∈ onames O, ρ' (σ n) = ρ n) : OL w F ρ' (renO σ O) fp := by
  induction h with
  | nil hg => exact .nil hg
  | @nilb n k O fp hk hρ h ih =>
    simp only [renO, RV.renL]
    exact .nilb hk ((hn n (by simp [onames])).trans hρ) (ih fun n hx => hn n (by simp [onames, hx]))
  | @map n b els O fp hρ hb h ih =>
    simp only [renO, hb.ren]
    exact .map (by rw [hn n (by simp [onames])]; exact hρ) hb (ih fun n hx => hn n (by simp [onames, hx]))
  | @cons n b k els ty c cells O fp1 fp2 hk hρ hρb hb hs hl hm hc he h ih =>
    simp only [renO]
    have e := hn n (by simp [onames])
    exact .cons hk (by rw [e]; exact hρ) (by rw [e]; exact hρb) hb (by rw [e]; exact hs) (by rw [e, length_renL]; exact hl) (by rw [e]; exact hm) (by rw [length_renL]; exact hc) (he.ren σ fun n hx => hn n (by simp [onames, hx])) (ih fun n hx => hn n (by simp [onames, hx]))

def pulls : List Nat → List Bk → Option (List Bk × List Bk)
  | [], O => some ([], O)
  | n :: ns, O => match olook n O with
    | none => none
    | some (k, els) => match pulls ns (oerase n O) with
      | none => none
      | some (M, R) => some ((n, k, els) :: M, R)
theorem OL.pulls {w F ρ} : ∀ (ns : List Nat) {O : List Bk} {fp : List Nat} {M R : List Bk}, OL w F ρ O fp → Eng.pulls ns O = some (M, R) → ∃ fp', OL w F ρ (M ++ R) fp' ∧ fp.Perm fp'
  | [], O, fp, M, R, h, e => by
    simp only [Eng.pulls, Option.some.injEq, Prod.mk.injEq] at e
    obtain ⟨rfl, rfl⟩ := e
    exact ⟨fp, h, .refl _⟩
  | n :: ns, O, fp, M, R, h, e => by
    simp only [Eng.pulls] at e
    cases ho : olook n O with
    | none => simp [ho] at e
    | some x =>
      obtain ⟨k, els⟩ := x
      simp only [ho] at e
      cases hp : Eng.pulls ns (oerase n O) with
      | none => simp [hp] at e
      | some y =>
        obtain ⟨M', R'⟩ := y
        simp only [hp, Option.some.injEq, Prod.mk.injEq] at e
        obtain ⟨rfl, rfl⟩ := e
        obtain ⟨fp1, h1, p1⟩ := h.pull ho
        obtain ⟨f1, f2, rfl, h2, hc⟩ := h1.tail
        obtain ⟨fp2, h3, p2⟩ := OL.pulls ns h2 hp
        exact ⟨f1 ++ fp2, hc _ _ h3, p1.trans (List.Perm.append_left f1 p2)⟩
theorem le_perm {fr : List RV} {O O' : List Bk} (ns : List Nat) {M R : List Bk} (h : Eng.pulls ns O = some (M, R)) (e : M ++ R = O') : LE ⟨fr, O⟩ ⟨fr, O'⟩ := by
  subst e
  refine ⟨?_⟩
  rintro E a w ⟨F, ρ, fp, hr⟩
  obtain ⟨fp', h1, h2⟩ := hr.O.pulls ns h
  exact ⟨F, ρ, fp', hr.perm h1 h2⟩

def pinσ (M : List Bk) (n : Nat) : Nat := match mpos n M with | some i => 1000000000000 + i | none => n
def unpin (M : List Bk) (n : Nat) : Nat := match M[n - 1000000000000]? with | some b => b.1 | none => n
def killLs : List Nat → List RV → List RV
  | [], fr => fr
  | n :: ns, fr => killLs ns (RV.killL n fr)
theorem pinσ_ok {ρ : Places} {M : List Bk} {n : Nat} (h : (mpos n M).isSome = true) : pinρ ρ M (pinσ M n) = ρ n := by
  obtain ⟨i, hi⟩ := Option.isSome_iff_exists.1 h
  obtain ⟨b, h1, h2⟩ := mpos_some hi
  unfold pinσ
  rw [hi]
  simp only
  rw [pinρ_at h1, h2]
theorem mpos_of_mem {n : Nat} : ∀ {M : List Bk}, n ∈ M.map (·.1) → (mpos n M).isSome = true
  | [], h => by simp at h
  | b :: M, h => by
    simp only [mpos]
    split
    · rfl
    · rename_i hb
      simp only [List.map_cons, List.mem_cons] at h
      rcases h with h | h
      · exact absurd h.symm hb
      · have := mpos_of_mem h
        simpa using this
theorem mem_onames {n : Nat} : ∀ {M : List Bk}, n ∈ onames M → n ∈ M.map (·.1) ∨ ∃ b ∈ M, n ∈ RV.namesL b.2.2
  | [], h => by simp [onames] at h
  | (m, k, e) :: M, h => by
    simp only [onames, List.mem_cons, List.mem_append] at h
    rcases h with h | h | h
    · left; simp [h]
    · right; exact ⟨(m, k, e), by simp, h⟩
    · rcases mem_onames h with h | ⟨b, hb, h⟩
      · left; simp only [List.map_cons, List.mem_cons]; exact .inr h
      · right; exact ⟨b, by simp [hb], h⟩
theorem RelX.killLs {E a w F ρ fp} : ∀ (ns : List Nat) {s : St}, RelX E s a w F ρ fp → RelX E ⟨Eng.killLs ns s.fr, s.O⟩ a w F ρ fp
  | [], _, h => h
  | n :: ns, s, h => by
    have h1 : RelX E ⟨RV.killL n s.fr, s.O⟩ a w F ρ fp :=
      { h with size := by simpa using h.size, fr := fun i => by rw [lget_killL]; exact (h.fr i).kill n (fun _ _ => rfl) }
    exact RelX.killLs ns h1

section
variable {P : Program} {s : St} {d : Tmp} {ty : TypeId} {pos : String} {after : Array Edge} {g : Option (Nat × Bool)}
theorem callG_core {o : Oper} {f : FuncId} {argsL : List Operand} {extra : List RV} {argsR r} (ns ks : List Nat) {M R Oout : List Bk} (hdst : o.dst = some d)
    (hrun : ∀ E a w F ρ fp, RelX E s a w F ρ fp → ∃ ev, SL w F ρ extra ev [] ∧ (execOp a.eval o).run P w = .ok (.enter f ((argsL.map a.eval) ++ ev).toArray) w)
    (hp : pulls ns s.O = some (M, R)) (hargs : RV.renL (pinσ M) (argsL.map s.get ++ extra) = argsR) (hnt : (argsL.map s.get).all RV.notTup = true)
    (hna : ∀ n ∈ RV.namesL (argsL.map s.get ++ extra), (mpos n M).isSome = true) (hnM : ∀ b ∈ M, ∀ n ∈ RV.namesL b.2.2, (mpos n M).isSome = true)
    (hfc : FC P f argsR (renO (pinσ M) M) fun rv O => rv = r ∧ O = Oout) (hnO : ∀ n ∈ onames Oout, 1000000000000 ≤ n ∧ n - 1000000000000 < M.length)
    (hr : r.resOkT = true) (hnb : (bnames (openR d r).2).Nodup) (hf : ∀ m ∈ bnames (openR d r).2, m < 1000000000000 ∧ m ∉ RV.namesL (killLs ks s.fr) ∧ m ∉ onames (renO (unpin M) Oout ++ R)) :
    OpS P o s ⟨lset (killLs ks s.fr) d (openR d r).1, (openR d r).2 ++ (renO (unpin M) Oout ++ R)⟩ := by
  rintro E a w ⟨F, ρ, fp0, h0⟩ K Q hK
  obtain ⟨ev, hev, hrun⟩ := hrun E a w F ρ fp0 h0
  obtain ⟨fp, hOL, hperm⟩ := h0.O.pulls ns hp
  have h : RelX E ⟨s.fr, M ++ R⟩ a w F ρ fp := h0.perm hOL hperm
  obtain ⟨fM, fR, hOM, hOR, hfp⟩ := OL.split2 (A := M) (B := R) h.O
  subst hfp
  have hnd0 := List.nodup_append.1 h.nodup
  have hA0 : SL w F ρ (argsL.map s.get ++ extra) (argsL.map a.eval ++ ev) [] := by
    have h1 := h0.args argsL hnt
    revert h1
    generalize argsL.map s.get = l
    generalize argsL.map a.eval = l'
    generalize hz : ([] : List Nat) = z
    intro h1
    induction h1 with
    | nil => rw [← hz]; exact hev
    | cons hx hxs ih =>
      obtain ⟨rfl, rfl⟩ := List.append_eq_nil_iff.1 hz.symm
      exact SL.cons (fp1 := []) hx (ih rfl)
  have hA : SL w F (pinρ ρ M) argsR (argsL.map a.eval ++ ev) [] := by
    rw [← hargs]
    exact hA0.ren (pinσ M) fun n hn => pinσ_ok (hna n hn)
  have hin : OL w F (pinρ ρ M) (renO (pinσ M) M) fM := hOM.ren (pinσ M) fun n hn => pinσ_ok (by
    rcases mem_onames hn with h1 | ⟨b, hb, h1⟩
    · exact mpos_of_mem h1
    · exact hnM b hb n h1)
  simp only [Oper.wp, hrun, Oper.upon_enter]
  have hcall := hfc w F (pinρ ρ M) _ fM hA hin hnd0.1 (fun b hb => h.fpF b (by simp [hb])) h.Fs
  refine hcall.mono ?_
  rintro e w' ⟨v, rv, Oout', F', ρ', fp1, fp2, rfl, ⟨rfl, rfl⟩, hsv, hO2, hnd, hfpX, hF, hF', hb, hsz, h1, h2, h3, hpin⟩
  have hnd1 := List.nodup_append.1 hnd
  have hout : OL w' F' ρ (renO (unpin M) Oout') fp2 := hO2.ren (unpin M) fun n hn => by
    obtain ⟨h4, h5⟩ := hnO n hn
    unfold unpin
    obtain ⟨i, rfl⟩ : ∃ i, n = 1000000000000 + i := ⟨n - 1000000000000, by omega⟩
    rw [hpin _ h4]
    rw [Nat.add_sub_cancel_left] at h5 ⊢
    rw [List.getElem?_eq_getElem h5, pinρ_at (List.getElem?_eq_getElem h5)]
  have hFR : ∀ b ∈ fR, b ∉ fM := fun b hb hx => hnd0.2.2 b hx b hb rfl
  have hrest : OL w' F' ρ R fR := hOR.mono (fun b hx => ⟨hF b hx, hb b (h.Fs b hx) fun hy => h.fpF b (by simp [hy]) hx⟩) fun b hx => hb b (hOR.lt b hx) (hFR b hx)
  have hFR' : ∀ b ∈ fR, ¬ F' b := by
    intro b hx hy
    rcases (hF' b hy).1 with hz | hz | hz
    · exact h.fpF b (by simp [hx]) hz
    · exact hFR b hx hz
    · have := hOR.lt b hx; omega
  have hdisj : ∀ x, (x ∈ fp1 ∨ x ∈ fp2) → x ∉ fR := by
    intro x hx hy
    rcases (hfpX x (by simp only [List.mem_append]; exact hx)).2 with hz | hz
    · exact hnd0.2.2 x hz x hy rfl
    · have := hOR.lt x hy; omega
  have hE : ∀ x, (x ∈ fp1 ∨ x ∈ fp2) → ¬ F' x ∧ (E.B0 x ∨ E.w0.heap.size ≤ x) := by
    intro x hx
    have h4 := hfpX x (by simp only [List.mem_append]; exact hx)
    refine ⟨h4.1, ?_⟩
    rcases h4.2 with hz | hz
    · exact h.fpE x (by simp [hz])
    · exact .inr (Nat.le_trans h.hsize hz)
  have hrel : RelX E ⟨s.fr, renO (unpin M) Oout' ++ R⟩ a w' F' ρ (fp2 ++ fR) := by
    refine ⟨h.defers, h.size, fun i => (h.fr i).mono (fun b hx => ⟨hF b hx, hb b (h.Fs b hx) fun hy => h.fpF b (by simp [hy]) hx⟩) (by simp), hout.join hrest, List.nodup_append.2 ⟨hnd1.2.1, hnd0.2.1, fun x hx y hy e => by subst e; exact hdisj x (.inr hx) hy⟩, ?_, ?_, fun b hx => hF b (h.F0 b hx), ?_, fun b hx => (hF' b hx).2, ?_, Nat.le_trans h.hsize hsz, h1.trans h.os, h2.trans h.tape, h3.trans h.output, h.pin⟩
    · intro b hx
      rcases List.mem_append.1 hx with hx | hx
      · exact (hE b (.inr hx)).1
      · exact hFR' b hx
    · intro b hx
      rcases List.mem_append.1 hx with hx | hx
      · exact (hE b (.inr hx)).2
      · exact h.fpE b (by simp [hx])
    · intro b hx
      rcases (hF' b hx).1 with hz | hz | hz
      · exact h.Fn b hz
      · rcases h.fpE b (by simp [hz]) with hy | hy
        · exact .inr (.inl hy)
        · exact .inr (.inr hy)
      · exact .inr (.inr (Nat.le_trans h.hsize hz))
    · intro b hlt hB
      rw [hb b (by have := h.hsize; omega) (fun hx => by rcases h.fpE b (by simp [hx]) with hy | hy; · exact hB hy
                                                         · omega)]
      exact h.keep b hlt hB
  have hrel := hrel.killLs ks
  obtain ⟨ρ2, hOp, hS⟩ := (hsv.places (ρ' := ρ) fun m hm => by rw [RV.resOkT_names hr] at hm; cases hm).opn d hr hnb
  obtain ⟨fp', hx⟩ := hrel.opens hOp hf (List.nodup_append.2 ⟨hnd1.1, hrel.nodup, fun x hx y hy e => by
    subst e
    rcases List.mem_append.1 hy with hy | hy
    · exact hnd1.2.2 x hx x hy rfl
    · exact hdisj x (.inl hx) hy⟩) (fun x hx => hE x (.inl hx))
  rw [hdst]
  exact hK _ _ ⟨F', ρ2, fp', hx.put (some d) hS⟩
theorem ops_callG {f args ats argsR r} (ns ks : List Nat) {M R : List Bk} (Oout : List Bk) (hp : pulls ns s.O = some (M, R) := by rfl) (hargs : RV.renL (pinσ M) (args.toList.map s.get) = argsR := by first | rfl | (simp [St.get, lget, ng, pinσ, mpos, nm, vw, renO, unpin, onames, renL_id, killLs, nz, oerase, bnames, openR, open1, openC, nb, -List.map_take, -List.map_drop]; fail_if_success show _)) (hnt : (args.toList.map s.get).all RV.notTup = true := by rfl)
    (hna : (RV.namesL (args.toList.map s.get)).all (fun n => (mpos n M).isSome) = true := by simp [St.get, lget, ng, pinσ, mpos, nm, vw, renO, unpin, onames, renL_id, killLs, nz, oerase, bnames, openR, open1, openC, nb, -List.map_take, -List.map_drop]) (hnM : M.all (fun b => (RV.namesL b.2.2).all fun n => (mpos n M).isSome) = true := by simp [St.get, lget, ng, pinσ, mpos, nm, vw, renO, unpin, onames, renL_id, killLs, nz, oerase, bnames, openR, open1, openC, nb, -List.map_take, -List.map_drop]) (hc : callable P f = true := by kernel_rfl) {Min : List Bk} (hMin : renO (pinσ M) M = Min := by first | rfl | (simp [St.get, lget, ng, pinσ, mpos, nm, vw, renO, unpin, onames, renL_id, killLs, nz, oerase, bnames, openR, open1, openC, nb, -List.map_take, -List.map_drop]; fail_if_success show _))
    (hfc : FC P f argsR Min fun rv O => rv = r ∧ O = Oout) (hnO : (onames Oout).all (fun n => decide (1000000000000 ≤ n) && decide (n - 1000000000000 < M.length)) = true := by simp [St.get, lget, ng, pinσ, mpos, nm, vw, renO, unpin, onames, renL_id, killLs, nz, oerase, bnames, openR, open1, openC, nb, -List.map_take, -List.map_drop])
    (hr : r.resOkT = true := by simp [RV.resOkT, RV.resOk, RV.isAgg, nm]) (hnb : (bnames (openR d r).2).Nodup := by simp [St.get, lget, ng, pinσ, mpos, nm, vw, renO, unpin, onames, renL_id, killLs, nz, oerase, bnames, openR, open1, openC, nb, -List.map_take, -List.map_drop]) (hf : ∀ m ∈ bnames (openR d r).2, m < 1000000000000 ∧ m ∉ RV.namesL (killLs ks s.fr) ∧ m ∉ onames (renO (unpin M) Oout ++ R) := by simp [St.get, lget, ng, pinσ, mpos, nm, vw, renO, unpin, onames, renL_id, killLs, nz, oerase, bnames, openR, open1, openC, nb, -List.map_take, -List.map_drop]) :
    OpS P ⟨some d, .call ⟨.value (.func f), args, ats⟩, ty, pos, after, g⟩ s ⟨lset (killLs ks s.fr) d (openR d r).1, (openR d r).2 ++ (renO (unpin M) Oout ++ R)⟩ := by
  subst hMin
  refine callG_core (extra := []) ns ks rfl (fun E a w F ρ fp h => ⟨[], .nil, ?_⟩) hp (by simpa using hargs) hnt (by rw [List.append_nil]; exact List.all_eq_true.1 hna) (fun b hb => List.all_eq_true.1 (List.all_eq_true.1 hnM b hb)) hfc (fun n hn => by have := List.all_eq_true.1 hnO n hn; simpa using this) hr hnb hf
  rw [run_call (a := a) (w := w) (o := ⟨some d, .call ⟨.value (.func f), args, ats⟩, ty, pos, after, g⟩) rfl hc]
  simp only [List.append_nil, Result.ok.injEq, Next.enter.injEq, true_and, and_true]
  exact Array.ext' (by rw [Array.toList_map])
theorem SV.fn_inv {w F ρ f l y fp} (h : SV w F ρ (.fn f l) y fp) : ∃ c, y = mkF f c ∧ OE w F ρ 1 l c fp := by
  cases h with
  | one h =>
    cases h with
    | cell ha h =>
      obtain ⟨c, h1, h2, rfl⟩ := h.fn_inv
      exact ⟨c, h1, h2⟩
    | fn h => exact ⟨_, rfl, h⟩
end
section
variable {P : Program} {s : St} {d : Option Tmp} {ty : TypeId} {pos : String} {after : Array Edge} {g : Option (Nat × Bool)}
theorem ops_nilCheck {x n i j k els} (hx : s.get x = .ptr n i j) (ho : olook n s.O = some (k, els)) (hne : els ≠ []) : OpS P ⟨d, .nilCheck x, ty, pos, after, g⟩ s ⟨sput d (.ptr n i j) s.fr, s.O⟩ :=
  ops_val fun _ a w F ρ fp hr => by
    have h1 := hr.get x
    rw [hx] at h1
    obtain ⟨fp', hr'⟩ := hr.front ho
    obtain ⟨b, ty, c, fp1, fp2, hk, hρ, hρb, _⟩ := hr'.O.head hne h1.ptr_pos
    have h2 := h1.ptr_inv
    have h3 := h2
    simp only [hρb, Option.map_some] at h2
    exact ⟨a.eval x, by simp [execOp, h2], h1⟩
theorem fs_nilCheck {RO x n i j k els} (hx : s.get x = .ptr n i j) (hro : RO n = true) (ho : olook n s.O = some (k, els)) (hne : els ≠ []) : Fs P RO ⟨d, .nilCheck x, ty, pos, after, g⟩ s (.ptr n i j) := fun s2 hs hO =>
  ops_nilCheck ((hs _ (by simp [Op.operands])).trans hx) ((hO _ hro).trans ho) hne
abbrev RVu (n : Nat) : RV := .v (.int .u64 ((n : Nat) : Int))
theorem u64_wrap (n : Nat) : IntKind.u64.wrap (n : Int) = ((n % 18446744073709551616 : Nat) : Int) := by
  simp [IntKind.wrap, IntKind.bits, IntKind.signed]
def addW (m n : Nat) : Nat := (m + n) % 18446744073709551616
def mulW (m n : Nat) : Nat := (m * n) % 18446744073709551616
def shrW (m n : Nat) : Nat := m / 2 ^ n
def andW (m n : Nat) : Nat := m &&& n
theorem addW_lt (m n) : addW m n < 18446744073709551616 := Nat.mod_lt _ (by omega)
theorem shrW_le (m n) : shrW m n ≤ m := Nat.div_le_self _ _
theorem andW_le (m n) : andW m n ≤ n := Nat.and_le_right
theorem ops_addu {x y t u} {m n : Nat} (hx : s.get x = RVu m) (hy : s.get y = RVu n) : OpS P ⟨d, .binOp .add t x y u, ty, pos, after, g⟩ s ⟨sput d (RVu (addW m n)) s.fr, s.O⟩ :=
  ops_exact fun _ a _ _ _ _ hr => by have := u64_wrap (m + n); simp [execOp, hr.ex hx, hr.ex hy, binOp_add, eqGuard_add, Op.intArith, addW] at this ⊢; rw [this]
theorem ops_mulu {x y t u} {m n : Nat} (hx : s.get x = RVu m) (hy : s.get y = RVu n) : OpS P ⟨d, .binOp .mul t x y u, ty, pos, after, g⟩ s ⟨sput d (RVu (mulW m n)) s.fr, s.O⟩ :=
  ops_exact fun _ a _ _ _ _ hr => by have := u64_wrap (m * n); simp [execOp, hr.ex hx, hr.ex hy, binOp_mul, eqGuard_mul, Op.intArith, mulW] at this ⊢; rw [this]
theorem ops_shru {x y t u k} {m n : Nat} (hx : s.get x = RVu m) (hy : s.get y = .v (.int k (n : Nat))) (h : n ≤ 64) : OpS P ⟨d, .binOp .shr t x y u, ty, pos, after, g⟩ s ⟨sput d (RVu (shrW m n)) s.fr, s.O⟩ :=
  ops_exact fun _ a _ _ _ _ hr => by
    have h1 : min n IntKind.u64.bits = n := Nat.min_eq_left h
    have h2 : ¬ ((n : Int) < 0) := by omega
    have h3 : (m : Int).fdiv (2 ^ n) = ((m / 2 ^ n : Nat) : Int) := by
      rw [Int.fdiv_eq_ediv_of_nonneg _ (by exact_mod_cast Nat.zero_le _)]
      push_cast
      rfl
    simp [execOp, hr.ex hx, hr.ex hy, binOp, eqGuard, Op.shift, h1, h2, h3, shrW]
theorem intBits_andu {m n : Nat} (h1 : m < 18446744073709551616) (h2 : n < 18446744073709551616) : Op.intBits .and .u64 (m : Nat) (n : Nat) = pure (.int .u64 ((m &&& n : Nat) : Int)) := by
  have h5 : (BitVec.ofInt 64 (m : Nat) &&& BitVec.ofInt 64 (n : Nat)).toNat = m &&& n := by
    rw [ofInt_cast, ofInt_cast, BitVec.toNat_and, BitVec.toNat_ofNat, BitVec.toNat_ofNat, Nat.mod_eq_of_lt (by omega), Nat.mod_eq_of_lt (by omega)]
  have h4 : IntKind.u64.wrap ((m &&& n : Nat) : Int) = ((m &&& n : Nat) : Int) := by
    have h3 : m &&& n ≤ m := Nat.and_le_left
    rw [u64_wrap, Nat.mod_eq_of_lt (by omega)]
  show pure (Value.int .u64 (IntKind.u64.wrap ((BitVec.ofInt 64 (m : Nat) &&& BitVec.ofInt 64 (n : Nat)).toNat : Int))) = _
  rw [h5, h4]
theorem ops_andu {x y t u} {m n : Nat} (hx : s.get x = RVu m) (hy : s.get y = RVu n) (h1 : m < 18446744073709551616) (h2 : n < 18446744073709551616) : OpS P ⟨d, .binOp .and t x y u, ty, pos, after, g⟩ s ⟨sput d (RVu (andW m n)) s.fr, s.O⟩ :=
  ops_exact fun _ a _ _ _ _ hr => by simp [execOp, hr.ex hx, hr.ex hy, binOp, eqGuard, intBits_andu h1 h2, andW]
theorem ops_convu {x t u k0} {m : Nat} (hx : s.get x = .v (.int k0 (m : Nat))) (hs : (P.underlying t).isSome = true) (ht : P.underlying u = some (.int .u64)) (h : m < 18446744073709551616) : OpS P ⟨d, .convert t u x, ty, pos, after, g⟩ s ⟨sput d (RVu m) s.fr, s.O⟩ := by
  have := ops_conv (P := P) (d := d) (ty := ty) (pos := pos) (after := after) (g := g) hx hs ht
  rwa [u64_wrap, Nat.mod_eq_of_lt h] at this
attribute [irreducible] addW mulW shrW andW
theorem le_ren {fr fr' : List RV} {O O' : List Bk} (n m : Nat) (hn : n < 1000000000000) (hm : m < 1000000000000) (h1 : m ∉ RV.namesL fr) (h2 : m ∉ onames O) (e1 : RV.renL (fun q => if q = n then m else q) fr = fr') (e2 : renO (fun q => if q = n then m else q) O = O') : LE ⟨fr, O⟩ ⟨fr', O'⟩ := by
  subst e1; subst e2
  refine ⟨?_⟩
  rintro E a w ⟨F, ρ, fp, h⟩
  have hρ : ∀ q, q ≠ m → (fun q => if q = m then ρ n else ρ q) (if q = n then m else q) = ρ q := by
    intro q hq
    by_cases hqn : q = n
    · subst hqn; simp
    · simp [hqn, hq]
  have hlg : ∀ (l : List RV) (i : Nat), lget (RV.renL (fun q => if q = n then m else q) l) i = (lget l i).ren (fun q => if q = n then m else q) := by
    intro l
    induction l with
    | nil => intro i; simp [RV.renL, lget, RV.ren]
    | cons x xs ih => intro i; cases i <;> simp [RV.renL, lget, ih]
  refine ⟨F, fun q => if q = m then ρ n else ρ q, fp, { h with size := by rw [length_renL]; exact h.size, fr := fun i => ?_, O := ?_, pin := fun q hq => ?_ }⟩
  · rw [hlg]
    exact (h.fr i).ren _ fun q hq => hρ q fun e => h1 (e ▸ names_lget _ _ _ hq)
  · exact h.O.ren _ fun q hq => hρ q fun e => h2 (e ▸ hq)
  · rw [if_neg (by omega)]; exact h.pin q hq
theorem ng : (∀ σ : Nat → Nat, RV.renL σ [] = []) ∧ (∀ (σ : Nat → Nat) e l, RV.renL σ (e :: l) = e.ren σ :: RV.renL σ l) ∧ (∀ (σ : Nat → Nat) x, (RV.v x).ren σ = .v x) ∧ (∀ σ : Nat → Nat, RV.any.ren σ = .any) ∧ (∀ (σ : Nat → Nat) l, (RV.sh l).ren σ = .sh l) ∧ (∀ (σ : Nat → Nat) k l, (RV.ow k l).ren σ = .ow k l) ∧ (∀ (σ : Nat → Nat) e, (RV.psh e).ren σ = .psh e) ∧
    (∀ (σ : Nat → Nat) n a b, (RV.ref n a b).ren σ = .ref (σ n) a b) ∧ (∀ (σ : Nat → Nat) n a b, (RV.ptr n a b).ren σ = .ptr (σ n) a b) ∧ (∀ (σ : Nat → Nat) l, (RV.agg l).ren σ = .agg (RV.renL σ l)) ∧ (∀ (σ : Nat → Nat) l, (RV.tup l).ren σ = .tup (RV.renL σ l)) ∧ (∀ (σ : Nat → Nat) f l, (RV.fn f l).ren σ = .fn f (RV.renL σ l)) ∧
    (∀ σ : Nat → Nat, renO σ [] = []) ∧ (∀ (σ : Nat → Nat) n k els O, renO σ ((n, k, els) :: O) = (σ n, k, RV.renL σ els) :: renO σ O) := by
  simp [RV.renL, RV.ren, renO]
theorem renL_map0 {α : Type} (σ : Nat → Nat) (f : α → RV) (l : List α) (h : ∀ x, (f x).ren σ = f x) : RV.renL σ (l.map f) = l.map f := by
  induction l with
  | nil => simp [RV.renL]
  | cons x xs ih => simp [RV.renL, h, ih]
end
theorem RelX.alias {E fr n m k els Or a w F ρ fp} (h : RelX E ⟨fr, (n, k, els) :: Or⟩ a w F ρ fp) (hm : m < 1000000000000) (h1 : m ∉ RV.namesL fr) (h2 : m ∉ onames ((n, k, els) :: Or)) : RelX E ⟨fr, (m, k, els) :: Or⟩ a w F (fun q => if q = m then ρ n else ρ q) fp := by
  have hρ : ∀ q, q ≠ m → (fun q => if q = m then ρ n else ρ q) q = ρ q := fun q hq => by simp [hq]
  have hO := h.O
  simp only [onames, List.mem_cons, List.mem_append, not_or] at h2
  refine { h with fr := fun i => (h.fr i).places fun q hq => hρ q fun e => h1 (e ▸ names_lget _ _ _ hq), O := ?_, pin := fun q hq => ?_ }
  · cases hO with
    | map hn hb hO => exact .map (by simpa using hn) hb (hO.places fun q hq => hρ q fun e => h2.2.2 (e ▸ hq))
    | nilb hk hn hO => exact .nilb hk (by simpa using hn) (hO.places fun q hq => hρ q fun e => h2.2.2 (e ▸ hq))
    | cons hk h3 h4 hb hs hl hmx hc he hO =>
      exact .cons hk (by simpa using h3) (by simpa using h4) hb (by simpa using hs) (by simpa using hl) (by simpa using hmx) hc (he.places fun q hq => hρ q fun e => h2.2.1 (e ▸ hq)) (hO.places fun q hq => hρ q fun e => h2.2.2 (e ▸ hq))
  · simpa [show ¬ q = m by omega] using h.pin q hq
theorem onames_oerase2 {n m q : Nat} {O : List Bk} (h : m ∉ onames O) : m ∉ onames (oerase n (oerase q O)) := fun hx => h (onames_oerase (onames_oerase hx))
theorem killL_id {n : Nat} : ∀ {l : List RV}, n ∉ RV.namesL l → RV.killL n l = l
  | [], _ => by simp [RV.killL]
  | e :: es, h => by
    simp only [RV.namesL, List.mem_append, not_or] at h
    simp only [RV.killL, killL_id h.2]
    congr 1
    exact kill_id h.1
where kill_id {n : Nat} : ∀ {e : RV}, n ∉ e.names → e.kill n = e
  | .ref m a b, h => by simp only [RV.names, List.mem_singleton] at h; simp only [RV.kill]; rw [if_neg (fun e => h e.symm)]
  | .ptr m a b, h => by simp only [RV.names, List.mem_singleton] at h; simp only [RV.kill]; rw [if_neg (fun e => h e.symm)]
  | .agg l, h => by simp only [RV.names] at h; simp only [RV.kill, killL_id h]
  | .fn f l, h => by simp only [RV.names] at h; simp only [RV.kill, killL_id h]
  | .tup l, h => by simp only [RV.names] at h; simp only [RV.kill, killL_id h]
  | .v x, _ => by simp [RV.kill]
  | .any, _ => by simp [RV.kill]
  | .sh l, _ => by simp [RV.kill]
  | .ow k l, _ => by simp [RV.kill]
  | .psh e, _ => by simp [RV.kill]
section
variable {P : Program} {s : St} {d : Tmp} {ty : TypeId} {pos : String} {after : Array Edge} {g : Option (Nat × Bool)}
theorem ops_append_new {x y t n m q k els els2} (hx : s.get x = .ref n 0 els.length) (hy : s.get y = .ref q 0 els2.length) (ho : olook n s.O = some (k, els)) (ho2 : olook q s.O = some (k, els2)) (hne : n ≠ q) (h0 : els2 ≠ [])
    (hm : m < 1000000000000) (hm1 : m ∉ RV.namesL s.fr) (hm2 : m ∉ onames s.O)
    (ht : P.underlying t = some (.slice (P.elem t))) (hw : P.cellsOf (P.elem t) = k) (hz : (zeroOf P (P.elem t)).map (fun z => decide (z.cells.size = k)) = some true) (hb : (P.info? (P.elem t)).map (fun i => decide (i.bytes ≤ 64)) = some true) (hlen : els.length + els2.length ≤ 1099511627776) :
    OpS P ⟨some d, .call ⟨.builtin .append, #[x, y], #[t, t]⟩, ty, pos, after, g⟩ s ⟨lset s.fr d (.ref m 0 (els.length + els2.length)), (m, k, els ++ els2) :: oerase n (oerase q s.O)⟩ :=
  ops_of fun E a w F ρ fp hr => by
    have h1 := (show SV w F ρ (.ref n 0 els.length) (a.eval x) [] from hx ▸ hr.get x).ref_inv
    have h2 := (show SV w F ρ (.ref q 0 els2.length) (a.eval y) [] from hy ▸ hr.get y).ref_inv
    obtain ⟨fpm, hrm⟩ := hr.front ho2
    have ho' := olook_ne ho hne
    obtain ⟨b, tb, c, fp1, fpr, hk, hρ, hρb, hbb, hs, hl, hmx, hE, hO2, rfl⟩ := hrm.O.head h0 (show SV w F ρ (.ref q 0 els2.length) (a.eval y) [] from hy ▸ hr.get y).ref_pos
    obtain ⟨fpn, hOn, hpn⟩ := hO2.pull ho'
    have hnd := hrm.nodup
    have hrel : RelX E ⟨s.fr, (n, k, els) :: oerase n (oerase q s.O)⟩ a w F ρ fpn :=
      hrm.weakO hOn (hpn.nodup_iff.1 (hnd.sublist ((List.sublist_append_right _ _).cons _))) fun x hx => by simp [hpn.mem_iff.2 hx]
    have hnd2 : (fp1 ++ fpn).Nodup := ((List.Perm.refl fp1).append hpn).nodup_iff.1 (hnd.sublist (List.sublist_cons_self _ _))
    have hmn : m ∉ RV.namesL els := fun hx => hm2 (onames_olook ho (.inr hx))
    have hmq : m ∉ RV.namesL els2 := fun hx => hm2 (onames_olook ho2 (.inr hx))
    have hmr : m ∉ onames (oerase n (oerase q s.O)) := onames_oerase2 hm2
    have hmnn : m ≠ n := fun e => hm2 (onames_olook ho (.inl e))
    have hal := hrel.alias (m := m) hm hm1 (by simp only [onames, List.mem_cons, List.mem_append, not_or]; exact ⟨hmnn, hmn, hmr⟩)
    obtain ⟨yv, w', ρ', fp', hrun, hsv, hfin⟩ := hal.append (P := P) (cap2 := (ρ q).2.2 - 0) (OE.block hbb _) (hE.places (ρ' := fun z => if z = m then ρ n else ρ z) fun z hz => by have : z ≠ m := fun e => hmq (e ▸ hz); simp [this]) hE.one hnd2
      (fun z hz => ⟨hrm.fpF z (by simp [hz]), hrm.fpE z (by simp [hz])⟩) ⟨hm, hmn⟩ hmq hmr (t := t) (ty := ty) ht hw hz hb hlen (by simpa using (show SV w F ρ (.ref n 0 els.length) (a.eval x) [] from hx ▸ hr.get x).ref_pos)
    rw [killL_id hm1] at hfin
    refine ⟨yv, w', ?_, F, ρ', fp', hfin.put (some d) hsv⟩
    simp only [if_true] at hrun
    simp only [Nat.zero_mul, hρb, Option.map_some] at h1 h2
    simp only [Nat.sub_zero] at h1 h2 hrun
    simp [execOp, resolve, invoke, builtin, h1, h2, hrun]
end
section
variable {P : Program} {ops : Array Oper} {s : St} {d : Tmp} {ty : TypeId} {pos : String} {after : Array Edge}
theorem Ef.appendNew {x y t n q k els els2} (m : Nat) (hx : s.get x = .ref n 0 els.length) (hy : s.get y = .ref q 0 els2.length) (ho : olook n s.O = some (k, els)) (ho2 : olook q s.O = some (k, els2)) (hne : n ≠ q) (h0 : els2 ≠ [])
    (hm : m < 1000000000000) (hm2 : m ∉ onames s.O)
    (ht : P.underlying t = some (.slice (P.elem t))) (hw : P.cellsOf (P.elem t) = k) (hz : (zeroOf P (P.elem t)).map (fun z => decide (z.cells.size = k)) = some true) (hb : (P.info? (P.elem t)).map (fun i => decide (i.bytes ≤ 64)) = some true) (hlen : els.length + els2.length ≤ 1099511627776) :
    Ef P ops [m] ⟨some d, .call ⟨.builtin .append, #[x, y], #[t, t]⟩, ty, pos, after, none⟩ s (.ref m 0 (els.length + els2.length)) ((m, k, els ++ els2) :: oerase n (oerase q s.O)) := by
  refine Ef.plain fun s2 hs hO hn => ?_
  have e1 := hs x (by simp [Op.operands, Call.operands])
  have e2 := hs y (by simp [Op.operands, Call.operands])
  have := ops_append_new (P := P) (s := s2) (d := d) (ty := ty) (pos := pos) (after := after) (g := none) (t := t) (m := m) (e1.trans hx) (e2.trans hy) (hO ▸ ho) (hO ▸ ho2) hne h0 hm (hn m (by simp)) (hO ▸ hm2) ht hw hz hb hlen
  rw [hO] at this
  exact this
theorem Ef.buildSlice {t n} {parts : Array (Nat × Operand)} {els : List RV} {k : Nat} (hp : parts.toList.map Prod.fst = List.range n) (hels : parts.toList.map (fun p => s.get p.2) = els) (hst : els.all (fun r => (r.stores || r.isAgg) && r.width == k) = true) (hk : 0 < k) (hnk : n * k ≤ 16777216)
    (ht : P.underlying t = some (.slice (P.elem t))) (hw : P.cellsOf (P.elem t) = k) {z : Value} (hz : zeroOf P (P.elem t) = some z) (hd : d < 1000000000000) (hO : d ∉ onames s.O) (hn : d ∉ RV.namesL els) :
    Ef P ops [d] ⟨some d, .buildSlice t n parts, ty, pos, after, none⟩ s (.ref d 0 els.length) ((d, k, els) :: s.O) := by
  refine Ef.plain fun s2 hs hO2 hn2 => ?_
  have hels2 : parts.toList.map (fun p => s2.get p.2) = els := by
    rw [← hels]
    refine List.map_congr_left fun p hp => hs p.2 ?_
    simp only [Op.operands, Array.toList_map, List.mem_map]
    exact ⟨p, hp, rfl⟩
  have := ops_buildSlice (P := P) (s := s2) (d := d) (ty := ty) (pos := pos) (after := after) (g := none) hp hels2 hst hk hnk ht hw hz ⟨hd, hn2 d (by simp)⟩ (hO2 ▸ hO) hn
  rw [hO2] at this
  exact this
theorem Ef.callG {f args ats argsR r} (ns : List Nat) {M R : List Bk} (Oout : List Bk) (hp : pulls ns s.O = some (M, R) := by rfl) (hargs : RV.renL (pinσ M) (args.toList.map s.get) = argsR := by first | rfl | (simp [St.get, lget, ng, pinσ, mpos, nm, vw, renO, unpin, onames, renL_id, killLs, nz, oerase, bnames, openR, open1, openC, nb, -List.map_take, -List.map_drop]; fail_if_success show _)) (hnt : (args.toList.map s.get).all RV.notTup = true := by rfl)
    (hna : (RV.namesL (args.toList.map s.get)).all (fun n => (mpos n M).isSome) = true := by simp [St.get, lget, ng, pinσ, mpos, nm, vw, renO, unpin, onames, renL_id, killLs, nz, oerase, bnames, openR, open1, openC, nb, -List.map_take, -List.map_drop]) (hnM : M.all (fun b => (RV.namesL b.2.2).all fun n => (mpos n M).isSome) = true := by simp [St.get, lget, ng, pinσ, mpos, nm, vw, renO, unpin, onames, renL_id, killLs, nz, oerase, bnames, openR, open1, openC, nb, -List.map_take, -List.map_drop]) (hc : callable P f = true := by kernel_rfl) {Min : List Bk} (hMin : renO (pinσ M) M = Min := by first | rfl | (simp [St.get, lget, ng, pinσ, mpos, nm, vw, renO, unpin, onames, renL_id, killLs, nz, oerase, bnames, openR, open1, openC, nb, -List.map_take, -List.map_drop]; fail_if_success show _))
    (hfc : FC P f argsR Min fun rv O => rv = r ∧ O = Oout) (hnO : (onames Oout).all (fun n => decide (1000000000000 ≤ n) && decide (n - 1000000000000 < M.length)) = true := by simp [St.get, lget, ng, pinσ, mpos, nm, vw, renO, unpin, onames, renL_id, killLs, nz, oerase, bnames, openR, open1, openC, nb, -List.map_take, -List.map_drop])
    (hr : r.resOkT = true := by simp [RV.resOkT, RV.resOk, RV.isAgg, nm]) (hnb : (bnames (openR d r).2).Nodup := by simp [St.get, lget, ng, pinσ, mpos, nm, vw, renO, unpin, onames, renL_id, killLs, nz, oerase, bnames, openR, open1, openC, nb, -List.map_take, -List.map_drop]) (hf : ∀ m ∈ bnames (openR d r).2, m < 1000000000000 ∧ m ∉ onames (renO (unpin M) Oout ++ R) := by simp [St.get, lget, ng, pinσ, mpos, nm, vw, renO, unpin, onames, renL_id, killLs, nz, oerase, bnames, openR, open1, openC, nb, -List.map_take, -List.map_drop]) :
    Ef P ops (bnames (openR d r).2) ⟨some d, .call ⟨.value (.func f), args, ats⟩, ty, pos, after, none⟩ s (openR d r).1 ((openR d r).2 ++ (renO (unpin M) Oout ++ R)) := by
  refine Ef.plain fun s2 hs hO hn => ?_
  have hg : ∀ x ∈ args.toList, s2.get x = s.get x := fun x hx => hs x (by simp only [Op.operands, Call.operands, Array.toList_append]; simp [hx])
  have e : args.toList.map s2.get = args.toList.map s.get := List.map_congr_left hg
  exact ops_callG (s := s2) ns [] Oout (hO ▸ hp) (e ▸ hargs) (e ▸ hnt) (e ▸ hna) hnM hc hMin hfc hnO hr hnb (fun m hm => ⟨(hf m hm).1, hn m hm, (hf m hm).2⟩)
end
theorem renL_id {σ : Nat → Nat} : ∀ {l : List RV}, RV.namesL l = [] → RV.renL σ l = l
  | [], _ => by simp [RV.renL]
  | e :: es, h => by
    simp only [RV.namesL, List.append_eq_nil_iff] at h
    simp only [RV.renL, renL_id h.2]
    congr 1
    exact ren_id h.1
where ren_id {σ : Nat → Nat} : ∀ {e : RV}, e.names = [] → e.ren σ = e
  | .ref m a b, h => by simp [RV.names] at h
  | .ptr m a b, h => by simp [RV.names] at h
  | .agg l, h => by simp only [RV.names] at h; simp only [RV.ren, renL_id h]
  | .fn f l, h => by simp only [RV.names] at h; simp only [RV.ren, renL_id h]
  | .tup l, h => by simp only [RV.names] at h; simp only [RV.ren, renL_id h]
  | .v x, _ => by simp [RV.ren]
  | .any, _ => by simp [RV.ren]
  | .sh l, _ => by simp [RV.ren]
  | .ow k l, _ => by simp [RV.ren]
  | .psh e, _ => by simp [RV.ren]
def pin1 (n q : Nat) : Nat := if q = n then 1000000000000 else q
section
variable {P : Program} {s : St} {d : Tmp} {ty : TypeId} {pos : String} {after : Array Edge} {g : Option (Nat × Bool)}
theorem ops_callP {f args ats argsR r} (n : Nat) {k : Nat} {els : List RV} (els' : List RV) (ho : olook n s.O = some (k, els) := by rfl) (hargs : RV.renL (pin1 n) (args.toList.map s.get) = argsR := by first | rfl | (simp only [vw, ng, nm, nz, nf, nr, pin1, reduceIte, Nat.reduceEqDiff]; rfl) | (simp [ng, pin1]; fail_if_success show _)) (hnt : (args.toList.map s.get).all RV.notTup = true := by rfl)
    (hna : ∀ q ∈ RV.namesL (args.toList.map s.get), q = n := by intro q hq; revert hq; simp [St.get, lget, nm]) (hc : callable P f = true := by kernel_rfl) (hfc : FC P f argsR [(1000000000000, k, els)] fun rv O => rv = r ∧ O = [(1000000000000, k, els')])
    (hM : RV.namesL els = [] := by simp [nm]) (hM' : RV.namesL els' = [] := by simp [nm]) (hr : r.resOkT = true := by simp [RV.resOkT, RV.resOk, RV.isAgg, nm]) (hnb : (bnames (openR d r).2).Nodup := by simp [nz, nm]) (hf : ∀ m ∈ bnames (openR d r).2, m < 1000000000000 ∧ m ∉ RV.namesL s.fr ∧ m ∉ n :: onames (oerase n s.O) := by simp [nz, nm]) :
    OpS P ⟨some d, .call ⟨.value (.func f), args, ats⟩, ty, pos, after, g⟩ s ⟨lset s.fr d (openR d r).1, (openR d r).2 ++ oset n els' s.O⟩ := by
  have hpu : pulls [n] s.O = some ([(n, k, els)], oerase n s.O) := by simp [pulls, ho]
  have hσ : ∀ q, pinσ [(n, k, els)] q = pin1 n q := by
    intro q; unfold pinσ pin1; simp only [mpos]
    by_cases h : n = q
    · simp [h]
    · have h2 : ¬ q = n := fun e => h e.symm
      simp [h, h2]
  have hσ' : pinσ [(n, k, els)] = pin1 n := funext hσ
  have hun : unpin [(n, k, els)] 1000000000000 = n := by simp [unpin]
  have h := ops_callG (P := P) (s := s) (d := d) (ty := ty) (pos := pos) (after := after) (g := g) (f := f) (args := args) (ats := ats) (argsR := argsR) (r := r) [n] [] [(1000000000000, k, els')] hpu (by rw [hσ']; exact hargs) hnt
    (List.all_eq_true.2 fun q hq => by rw [hna q hq]; simp [mpos]) (by simp [hM]) hc (by simp only [renO, renL_id hM, hσ, pin1, if_true]) hfc
    (by simp [onames, hM']) hr hnb
    (fun m hm => ⟨(hf m hm).1, (hf m hm).2.1, by have := (hf m hm).2.2; simpa [renO, renL_id hM', hun, onames, hM'] using this⟩)
  have e : renO (unpin [(n, k, els)]) [(1000000000000, k, els')] = [(n, k, els')] := by simp only [renO, renL_id hM', hun]
  rw [e] at h
  exact OpS.shuf (Le.refl _) h ((shuf_back ho).app _)
theorem Ef.callP {ops : Array Oper} {f args ats argsR r} (n : Nat) {k : Nat} {els : List RV} (els' : List RV) (ho : olook n s.O = some (k, els) := by rfl) (hargs : RV.renL (pin1 n) (args.toList.map s.get) = argsR := by first | rfl | (simp only [vw, ng, nm, nz, nf, nr, pin1, reduceIte, Nat.reduceEqDiff]; rfl) | (simp [ng, pin1]; fail_if_success show _)) (hnt : (args.toList.map s.get).all RV.notTup = true := by rfl)
    (hna : ∀ q ∈ RV.namesL (args.toList.map s.get), q = n := by intro q hq; revert hq; simp [St.get, lget, nm]) (hc : callable P f = true := by kernel_rfl) (hfc : FC P f argsR [(1000000000000, k, els)] fun rv O => rv = r ∧ O = [(1000000000000, k, els')])
    (hM : RV.namesL els = [] := by simp [nm]) (hM' : RV.namesL els' = [] := by simp [nm]) (hr : r.resOkT = true := by simp [RV.resOkT, RV.resOk, RV.isAgg, nm]) (hnb : (bnames (openR d r).2).Nodup := by simp [nz, nm]) (hf : ∀ m ∈ bnames (openR d r).2, m < 1000000000000 ∧ m ∉ n :: onames (oerase n s.O) := by simp [nz, nm]) :
    Ef P ops (bnames (openR d r).2) ⟨some d, .call ⟨.value (.func f), args, ats⟩, ty, pos, after, none⟩ s (openR d r).1 ((openR d r).2 ++ oset n els' s.O) := by
  refine Ef.plain fun s2 hs hO hn => ?_
  have hg : ∀ x ∈ args.toList, s2.get x = s.get x := fun x hx => hs x (by simp only [Op.operands, Call.operands, Array.toList_append]; simp [hx])
  have e : args.toList.map s2.get = args.toList.map s.get := List.map_congr_left hg
  have := ops_callP (P := P) (s := s2) (d := d) (ty := ty) (pos := pos) (after := after) (g := none) (f := f) (args := args) (ats := ats) (argsR := argsR) (r := r) n els' (hO ▸ ho) (e ▸ hargs) (e ▸ hnt) (e ▸ hna) hc hfc hM hM' hr hnb (fun m hm => ⟨(hf m hm).1, hn m hm, hO ▸ (hf m hm).2⟩)
  rw [hO] at this
  exact this
end
section
variable {P : Program} {s : St} {d : Tmp} {ty : TypeId} {pos : String} {after : Array Edge} {g : Option (Nat × Bool)}
theorem ops_append_newsh {x y t n m k els els2} (hx : s.get x = .ref n 0 els.length) (hy : s.get y = .sh els2) (ho : olook n s.O = some (k, els)) (hwd : els2.all (fun e => e.width == k) = true)
    (hm : m < 1000000000000) (hm1 : m ∉ RV.namesL s.fr) (hm2 : m ∉ onames s.O)
    (ht : P.underlying t = some (.slice (P.elem t))) (hw : P.cellsOf (P.elem t) = k) (hz : (zeroOf P (P.elem t)).map (fun z => decide (z.cells.size = k)) = some true) (hb : (P.info? (P.elem t)).map (fun i => decide (i.bytes ≤ 64)) = some true) (hlen : els.length + els2.length ≤ 1099511627776) :
    OpS P ⟨some d, .call ⟨.builtin .append, #[x, y], #[t, t]⟩, ty, pos, after, g⟩ s ⟨lset s.fr d (.ref m 0 (els.length + els2.length)), (m, k, els ++ els2) :: oerase n s.O⟩ :=
  ops_of fun E a w F ρ fp hr => by
    have h1 := (show SV w F ρ (.ref n 0 els.length) (a.eval x) [] from hx ▸ hr.get x).ref_inv
    have h2 := (show SV w F ρ (.sh els2) (a.eval y) [] from hy ▸ hr.get y).sh_inv
    have hpn := (show SV w F ρ (.ref n 0 els.length) (a.eval x) [] from hx ▸ hr.get x).ref_pos
    obtain ⟨fpn, hrn⟩ := hr.front ho
    have hmn : m ∉ RV.namesL els := fun hx => hm2 (onames_olook ho (.inr hx))
    have hmr : m ∉ onames (oerase n s.O) := fun hx => hm2 (onames_oerase hx)
    have hmnn : m ≠ n := fun e => hm2 (onames_olook ho (.inl e))
    have hal := hrn.alias (m := m) hm hm1 (by simp only [onames, List.mem_cons, List.mem_append, not_or]; exact ⟨hmnn, hmn, hmr⟩)
    have fin : ∀ (a2 : Addr) (cap2 : Nat) (cells : List Value), a.eval y = .slice (some a2) els2.length cap2 → CellsAt w a2 cells → FE w F k els2 cells → ∃ y_1 w', (execOp a.eval ⟨some d, .call ⟨.builtin .append, #[x, y], #[t, t]⟩, ty, pos, after, g⟩).run P w = .ok (.value y_1) w' ∧
        Rel E ⟨lset s.fr d (.ref m 0 (els.length + els2.length)), (m, k, els ++ els2) :: oerase n s.O⟩ (a.put (some d) y_1) w' := by
      intro a2 cap2 cells hey hc hf
      obtain ⟨yv, w', ρ', fp', hrun, hsv, hfin⟩ := hal.append (P := P) (cap2 := cap2) hc (OE.of_FE hf) hf.one (by simpa using hrn.nodup) (by simp) ⟨hm, hmn⟩ (by rw [hf.names]; simp) hmr (t := t) (ty := ty) ht hw hz hb hlen (by simpa using (show SV w F ρ (.ref n 0 els.length) (a.eval x) [] from hx ▸ hr.get x).ref_pos)
      rw [killL_id hm1] at hfin
      refine ⟨yv, w', ?_, F, ρ', fp', hfin.put (some d) hsv⟩
      simp only [if_true] at hrun
      simp only [Nat.zero_mul, Nat.sub_zero] at h1
      simp [execOp, resolve, invoke, builtin, h1, hey, hrun]
    rcases h2 with ⟨_, ⟨rfl, a2, cap, h2⟩ | ⟨a2, cap, k', cells, h2, hk', hF, hmx, hc, hf⟩⟩
    · have hsv : SV w F (fun q => if q = m then ρ n else ρ q) (.ref m 0 els.length) (a.eval x) [] := by
        have := h1
        rw [this]
        have h3 := SV.one (.cell rfl (OE.ref (w := w) (F := F) (ρ := fun q => if q = m then ρ n else ρ q) m 0 els.length (by simpa using (show SV w F ρ (.ref n 0 els.length) (a.eval x) [] from hx ▸ hr.get x).ref_pos) (.nil _ _)))
        simpa using h3
      refine ⟨a.eval x, w, ?_, F, (fun q => if q = m then ρ n else ρ q), fpn, ?_⟩
      · cases hi : P.info? (P.elem t) with
        | none => simp [hi] at hb
        | some i =>
          have hle : els.length ≤ (ρ n).2.2 := by
            cases hrn.O with
            | nilb _ hρ _ => simp
            | cons _ _ _ _ _ hl _ _ _ _ => exact hl
            | map hρ0 => exact absurd hρ0 hpn
          simp only [Nat.zero_mul, Nat.sub_zero] at h1
          cases hρb : (ρ n).1 with
          | none => cases a2 <;> simp [execOp, resolve, invoke, builtin, h1, h2, hρb, Builtin.append_, run_underlying ht, sizeOf, typeInfo, hi, Builtin.lenOf, Builtin.firstCells, loadCells, loadCellsFrom, hle]
          | some b => cases a2 <;> simp [execOp, resolve, invoke, builtin, h1, h2, hρb, Builtin.append_, run_underlying ht, sizeOf, typeInfo, hi, Builtin.lenOf, Builtin.firstCells, loadCells, loadCellsFrom, hle, storeCells]
      · have h5 := hal.put (some d) hsv
        simpa [sput] using h5
    · have hkk : k' = k ∨ els2 = [] := by
        cases els2 with
        | nil => exact .inr rfl
        | cons e es =>
          left
          obtain ⟨c1, c2, _, _, h3, _⟩ := hf.cons_inv
          simp only [List.all_cons, Bool.and_eq_true, beq_iff_eq] at hwd
          rw [← hwd.1, h3.width]
      rcases hkk with rfl | rfl
      · exact fin a2 cap cells h2 hc hf
      · cases hf; exact fin a2 cap [] h2 (fun j y hj => by simp at hj) (.nil _)
end
section
variable {P : Program} {ops : Array Oper} {s : St} {d : Tmp} {ty : TypeId} {pos : String} {after : Array Edge}
theorem Ef.appendNewsh {x y t n k els els2} (m : Nat) (hx : s.get x = .ref n 0 els.length) (hy : s.get y = .sh els2) (ho : olook n s.O = some (k, els)) (hwd : els2.all (fun e => e.width == k) = true)
    (hm : m < 1000000000000) (hm2 : m ∉ onames s.O)
    (ht : P.underlying t = some (.slice (P.elem t))) (hw : P.cellsOf (P.elem t) = k) (hz : (zeroOf P (P.elem t)).map (fun z => decide (z.cells.size = k)) = some true) (hb : (P.info? (P.elem t)).map (fun i => decide (i.bytes ≤ 64)) = some true) (hlen : els.length + els2.length ≤ 1099511627776) :
    Ef P ops [m] ⟨some d, .call ⟨.builtin .append, #[x, y], #[t, t]⟩, ty, pos, after, none⟩ s (.ref m 0 (els.length + els2.length)) ((m, k, els ++ els2) :: oerase n s.O) := by
  refine Ef.plain fun s2 hs hO hn => ?_
  have e1 := hs x (by simp [Op.operands, Call.operands])
  have e2 := hs y (by simp [Op.operands, Call.operands])
  have := ops_append_newsh (P := P) (s := s2) (d := d) (ty := ty) (pos := pos) (after := after) (g := none) (t := t) (m := m) (e1.trans hx) (e2.trans hy) (hO ▸ ho) hwd hm (hn m (by simp)) (hO ▸ hm2) ht hw hz hb hlen
  rw [hO] at this
  exact this
end
section
variable {P : Program} {ops : Array Oper} {s : St} {d : Tmp} {ty : TypeId} {pos : String} {after : Array Edge}
theorem Ef.apNew {x y t n m q k els els2 len len2} (hx : s.get x = .ref n 0 len) (hy : s.get y = .ref q 0 len2) (ho : olook n s.O = some (k, els)) (ho2 : olook q s.O = some (k, els2)) (hne : n ≠ q) (hl : len = els.length) (hl2 : len2 = els2.length) (h0 : els2 ≠ [])
    (hm : m < 1000000000000) (hm2 : m ∉ onames s.O) (ha : appOk P t k) (hlen : els.length + els2.length ≤ 1099511627776) :
    Ef P ops [m] ⟨some d, .call ⟨.builtin .append, #[x, y], #[t, t]⟩, ty, pos, after, none⟩ s (.ref m 0 (els ++ els2).length) ((m, k, els ++ els2) :: oerase n (oerase q s.O)) := by
  subst hl; subst hl2
  have := Ef.appendNew (P := P) (ops := ops) (d := d) (ty := ty) (pos := pos) (after := after) m hx hy ho ho2 hne h0 hm hm2 ha.1 ha.2.1 ha.2.2.1 ha.2.2.2 hlen
  rwa [← List.length_append] at this
theorem Ef.apNewsh {x y t n m k els els2 len} (hx : s.get x = .ref n 0 len) (hy : s.get y = .sh els2) (ho : olook n s.O = some (k, els)) (hl : len = els.length) (hwd : els2.all (fun e => e.width == k) = true)
    (hm : m < 1000000000000) (hm2 : m ∉ onames s.O) (ha : appOk P t k) (hlen : els.length + els2.length ≤ 1099511627776) :
    Ef P ops [m] ⟨some d, .call ⟨.builtin .append, #[x, y], #[t, t]⟩, ty, pos, after, none⟩ s (.ref m 0 (els ++ els2).length) ((m, k, els ++ els2) :: oerase n s.O) := by
  subst hl
  have := Ef.appendNewsh (P := P) (ops := ops) (d := d) (ty := ty) (pos := pos) (after := after) m hx hy ho hwd hm hm2 ha.1 ha.2.1 ha.2.2.1 ha.2.2.2 hlen
  rwa [← List.length_append] at this
end
section
variable {P : Program} {s : St} {d : Option Tmp} {ty : TypeId} {pos : String} {after : Array Edge} {g : Option (Nat × Bool)}
theorem ops_buildSlice_fz {t n} {parts : Array (Nat × Operand)} {els : List RV} {k : Nat} (hp : parts.toList.map Prod.fst = List.range n) (hels : parts.toList.map (fun p => s.get p.2) = els) (hst : els.all (fun r => (r.stores || r.isAgg) && r.width == k) = true) (hk : 0 < k) (hnk : n * k ≤ 16777216)
    (ht : P.underlying t = some (.slice (P.elem t))) (hw : P.cellsOf (P.elem t) = k) {z : Value} (hz : zeroOf P (P.elem t) = some z) :
    OpS P ⟨d, .buildSlice t n parts, ty, pos, after, g⟩ s ⟨sput d (.sh (RV.fzL els)) s.fr, s.O⟩ :=
  ops_of fun E a w F ρ fp hr => by
    have hlen : els.length = n := by rw [← hels, List.length_map, ← List.length_map (f := Prod.fst), hp]; simp
    have hys : ∀ (l : List (Nat × Operand)), (l.map (fun p => s.get p.2)).all (fun r => (r.stores || r.isAgg) && r.width == k) = true → OE w F ρ k (l.map fun p => s.get p.2) ((l.map fun p => a.eval p.2).flatMap fun v => v.cells.toList) [] ∧ ∀ v ∈ l.map (fun p => a.eval p.2), v.cells.size = k := by
      intro l
      induction l with
      | nil => intro _; exact ⟨.nil _ _, by simp⟩
      | cons p l ih =>
        intro hall
        simp only [List.map_cons, List.all_cons, Bool.and_eq_true, Bool.or_eq_true, beq_iff_eq] at hall
        obtain ⟨h1, h2⟩ := ih (by simpa using hall.2)
        obtain ⟨h3, h4⟩ := (hr.get p.2).elem hall.1.1 hall.1.2
        refine ⟨by simpa using OE.cons h3 h1, ?_⟩
        intro v hv
        rcases List.mem_cons.1 hv with rfl | hv
        · exact h4
        · exact h2 v hv
    obtain ⟨hE, hsz⟩ := hys parts.toList (by rw [hels]; exact hst)
    rw [hels] at hE
    have hfl := hE.length
    have hrunV : (execOp a.eval ⟨d, .buildSlice t n parts, ty, pos, after, g⟩).run P w = .ok (.value (.slice (some ⟨w.heap.size, 0, none⟩) n n)) (w.alloc (.cells ((parts.toList.map fun p => a.eval p.2).flatMap fun v => v.cells.toList).toArray (P.elem t))) := by
      have hparts : (parts.map fun (i, x) => (i, a.eval x)).toList = ((parts.toList.map fun p => a.eval p.2).zipIdx 0).map fun p => (p.2, p.1) := by
        apply List.ext_getElem
        · simp
        · intro i h1 h2
          have h3 : i < parts.toList.length := by simpa using h1
          have h6 : (parts.toList.map Prod.fst)[i]'(by simpa using h3) = i := by simp [hp]
          simp only [List.getElem_map] at h6
          simp [List.getElem_zipIdx]
          simpa using h6
      have hf := fill_all k (parts.toList.map fun p => a.eval p.2) 0 ((Array.range (n * k)).map (z.cells[· % z.cells.size]!)) hsz (by
        have : parts.toList.length = n := by rw [← List.length_map (f := Prod.fst), hp]; simp
        simp only [Array.length_toList] at this
        simp [this])
      simp only [Nat.zero_mul, List.take_zero, List.nil_append] at hf
      have hnk' : ¬ (n * k > 2 ^ 24) := by omega
      by_cases h0 : n * k = 0
      · have hn0 : n = 0 := by rcases Nat.mul_eq_zero.1 h0 with h | h <;> omega
        subst hn0
        have hpn : parts.toList = [] := by have := congrArg List.length hp; simpa using this
        have hpa : parts = #[] := by apply Array.ext'; simpa using hpn
        subst hpa
        simp [execOp, Instr.buildSlice, run_underlying ht, run_sizeOf hw hk, Instr.fill, newRow, Array.range_zero']
      · simp only [execOp, Instr.buildSlice, Sem.run_bind, run_underlying ht, Result.andThen_ok, run_sizeOf hw hk, if_neg hnk', if_neg h0, run_zeroValue hz, Sem.run_pure, hparts]
        rw [hf]
        simp [newRow]
    have hFE : FE w F k (RV.fzL els) ((parts.toList.map fun p => a.eval p.2).flatMap fun v => v.cells.toList) := hE.fz_ (fun _ h => h) (fun _ h => nomatch h)
    have hnew := _root_.Go.heap_alloc_new w (.cells ((parts.toList.map fun p => a.eval p.2).flatMap fun v => v.cells.toList).toArray (P.elem t))
    have hold : ∀ b, b < w.heap.size → (w.alloc (.cells ((parts.toList.map fun p => a.eval p.2).flatMap fun v => v.cells.toList).toArray (P.elem t))).heap[b]? = w.heap[b]? := fun b hb => _root_.Go.heap_alloc_old w _ hb
    have hFE2 := hFE.mono (w' := w.alloc (.cells ((parts.toList.map fun p => a.eval p.2).flatMap fun v => v.cells.toList).toArray (P.elem t))) (F' := fun b => F b ∨ b = w.heap.size) fun b hb => ⟨.inl hb, hold b (hr.Fs b hb)⟩
    refine ⟨_, _, hrunV, fun b => F b ∨ b = w.heap.size, ρ, fp, ?_⟩
    have hw2 := hr.world (w' := w.alloc (.cells ((parts.toList.map fun p => a.eval p.2).flatMap fun v => v.cells.toList).toArray (P.elem t))) (F' := fun b => F b ∨ b = w.heap.size) (fun _ h => .inl h)
      (fun b hb => by
        rcases hb with hb | rfl
        · exact ⟨.inl hb, by have := hr.Fs b hb; simp; omega⟩
        · exact ⟨.inr (Nat.le_refl _), by simp⟩) hold (by simp) rfl ⟨rfl, .inl (Nat.le_refl _)⟩ rfl
    have hl2 : (RV.fzL els).length = n := by rw [fzL_eq]; simpa using hlen
    refine hw2.put d (.one (.cell rfl ?_))
    by_cases h0 : n = 0
    · subst h0
      rw [List.eq_nil_of_length_eq_zero hl2]
      exact OE.of_FE (.shnil _ _ (.nil _))
    · have := FE.sh (w := w.alloc (.cells ((parts.toList.map fun p => a.eval p.2).flatMap fun v => v.cells.toList).toArray (P.elem t))) (F := fun b => F b ∨ b = w.heap.size) ⟨w.heap.size, 0, none⟩ n k (els := RV.fzL els) hk (.inr rfl)
        (by rw [hl2]; refine ⟨?_, Nat.le_refl _⟩; simp only [maxLen]; have := Nat.le_mul_of_pos_right n hk; omega) (by have h9 := OE.block hnew ((parts.toList.map fun p => a.eval p.2).flatMap fun v => v.cells.toList).length; rwa [List.take_length] at h9) hFE2 (.nil 1)
      rw [hl2] at this
      exact OE.of_FE this
theorem fs_buildSlice {RO t n} {parts : Array (Nat × Operand)} {els : List RV} {k : Nat} (hp : parts.toList.map Prod.fst = List.range n) (hels : parts.toList.map (fun p => s.get p.2) = els) (hst : els.all (fun r => (r.stores || r.isAgg) && r.width == k) = true) (hk : 0 < k) (hnk : n * k ≤ 16777216)
    (ht : P.underlying t = some (.slice (P.elem t))) (hw : P.cellsOf (P.elem t) = k) {z : Value} (hz : zeroOf P (P.elem t) = some z) {r : List RV} (hr : RV.fzL els = r) :
    Fs P RO ⟨d, .buildSlice t n parts, ty, pos, after, g⟩ s (.sh r) := fun s2 hs hO => by
  subst hr
  refine ops_buildSlice_fz hp ?_ hst hk hnk ht hw hz
  rw [← hels]
  refine List.map_congr_left fun p hp => hs p.2 ?_
  simp only [Op.operands, Array.toList_map, List.mem_map]
  exact ⟨p, hp, rfl⟩
end
section
variable {P : Program} {s : St} {d : Option Tmp} {ty : TypeId} {pos : String} {after : Array Edge} {g : Option (Nat × Bool)}
theorem ops_cutm {α : Type} {f : α → RV} {v : List α} {x lo hi t k1 k2 kk} {l h : Nat} (hx : s.get x = .sh (v.map f)) (hl : s.get lo = .v (.int k1 (l : Nat))) (hh : s.get hi = .v (.int k2 (h : Nat))) (h1 : l ≤ h) (h2 : h ≤ v.length) (ht : P.underlying t = some (.slice (P.elem t))) (hw : P.cellsOf (P.elem t) = kk) (hk : 0 < kk) (hwd : ∀ e, (f e).width = kk) :
    OpS P ⟨d, .slice t x (some lo) (some hi) none, ty, pos, after, g⟩ s ⟨sput d (.sh (((v.drop l).take (h - l)).map f)) s.fr, s.O⟩ := by
  rw [List.map_take, List.map_drop]
  exact ops_cut hx hl hh h1 (by simpa using h2) ht hw hk (fun e he => by obtain ⟨y, _, rfl⟩ := List.mem_map.1 he; exact hwd y)
theorem ops_cutlm {α : Type} {f : α → RV} {v : List α} {x lo t k1 kk} {l : Nat} (hx : s.get x = .sh (v.map f)) (hl : s.get lo = .v (.int k1 (l : Nat))) (h1 : l ≤ v.length) (ht : P.underlying t = some (.slice (P.elem t))) (hw : P.cellsOf (P.elem t) = kk) (hk : 0 < kk) (hwd : ∀ e, (f e).width = kk) :
    OpS P ⟨d, .slice t x (some lo) none none, ty, pos, after, g⟩ s ⟨sput d (.sh ((v.drop l).map f)) s.fr, s.O⟩ := by
  rw [List.map_drop]
  exact ops_cutl hx hl (by simpa using h1) ht hw hk (fun e he => by obtain ⟨y, _, rfl⟩ := List.mem_map.1 he; exact hwd y)
theorem ops_cuthm {α : Type} {f : α → RV} {v : List α} {x hi t k2 kk} {h : Nat} (hx : s.get x = .sh (v.map f)) (hh : s.get hi = .v (.int k2 (h : Nat))) (h2 : h ≤ v.length) (ht : P.underlying t = some (.slice (P.elem t))) (hw : P.cellsOf (P.elem t) = kk) (hk : 0 < kk) (hwd : ∀ e, (f e).width = kk) :
    OpS P ⟨d, .slice t x none (some hi) none, ty, pos, after, g⟩ s ⟨sput d (.sh ((v.take h).map f)) s.fr, s.O⟩ := by
  rw [List.map_take]
  exact ops_cuth hx hh (by simpa using h2) ht hw hk (fun e he => by obtain ⟨y, _, rfl⟩ := List.mem_map.1 he; exact hwd y)
theorem fs_cutm {RO} {α : Type} {f : α → RV} {v : List α} {x lo hi t k1 k2 kk} {l h : Nat} (hx : s.get x = .sh (v.map f)) (hl : s.get lo = .v (.int k1 (l : Nat))) (hh : s.get hi = .v (.int k2 (h : Nat))) (h1 : l ≤ h) (h2 : h ≤ v.length) (ht : P.underlying t = some (.slice (P.elem t))) (hw : P.cellsOf (P.elem t) = kk) (hk : 0 < kk) (hwd : ∀ e, (f e).width = kk) :
    Fs P RO ⟨d, .slice t x (some lo) (some hi) none, ty, pos, after, g⟩ s (.sh (((v.drop l).take (h - l)).map f)) := fun s2 hsx hO => ops_cutm ((hsx _ (by simp [Op.operands, Call.operands])).trans hx) ((hsx _ (by simp [Op.operands, Call.operands])).trans hl) ((hsx _ (by simp [Op.operands, Call.operands])).trans hh) h1 h2 ht hw hk hwd
theorem fs_cutlm {RO} {α : Type} {f : α → RV} {v : List α} {x lo t k1 kk} {l : Nat} (hx : s.get x = .sh (v.map f)) (hl : s.get lo = .v (.int k1 (l : Nat))) (h1 : l ≤ v.length) (ht : P.underlying t = some (.slice (P.elem t))) (hw : P.cellsOf (P.elem t) = kk) (hk : 0 < kk) (hwd : ∀ e, (f e).width = kk) :
    Fs P RO ⟨d, .slice t x (some lo) none none, ty, pos, after, g⟩ s (.sh ((v.drop l).map f)) := fun s2 hsx hO => ops_cutlm ((hsx _ (by simp [Op.operands, Call.operands])).trans hx) ((hsx _ (by simp [Op.operands, Call.operands])).trans hl) h1 ht hw hk hwd
theorem fs_cuthm {RO} {α : Type} {f : α → RV} {v : List α} {x hi t k2 kk} {h : Nat} (hx : s.get x = .sh (v.map f)) (hh : s.get hi = .v (.int k2 (h : Nat))) (h2 : h ≤ v.length) (ht : P.underlying t = some (.slice (P.elem t))) (hw : P.cellsOf (P.elem t) = kk) (hk : 0 < kk) (hwd : ∀ e, (f e).width = kk) :
    Fs P RO ⟨d, .slice t x none (some hi) none, ty, pos, after, g⟩ s (.sh ((v.take h).map f)) := fun s2 hsx hO => ops_cuthm ((hsx _ (by simp [Op.operands, Call.operands])).trans hx) ((hsx _ (by simp [Op.operands, Call.operands])).trans hh) h2 ht hw hk hwd
end
section
variable {P : Program} {RO : Nat → Bool} {s : St} {d : Option Tmp} {ty : TypeId} {pos : String} {after : Array Edge} {g : Option (Nat × Bool)}
theorem fs_move {x} : Fs P RO ⟨d, .move x, ty, pos, after, g⟩ s (s.get x) := fun s2 hs _ => by
  have h := ops_move (P := P) (d := d) (ty := ty) (pos := pos) (after := after) (g := g) (s := s2) (x := x)
  rwa [hs x (by simp [Op.operands])] at h
theorem fs_assign {x} : Fs P RO ⟨d, .assign x, ty, pos, after, g⟩ s (s.get x) := fun s2 hs _ => by
  have h := ops_assign (P := P) (d := d) (ty := ty) (pos := pos) (after := after) (g := g) (s := s2) (x := x)
  rwa [hs x (by simp [Op.operands])] at h
end
theorem nq : (∀ fr, killLs [] fr = fr) ∧ (∀ n ns fr, killLs (n :: ns) fr = killLs ns (RV.killL n fr)) ∧ (∀ (b : Bk) M, unpin (b :: M) 1000000000000 = b.1) ∧ (∀ (a b : Bk) M, unpin (a :: b :: M) 1000000000001 = b.1) ∧ (∀ (a0 a1 b : Bk) M, unpin (a0 :: a1 :: b :: M) 1000000000002 = b.1) ∧
    (∀ (a0 a1 a2 b : Bk) M, unpin (a0 :: a1 :: a2 :: b :: M) 1000000000003 = b.1) ∧ (∀ (a0 a1 a2 a3 b : Bk) M, unpin (a0 :: a1 :: a2 :: a3 :: b :: M) 1000000000004 = b.1) ∧ (∀ (a0 a1 a2 a3 a4 b : Bk) M, unpin (a0 :: a1 :: a2 :: a3 :: a4 :: b :: M) 1000000000005 = b.1) ∧
    (∀ (A : List Bk), ([] : List Bk) ++ A = A) ∧ (∀ (a : Bk) (A B : List Bk), (a :: A) ++ B = a :: (A ++ B)) := by
  simp [killLs, unpin]

/-! Regions that draw their order, where what is looked at is told of each operation. -/
def DS (P : Program) (ops : Array Oper) (rd : Nat → List Nat) (sw : Nat → Nat → Bool) (eff : Nat → Bool) (ALL : List Nat) (R : St → Prop) : List Nat → List (List Nat) → St → Prop
  | [], _, s => R s
  | i :: rest, news, s => ∃ o r, ops[i]? = some o ∧
    if eff i then ∃ new news' O', news = new :: news' ∧ (∀ m ∈ r.names, m ∉ news'.flatten) ∧ (∀ k, sw k i = true → ∀ n ∈ rd k, olook n O' = olook n s.O) ∧ Ef P ops new o s r O' ∧ DS P ops rd sw eff ALL R rest news' ⟨sput o.dst r s.fr, O'⟩
    else (∀ m ∈ r.names, m ∉ ALL) ∧ Fl P ops (fun n => (rd i).contains n) o s r ∧ DS P ops rd sw eff ALL R rest news ⟨sput o.dst r s.fr, s.O⟩

section
variable {P : Program} {ops : Array Oper} {rd : Nat → List Nat} {sw : Nat → Nat → Bool} {eff : Nat → Bool} {ALL : List Nat} {R : St → Prop}

theorem DS.swap {k i : Nat} {rest : List Nat} {news : List (List Nat)} {s : St} (h : DS P ops rd sw eff ALL R (k :: i :: rest) news s) (hi : indepB ops eff k i = true) (hs : sw k i = true) (hs2 : sw i k = true) : DS P ops rd sw eff ALL R (i :: k :: rest) news s := by
  obtain ⟨ok, rk, hok, h⟩ := h
  unfold indepB at hi
  simp only [hok] at hi
  cases hoi : ops[i]? with
  | none => simp [hoi] at hi
  | some oi =>
    simp only [hoi, Bool.and_eq_true, Bool.not_eq_true', Bool.or_eq_true, bne_iff_ne, Option.isNone_iff_eq_none] at hi
    obtain ⟨⟨⟨hi1, hi2⟩, hi3⟩, hi4⟩ := hi
    cases hek : eff k with
    | false =>
      simp only [hek, Bool.false_eq_true, if_false] at h
      obtain ⟨hn, hf, oi', ri, hoi', h⟩ := h
      rw [hoi] at hoi'; cases hoi'
      have hfk : ∀ (O' : List Bk), (∀ n ∈ rd k, olook n O' = olook n s.O) → Fl P ops (fun n => (rd k).contains n) ok ⟨sput oi.dst ri s.fr, O'⟩ rk := fun O' hO' s2 ha hO =>
        hf s2 ((agree_put hi2 s.fr ri s.O O').1.trans ha) fun n hn => (hO n hn).trans (hO' n (by simpa using hn))
      cases hei : eff i with
      | false =>
        simp only [hei, Bool.false_eq_true, if_false] at h
        obtain ⟨hn2, hf2, h⟩ := h
        refine ⟨oi, ri, hoi, ?_⟩
        simp only [hei, Bool.false_eq_true, if_false]
        refine ⟨hn2, fun s2 ha hO => hf2 s2 ((agree_put hi1 s.fr rk s.O s.O).2.trans ha) hO, ok, rk, hok, ?_⟩
        simp only [hek, Bool.false_eq_true, if_false]
        refine ⟨hn, hfk s.O fun _ _ => rfl, ?_⟩
        simp only [sput_comm s.fr hi3]
        exact h
      | true =>
        simp only [hei, if_true] at h
        obtain ⟨new, news', O', rfl, hn2, hro, hf2, h⟩ := h
        refine ⟨oi, ri, hoi, ?_⟩
        simp only [hei, if_true]
        refine ⟨new, news', O', rfl, hn2, hro, fun s2 ha hO hnew => hf2 s2 ((agree_put hi1 s.fr rk s.O s.O).2.trans ha) hO hnew, ok, rk, hok, ?_⟩
        simp only [hek, Bool.false_eq_true, if_false]
        refine ⟨hn, hfk O' (hro k hs), ?_⟩
        simp only [sput_comm s.fr hi3]
        exact h
    | true =>
      simp only [hek, if_true] at h
      obtain ⟨new, news', O', rfl, hn, hro, hf, oi', ri, hoi', h⟩ := h
      rw [hoi] at hoi'; cases hoi'
      cases hei : eff i with
      | true => simp [hek, hei] at hi4
      | false =>
        simp only [hei, Bool.false_eq_true, if_false] at h
        obtain ⟨hn2, hf2, h⟩ := h
        refine ⟨oi, ri, hoi, ?_⟩
        simp only [hei, Bool.false_eq_true, if_false]
        refine ⟨hn2, fun s2 ha hO => hf2 s2 ((agree_put hi1 s.fr rk s.O O').2.trans ha) fun n hn => (hO n hn).trans (hro i hs2 n (by simpa using hn)).symm, ok, rk, hok, ?_⟩
        simp only [hek, if_true]
        refine ⟨new, news', O', rfl, hn, hro, fun s2 ha hO hnew => hf s2 ((agree_put hi2 s.fr ri s.O s.O).1.trans ha) hO hnew, ?_⟩
        simp only [sput_comm s.fr hi3]
        exact h

theorem DS.tail_mono {i : Nat} {l l' : List Nat} {news s} (hl : ∀ news s, DS P ops rd sw eff ALL R l news s → DS P ops rd sw eff ALL R l' news s) (h : DS P ops rd sw eff ALL R (i :: l) news s) : DS P ops rd sw eff ALL R (i :: l') news s := by
  obtain ⟨o, r, ho, h⟩ := h
  refine ⟨o, r, ho, ?_⟩
  split
  · rename_i he
    rw [if_pos he] at h
    obtain ⟨new, news', O', h1, h2, h3, h4, h5⟩ := h
    exact ⟨new, news', O', h1, h2, h3, h4, hl _ _ h5⟩
  · rename_i he
    rw [if_neg he] at h
    exact ⟨h.1, h.2.1, hl _ _ h.2.2⟩

theorem DS.bubble {i : Nat} {L2 : List Nat} : ∀ (L1 : List Nat) {news s}, (∀ k ∈ L1, indepB ops eff k i = true ∧ sw k i = true ∧ sw i k = true) → DS P ops rd sw eff ALL R (L1 ++ i :: L2) news s → DS P ops rd sw eff ALL R (i :: (L1 ++ L2)) news s
  | [], _, _, _, h => h
  | k :: L1, news, s, hi, h => by
    have h1 : DS P ops rd sw eff ALL R (k :: i :: (L1 ++ L2)) news s := DS.tail_mono (fun news s h => DS.bubble L1 (fun k hk => hi k (by simp [hk])) h) h
    exact h1.swap (hi k (by simp)).1 (hi k (by simp)).2.1 (hi k (by simp)).2.2
theorem draw_sound2 {Q : Exit → Act → World → Prop} {E : Env} {fuel : Nat} (hB : ∀ i, i < ops.size → (∀ e ∈ (ops[i]?.map (·.after)).getD #[], Region.binds .any e = true → e.on < i) ∧ ∀ k, k < i → (indepB ops eff k i = true ∧ sw k i = true ∧ sw i k = true) ∨ depB ops fuel i k = true) (hQ : ∀ s a w, R s → Rel E s a w → Q .normal a w) :
    ∀ (n : Nat) (listed : Array Bool) (idx : List Nat) (news : List (List Nat)) (s : St) (a : Act) (w : World), listed.size = ops.size → idx.length = n → idx.Pairwise (· < ·) → (∀ j, j ∈ idx ↔ j < ops.size ∧ listed.getD j true = false) → Down ops listed →
      (∀ m ∈ news.flatten, m ∈ ALL) → (∀ m ∈ news.flatten, m ∉ RV.namesL s.fr) → DS P ops rd sw eff ALL R idx news s → Rel E s a w → wpAny P .any ops Q n listed a w := by
  have hchk : ∀ i o, ops[i]? = some o → (∀ e ∈ o.after, Region.binds .any e = true → e.on < i) ∧ ∀ k, k < i → (indepB ops eff k i = true ∧ sw k i = true ∧ sw i k = true) ∨ depB ops fuel i k = true := by
    intro i o ho
    have hlt : i < ops.size := (Array.getElem?_eq_some_iff.1 ho).1
    have h1 := hB i hlt
    simp only [ho, Option.map_some, Option.getD_some] at h1
    exact h1
  have hnm : ∀ (fr : List RV) (d : Option Tmp) (r : RV) (m : Nat), m ∉ RV.namesL fr → m ∉ r.names → m ∉ RV.namesL (sput d r fr) := by
    intro fr d r m h1 h2
    cases d with
    | none => exact h1
    | some d =>
      simp only [sput]
      induction fr generalizing d with
      | nil => exact h1
      | cons x xs ih =>
        simp only [RV.namesL, List.mem_append, not_or] at h1
        cases d with
        | zero => simp [lset, RV.namesL, h2, h1.2]
        | succ d => simp only [lset, RV.namesL, List.mem_append, not_or]; exact ⟨h1.1, ih h1.2 d⟩
  intro n
  induction n with
  | zero =>
    intro listed idx news s a w hsz hl _ hidx _ _ _ h hr
    have : idx = [] := List.eq_nil_of_length_eq_zero hl
    subst this
    refine ⟨?_, hQ s a w h hr⟩
    rw [List.eq_nil_iff_forall_not_mem]
    intro j hj
    obtain ⟨h1, o, ho, _⟩ := mem_ready.1 hj
    have : j ∈ ([] : List Nat) := (hidx j).2 ⟨(Array.getElem?_eq_some_iff.1 ho).1, h1⟩
    cases this
  | succ n ih =>
    intro listed idx news s a w hsz hl hsort hidx hdown hall hfresh h hr
    match idx, hl with
    | i0 :: rest0, hl =>
    refine ⟨fun hempty => ?_, ?_⟩
    · exfalso
      have hi0 := (hidx i0).1 (by simp)
      have hmem : i0 ∈ Region.ready .any ops listed := by
        refine mem_ready.2 ⟨hi0.2, ops[i0]'hi0.1, Array.getElem?_eq_getElem hi0.1, fun e he hb => ?_⟩
        have hlt := (hchk i0 _ (Array.getElem?_eq_getElem hi0.1)).1 e he hb
        cases hq : listed.getD e.on true with
        | true =>
          rw [Array.getD_eq_getD_getElem?] at hq ⊢
          have : e.on < listed.size := by omega
          rw [Array.getElem?_eq_getElem this] at hq ⊢
          simpa using hq
        | false =>
          have : e.on ∈ i0 :: rest0 := (hidx e.on).2 ⟨by omega, hq⟩
          rcases List.mem_cons.1 this with h5 | h5
          · omega
          · have := List.rel_of_pairwise_cons hsort h5; omega
      rw [hempty] at hmem
      cases hmem
    · intro i hi
      obtain ⟨hun, o, ho, hready⟩ := mem_ready.1 hi
      have hlt : i < ops.size := (Array.getElem?_eq_some_iff.1 ho).1
      have hmem : i ∈ i0 :: rest0 := (hidx i).2 ⟨hlt, hun⟩
      obtain ⟨L1, L2, hL⟩ := List.append_of_mem hmem
      rw [hL] at h hsort hl hidx
      have hind : ∀ k ∈ L1, indepB ops eff k i = true ∧ sw k i = true ∧ sw i k = true := by
        intro k hk
        have hki : k < i := (List.pairwise_append.1 hsort).2.2 k hk i (by simp)
        rcases (hchk i o ho).2 k hki with h5 | h5
        · exact h5
        · exfalso
          have h6 := dep_listed hdown fuel i k o ho hready h5
          have h7 := ((hidx k).1 (by simp [hk])).2
          rw [Array.getD_eq_getD_getElem?] at h6 h7
          cases hq : listed[k]? with
          | none => simp [hq] at h6
          | some b => simp [hq] at h6 h7; rw [h6] at h7; cases h7
      obtain ⟨o', r, ho', hstep⟩ := DS.bubble L1 hind h
      rw [ho] at ho'; cases ho'
      -- the rest, behind it
      have hsort' : (L1 ++ L2).Pairwise (· < ·) := by
        rw [List.pairwise_append] at hsort ⊢
        exact ⟨hsort.1, (List.pairwise_cons.1 hsort.2.1).2, fun x hx y hy => hsort.2.2 x hx y (by simp [hy])⟩
      have hnotin : i ∉ L1 ++ L2 := by
        intro hx
        rw [List.pairwise_append] at hsort
        rcases List.mem_append.1 hx with hx | hx
        · have := hsort.2.2 i hx i (by simp); omega
        · have := (List.pairwise_cons.1 hsort.2.1).1 i hx; omega
      have hidx' : ∀ j, j ∈ L1 ++ L2 ↔ j < ops.size ∧ (listed.setIfInBounds i true).getD j true = false := by
        intro j
        by_cases hji : j = i
        · subst hji
          constructor
          · intro hx; exact absurd hx hnotin
          · rintro ⟨_, hx⟩
            rw [Array.getD_eq_getD_getElem?, Array.getElem?_setIfInBounds] at hx
            simp at hx
            split at hx <;> simp at hx
        · have h8 : (listed.setIfInBounds i true).getD j true = listed.getD j true := by
            rw [Array.getD_eq_getD_getElem?, Array.getD_eq_getD_getElem?, Array.getElem?_setIfInBounds, if_neg (fun e => hji e.symm)]
          rw [h8, ← hidx j]
          simp [hji]
      have hdown' : Down ops (listed.setIfInBounds i true) := by
        intro j oj hoj hlj e he hb
        have hset : ∀ q, listed.getD q false = true → (listed.setIfInBounds i true).getD q false = true := by
          intro q hq
          rw [Array.getD_eq_getD_getElem?] at hq ⊢
          rw [Array.getElem?_setIfInBounds]
          split
          · split <;> simp_all
          · exact hq
        by_cases hji : j = i
        · subst hji
          rw [ho] at hoj; cases hoj
          exact hset _ (hready e he hb)
        · have h8 : (listed.setIfInBounds i true).getD j true = listed.getD j true := by
            rw [Array.getD_eq_getD_getElem?, Array.getD_eq_getD_getElem?, Array.getElem?_setIfInBounds, if_neg (fun e => hji e.symm)]
          rw [h8] at hlj
          exact hset _ (hdown j oj hoj hlj e he hb)
      have hlen' : (L1 ++ L2).length = n := by simp at hl ⊢; omega
      have hsz' : (listed.setIfInBounds i true).size = ops.size := by simpa using hsz
      have fin : ∀ (s' : St) (news' : List (List Nat)), OpG P ops o s s' → (∀ m ∈ news'.flatten, m ∈ ALL) → (∀ m ∈ news'.flatten, m ∉ RV.namesL s'.fr) → DS P ops rd sw eff ALL R (L1 ++ L2) news' s' → wpOp P ops Q i (wpAny P .any ops Q n (listed.setIfInBounds i true)) a w := by
        intro s' news' hop h10 h11 h12
        have := hop E a w hr (wpAny P .any ops Q n (listed.setIfInBounds i true)) Q fun a' w' hr' => ih _ _ _ s' a' w' hsz' hlen' hsort' hidx' hdown' h10 h11 h12 hr'
        unfold wpOp
        simp only [ho]
        split
        · rename_i hw; rw [if_pos hw] at this; exact .inl this
        · rename_i hw; rw [if_neg hw] at this; exact this
      split at hstep
      · obtain ⟨new, news', O', rfl, h13, h14, h15, h16⟩ := hstep
        refine fin _ news' (h15 s ⟨fun _ _ => rfl, fun _ _ => rfl⟩ rfl fun m hm => hfresh m (by simp [hm])) (fun m hm => hall m (by simp only [List.flatten_cons, List.mem_append]; exact .inr hm)) (fun m hm => ?_) h16
        exact hnm _ _ _ m (hfresh m (by simp only [List.flatten_cons, List.mem_append]; exact .inr hm)) fun hx => h13 m hx hm
      · obtain ⟨h13, h15, h16⟩ := hstep
        refine fin _ news (h15 s ⟨fun _ _ => rfl, fun _ _ => rfl⟩ fun _ _ => rfl) hall (fun m hm => ?_) h16
        exact hnm _ _ _ m (hfresh m hm) fun hx => h13 m hx (hall m hm)

end

def swB (ms : List Nat) (k i : Nat) : Bool := if k < i then !(ms.getD i 0).testBit k else !(ms.getD k 0).testBit i
theorem sw_of {ops : Array Oper} {eff : Nat → Bool} {ms : List Nat} (hms : masks ops ops.size = ms) (h : drawOk2 ops eff ms = true) : ∀ i, i < ops.size → (∀ e ∈ (ops[i]?.map (·.after)).getD #[], Region.binds .any e = true → e.on < i) ∧ ∀ k, k < i → (indepB ops eff k i = true ∧ swB ms k i = true ∧ swB ms i k = true) ∨ depB ops (ops.size + 1) i k = true := by
  intro i hi
  have h0 := drawOk_of2 hms h
  have h1 := List.all_eq_true.1 h0 i (List.mem_range.2 hi)
  have h2 := List.all_eq_true.1 h i (List.mem_range.2 hi)
  rw [Array.getElem?_eq_getElem hi] at h1 h2 ⊢
  simp only [Option.map_some, Option.getD_some, Bool.and_eq_true, Array.all_eq_true', Bool.or_eq_true, Bool.not_eq_true', decide_eq_true_eq, List.all_eq_true, List.mem_range] at h1 h2 ⊢
  refine ⟨fun e he hb => ?_, fun k hk => ?_⟩
  · rcases h1.1 e he with h3 | h3
    · rw [hb] at h3; cases h3
    · exact h3
  · cases hb : (ms.getD i 0).testBit k with
    | true =>
      right
      have hlt : ∀ i o, ops[i]? = some o → ∀ e ∈ o.after, Region.binds .any e = true → e.on < i := by
        intro i o ho e he hb
        have hi : i < ops.size := (Array.getElem?_eq_some_iff.1 ho).1
        have h3 := List.all_eq_true.1 h i (List.mem_range.2 hi)
        simp only [ho, Option.map_some, Option.getD_some, Bool.and_eq_true, Array.all_eq_true', Bool.or_eq_true, Bool.not_eq_true', decide_eq_true_eq] at h3
        rcases h3.1 e he with h4 | h4
        · rw [hb] at h4; cases h4
        · exact h4
      rw [← hms, masks_at ops _ i hi] at hb
      exact depB_le ops (by omega) (mask_dep ops hlt _ i k hi hb)
    | false =>
      left
      refine ⟨?_, ?_, ?_⟩
      · rcases h2.2 k hk with h3 | h3
        · exact h3
        · rw [hb] at h3; cases h3
      · unfold swB; rw [if_pos hk, hb]; rfl
      · have : ¬ i < k := by omega
        unfold swB; rw [if_neg this, hb]; rfl
structure D2 (P : Program) (ops : Array Oper) (rd : Nat → List Nat) (sw : Nat → Nat → Bool) (eff : Nat → Bool) (ALL : List Nat) (news : List (List Nat)) (k : Nat) (l : List Oper) (R : St → Prop) (s : St) : Prop where
  out : (∀ j, l[j]? = ops[k + j]?) → DS P ops rd sw eff ALL R (List.range' k l.length) news s

theorem e_nil {P ops rd sw eff ALL news k R s} (h : R s) : D2 P ops rd sw eff ALL news k [] R s := ⟨fun _ => h⟩
theorem e_fl {P ops rd sw eff ALL news k o rest R fr O r fr'} (he : eff k = false := by rfl) (h : Fl P ops (fun n => (rd k).contains n) o ⟨fr, O⟩ r := by first | exact .move | exact .moveY rfl rfl rfl | exact .assign | exact .assignY rfl rfl rfl | exact .pick_t rfl | exact .pick_f rfl | exact .pick_tY rfl rfl rfl rfl | exact .pick_fY rfl rfl rfl rfl | exact .pl (fs_auto ()) | exact .ye rfl rfl rfl (fs_auto ()) | exact .no rfl rfl rfl | exact .no' rfl rfl | fail) (e : sput o.dst r fr = fr' := by simp only [nz, nf, nl, nb, nr, ng, nq, nu, reduceIte, Nat.reduceEqDiff, Nat.reduceAdd]; rfl) (hn : ∀ m ∈ r.names, m ∉ ALL := by first | (simp [nm]; done) | simp [nm, nz, nb]) (hk : D2 P ops rd sw eff ALL news (k + 1) rest R ⟨fr', O⟩) : D2 P ops rd sw eff ALL news k (o :: rest) R ⟨fr, O⟩ := by
  subst e
  refine ⟨fun hl => ?_⟩
  rw [List.length_cons, List.range'_succ]
  refine ⟨o, r, by simpa using (hl 0).symm, ?_⟩
  rw [if_neg (by rw [he]; simp)]
  exact ⟨hn, h, hk.out fun j => by have := hl (j + 1); simpa [Nat.add_assoc, Nat.add_comm 1 j] using this⟩
theorem e_ef {P ops rd sw eff ALL new news k o rest R fr O r fr' O1 O'} (he : eff k = true := by rfl) (h : Ef P ops new o ⟨fr, O⟩ r O1 := by first | exact .buildSlice (k := 1) rfl rfl rfl (by decide) (by decide) (by kernel_rfl) (by decide +kernel) rfl (by decide) (by simp [nm, nset, oerase, St.get, lget, -List.map_take, -List.map_drop]) (by simp [nm, nset, oerase, St.get, lget, -List.map_take, -List.map_drop]) | exact .buildSlice (k := 2) rfl rfl rfl (by decide) (by decide) (by kernel_rfl) (by decide +kernel) rfl (by decide) (by simp [nm, nset, oerase, St.get, lget, -List.map_take, -List.map_drop]) (by simp [nm, nset, oerase, St.get, lget, -List.map_take, -List.map_drop]) | exact .buildSlice (k := 4) rfl rfl rfl (by decide) (by decide) (by kernel_rfl) (by decide +kernel) rfl (by decide) (by simp [nm, nset, oerase, St.get, lget, -List.map_take, -List.map_drop]) (by simp [nm, nset, oerase, St.get, lget, -List.map_take, -List.map_drop]) | exact .apSeal rfl rfl rfl rfl rfl (by simp) (by simp) (by simp) (by simp [nm]) (by decide) (by decide) (by decide) (by decide) (by simp [nm, nset, oerase, St.get, lget, -List.map_take, -List.map_drop]) ⟨by kernel_rfl, by kernel_rfl, by kernel_rfl, by kernel_rfl⟩ (by simp; omega) | exact .apNew rfl rfl rfl rfl (by decide) (by simp) (by simp) (by simp) (by decide) (by simp [nm, nset, oerase, St.get, lget, -List.map_take, -List.map_drop]) ⟨by kernel_rfl, by kernel_rfl, by kernel_rfl, by kernel_rfl⟩ (by simp; omega) | exact .apNewsh rfl rfl rfl (by simp) (by first | exact wd_all fun _ => rfl | simp [RV.width]) (by decide) (by simp [nm, nset, oerase, St.get, lget, -List.map_take, -List.map_drop]) ⟨by kernel_rfl, by kernel_rfl, by kernel_rfl, by kernel_rfl⟩ (by simp; omega) | exact .no rfl rfl rfl | exact .no' rfl rfl | exact .pure fs_move | exact .pure fs_assign | exact .store rfl rfl rfl rfl (by simp [RV.cellsL]) rfl (by kernel_rfl) | exact .storea rfl rfl rfl rfl rfl rfl (by kernel_rfl) | exact .store_map rfl rfl rfl (by omega) rfl rfl (by kernel_rfl) | exact .storea_map rfl rfl rfl (by omega) rfl rfl (by kernel_rfl) | exact .pure (fs_auto ()) | fail) (e1 : sput o.dst r fr = fr' := by simp only [nz, nf, nl, nb, nr, ng, nq, nu, reduceIte, Nat.reduceEqDiff, Nat.reduceAdd]; rfl) (e2 : O1 = O' := by simp only [nz, nf, nl, nr, ng, nq, nu, reduceIte, Nat.reduceEqDiff] <;> rfl) (hn : ∀ m ∈ r.names, m ∉ news.flatten := by first | (simp [nm]; done) | simp [nm, nz, nb]) (hro : ∀ q, sw q k = true → ∀ n ∈ rd q, olook n O' = olook n O := by repeat' first | exact ro_nilP | refine ro_consP (by first | exact fun _ => rfl | exact fun h => absurd h (by decide +kernel) | exact fun _ => (by simp [olook])) ?_) (hk : D2 P ops rd sw eff ALL news (k + 1) rest R ⟨fr', O'⟩) : D2 P ops rd sw eff ALL (new :: news) k (o :: rest) R ⟨fr, O⟩ := by
  subst e1; subst e2
  refine ⟨fun hl => ?_⟩
  rw [List.length_cons, List.range'_succ]
  refine ⟨o, r, by simpa using (hl 0).symm, ?_⟩
  rw [if_pos he]
  exact ⟨new, news, O1, rfl, hn, hro, h, hk.out fun j => by have := hl (j + 1); simpa [Nat.add_assoc, Nat.add_comm 1 j] using this⟩

theorem w_drawS {P id l R fr O} (rd : Nat → List Nat) (eff : Nat → Bool) (news : List (List Nat)) (hm : P.follows .mixedOrders = true) {ms : List Nat} (hms : masks l.toArray l.toArray.size = ms) (hB : drawOk2 l.toArray eff ms = true) (hf : ∀ m ∈ news.flatten, m ∉ RV.namesL fr) (h : D2 P l.toArray rd (swB ms) eff news.flatten news 0 l (R .normal) ⟨fr, O⟩) : W P (.region id l.toArray true) R ⟨fr, O⟩ := by
  refine ⟨fun E a w hr => ?_⟩
  refine wp_region_any hm ?_
  have hd := h.out (by simp)
  refine draw_sound2 (rd := rd) (sw := swB ms) (fuel := l.toArray.size + 1) (eff := eff) (ALL := news.flatten) (R := R .normal) (E := E) (sw_of hms hB) (fun s' a' w' h1 h2 => ⟨s', h1, h2⟩) _ _ (List.range' 0 l.length) news ⟨fr, O⟩ a _ (by simp) (by simp) List.pairwise_lt_range' ?_ ?_ (fun _ h => h) hf hd hr.drew
  · intro j
    simp only [List.mem_range'_1, Nat.zero_le, true_and, Nat.zero_add, List.size_toArray]
    constructor
    · intro hj; refine ⟨hj, ?_⟩; simp [Array.getD_eq_getD_getElem?, hj]
    · exact fun h => h.1
  · intro j o ho hj
    have hlt : j < l.toArray.size := (Array.getElem?_eq_some_iff.1 ho).1
    simp only [List.size_toArray] at hlt
    simp [Array.getD_eq_getD_getElem?, hlt] at hj
def rdP (t : List (Nat × Nat)) (q : Nat) : List Nat := t.filterMap fun p => if p.1 = q then some p.2 else none
theorem ro_nilP {sw : Nat → Nat → Bool} {k : Nat} {O O' : List Bk} : ∀ q, sw q k = true → ∀ n ∈ rdP [] q, olook n O' = olook n O := fun _ _ _ h => nomatch h
theorem ro_consP {sw : Nat → Nat → Bool} {k a m : Nat} {t : List (Nat × Nat)} {O O' : List Bk} (h1 : sw a k = true → olook m O' = olook m O) (h : ∀ q, sw q k = true → ∀ n ∈ rdP t q, olook n O' = olook n O) : ∀ q, sw q k = true → ∀ n ∈ rdP ((a, m) :: t) q, olook n O' = olook n O := by
  intro q hq n hn
  unfold rdP at hn
  rw [List.filterMap_cons] at hn
  split at hn
  · exact h q hq n hn
  · rename_i b hb
    split at hb
    · rename_i e
      simp only [Option.some.injEq] at hb
      rcases List.mem_cons.1 hn with hn | hn
      · rw [hn, ← hb]; exact h1 (by have e2 : a = q := e; rw [e2]; exact hq)
      · exact h q hq n hn
    · cases hb
theorem e_o {P : Program} {ops : Array Oper} {rd : Nat → List Nat} {sw : Nat → Nat → Bool} {eff : Nat → Bool} {ALL : List Nat} {news : List (List Nat)} {k : Nat} {o : Oper} {rest : List Oper} {R : St → Prop} {s : St} (h : D2 P ops rd sw eff ALL news k (o :: rest) R s) : D2 P ops rd sw eff ALL news k (o :: rest) R s := h
theorem seal_shuf {O : List Bk} (n i j m : Nat) {k k2 len : Nat} {els els2 : List RV} {e : RV} (ho : olook n O = some (k, els)) (he : els[i]? = some e) (hj : e.cellsL[j]? = some (.ref m 0 len)) (hm : olook m O = some (k2, els2)) (hlen : len = els2.length) (hn : RV.namesL els2 = []) (hne : n ≠ m) :
    Shuf O (oerase m (oset n (els.set i (e.setCell j (.ow k2 els2))) O)) := by
  subst hlen
  intro w F ρ fp hO0
  obtain ⟨fp', hO, hp⟩ := hO0.pull ho
  have hlt : i < els.length := (List.getElem?_eq_some_iff.1 he).1
  have hm' : olook m (oerase n O) = some (k2, els2) := by rw [olook_oerase (Ne.symm hne)]; exact hm
  have key : ∃ fpn, OL w F ρ ((n, k, els.set i (e.setCell j (.ow k2 els2))) :: oerase m (oerase n O)) fpn ∧ fpn.Perm fp' := by
    cases hO with
    | nilb _ _ _ => simp at hlt
    | map _ hb _ => obtain ⟨_, e0⟩ := hb.cell he hj; cases e0
    | @cons _ b _ _ ty c cells _ fp1 fp2 hk hρ hρb hb hs hl hmx hc hE hO2 =>
      obtain ⟨c1, ce, c2, f1, fe, f2, hcs, hc1, hce, rfl, hE1, hE2, hE3⟩ := hE.at he
      -- the block goes into the cell
      have h1 := hE2.cellsL
      obtain ⟨d1, d, d2, g1, gd, g2, hds, hd1, hd, hgs, h2, h4, h3⟩ := h1.at hj
      match d, hd with
      | [y], _ =>
        have := h4.plain_fp rfl
        subst this
        obtain ⟨q1, q2, hq1, hq2, hq3⟩ := SealL.cells (.own hm' hn .nil) h4 (by simp [RV.isAgg]) hO2
        obtain ⟨fe', hfe, hperm⟩ := hE2.setCell2 (r := .ow k2 els2) (fr := q1) hj rfl (fun y' hy' => by
          have e1 : y' = y := by
            rcases hy'.single rfl with ⟨h, _⟩ | ⟨_, _, _, _, _, _, _, e, _⟩ | ⟨_, _, _, e, rfl, _⟩ | ⟨_, _, _, e, _⟩ | ⟨_, e, _⟩
            · cases h
            · cases e
            · rcases h4.single rfl with ⟨h, _⟩ | ⟨_, _, _, _, _, _, _, e', _⟩ | ⟨_, _, _, e', rfl, _⟩ | ⟨_, _, _, e', _⟩ | ⟨_, e', _⟩
              · cases h
              · cases e'
              · cases e; cases e'; rfl
              · cases e'
              · cases e'
            · cases e
            · cases e
          rw [e1]; exact hq1)
        have hset : els.set i (e.setCell j (.ow k2 els2)) = els.take i ++ ([e.setCell j (.ow k2 els2)] ++ els.drop (i + 1)) := by
          rw [List.set_eq_take_append_cons_drop, if_pos hlt]; rfl
        have hEn : OE w F ρ k (els.set i (e.setCell j (.ow k2 els2))) cells (f1 ++ (fe' ++ f2)) := by
          rw [hset, hcs]; exact hE1.append (hfe.append hE3)
        refine ⟨_, .cons hk hρ hρb hb hs (by simpa using hl) hmx (by simpa using hc) hEn hq2, ?_⟩
        refine List.Perm.cons _ ?_
        have p1 : (f1 ++ (fe' ++ f2)).Perm (q1 ++ (f1 ++ (fe ++ f2))) := by
          refine ((List.Perm.refl f1).append (hperm.append (List.Perm.refl f2))).trans ?_
          simp only [List.append_assoc]
          exact List.perm_append_comm_assoc _ _ _
        have p2 : (f1 ++ (fe' ++ f2) ++ q2).Perm ((f1 ++ (fe ++ f2)) ++ (q1 ++ q2)) := by
          refine (p1.append (List.Perm.refl q2)).trans ?_
          simp only [List.append_assoc]
          have := List.perm_append_comm_assoc q1 (f1 ++ (fe ++ f2)) q2
          simpa only [List.append_assoc] using this
        exact p2.trans ((List.Perm.refl _).append hq3)
  obtain ⟨fpn, hOn, hpn⟩ := key
  have hcom : oerase n (oerase m (oset n (els.set i (e.setCell j (.ow k2 els2))) O)) = oerase m (oerase n O) := by
    rw [oerase_comm, oerase_oset]
  have hlook : olook n (oerase m (oset n (els.set i (e.setCell j (.ow k2 els2))) O)) = some (k, els.set i (e.setCell j (.ow k2 els2))) := by
    rw [olook_oerase hne]; exact olook_oset ho
  rw [← hcom] at hOn
  obtain ⟨fpz, hOz, hpz⟩ := hOn.push hlook
  have hperm : fpz.Perm fp := hpz.symm.trans (hpn.trans hp.symm)
  exact ⟨fpz, hOz, hperm.symm⟩
theorem le_kill {fr fr' : List RV} {O : List Bk} (n : Nat) (e : RV.killL n fr = fr') : LE ⟨fr, O⟩ ⟨fr', O⟩ := by
  subst e
  refine ⟨?_⟩
  rintro E a w ⟨F, ρ, fp, h⟩
  exact ⟨F, ρ, fp, h.killLs [n]⟩
section
variable {P : Program} {ops : Array Oper} {s : St} {d : Tmp} {ty : TypeId} {pos : String} {after : Array Edge}
theorem Ef.apSeal {x y t n m q z k3 els els3 len len0 len1} (hx : s.get x = .ref n 0 len0) (hy : s.get y = .ref q 0 len1) (ho : olook n s.O = some (1, els)) (ho2 : olook q s.O = some (1, [.ref z 0 len])) (ho3 : olook z s.O = some (k3, els3)) (hl0 : len0 = els.length) (hl1 : len1 = 1) (hlen3 : len = els3.length) (hn3 : RV.namesL els3 = [])
    (hne : n ≠ q) (hnz : n ≠ z) (hqz : q ≠ z) (hm : m < 1000000000000) (hm2 : m ∉ onames s.O) (ha : appOk P t 1) (hlen : els.length + 1 ≤ 1099511627776) :
    Ef P ops [m] ⟨some d, .call ⟨.builtin .append, #[x, y], #[t, t]⟩, ty, pos, after, none⟩ s (.ref m 0 (els ++ [RV.ow k3 els3]).length) ((m, 1, els ++ [.ow k3 els3]) :: oerase z (oerase n (oerase q s.O))) := by
  subst hl0; subst hl1
  have h := Ef.appendNew (P := P) (ops := ops) (d := d) (ty := ty) (pos := pos) (after := after) (els2 := [.ref z 0 len]) m hx hy ho ho2 hne (by simp) hm hm2 ha.1 ha.2.1 ha.2.2.1 ha.2.2.2 hlen
  have hmz : m ≠ z := fun e => hm2 (onames_olook ho3 (.inl e))
  have hS := seal_shuf (O := (m, 1, els ++ [RV.ref z 0 len]) :: oerase n (oerase q s.O)) m els.length 0 z (k := 1) (els := els ++ [RV.ref z 0 len]) (e := RV.ref z 0 len) (len := len) (by simp [olook]) (by simp) rfl (by
    simp only [olook]; rw [if_neg hmz, olook_oerase (Ne.symm hnz), olook_oerase (Ne.symm hqz)]; exact ho3) hlen3 hn3 hmz
  have e1 : oerase z (oset m ((els ++ [RV.ref z 0 len]).set els.length ((RV.ref z 0 len).setCell 0 (.ow k3 els3))) ((m, 1, els ++ [RV.ref z 0 len]) :: oerase n (oerase q s.O))) = (m, 1, els ++ [RV.ow k3 els3]) :: oerase z (oerase n (oerase q s.O)) := by
    have : (els ++ [RV.ref z 0 len]).set els.length ((RV.ref z 0 len).setCell 0 (.ow k3 els3)) = els ++ [RV.ow k3 els3] := by
      rw [List.set_append_right _ _ (Nat.le_refl _)]; simp [RV.setCell]
    rw [this]
    simp only [oset, if_true, oerase]
    rw [if_neg hmz]
  rw [e1] at hS
  have e2 : (els ++ [RV.ow k3 els3]).length = els.length + 1 := by simp
  rw [e2]
  intro s2 ha2 hO hn
  have h2 := h s2 ha2 hO hn
  intro E a w hr K Q hK
  exact h2 E a w hr K Q fun a' w' hr' => hK a' w' (hS.le E a' w' hr')
end
theorem nu : (∀ (σ : Nat → Nat) (l : List (List UInt8 × List UInt8)), RV.renL σ (l.map RRw) = l.map RRw) ∧ (∀ (σ : Nat → Nat) (l : List Int), RV.renL σ (l.map RVi) = l.map RVi) ∧ (∀ (σ : Nat → Nat) (l : List (List Int)), RV.renL σ (l.map RIs) = l.map RIs) ∧ (∀ (σ : Nat → Nat) (l : List (List Int)), RV.renL σ (l.map OIs) = l.map OIs) ∧ (∀ (σ : Nat → Nat) (l : List Nat), RV.renL σ (l.map RVn) = l.map RVn) ∧ (∀ (σ : Nat → Nat) (l : List (List Nat)), RV.renL σ (l.map RNs) = l.map RNs) ∧
    (∀ (σ : Nat → Nat) (l : List (List Nat)), RV.renL σ (l.map ONs) = l.map ONs) ∧ (∀ (σ : Nat → Nat) (l : List Bool), RV.renL σ (l.map RVb) = l.map RVb) ∧ (∀ (σ : Nat → Nat) (l : List UInt8), RV.renL σ (l.map RVy) = l.map RVy) ∧ (∀ (σ : Nat → Nat) (l : List (List UInt8)), RV.renL σ (l.map RV.str) = l.map RV.str) ∧ (∀ (σ : Nat → Nat) (l : List (Int × Int)), RV.renL σ (l.map RR) = l.map RR) ∧ (∀ (σ : Nat → Nat) (l : List (List Nat × List Nat)), RV.renL σ (l.map RNd) = l.map RNd) ∧ (∀ (σ : Nat → Nat) (l : List (List Nat × List Nat)), RV.renL σ (l.map ONd) = l.map ONd) ∧ (∀ (σ : Nat → Nat) (l : List (List Int × List Int)), RV.renL σ (l.map RNdI) = l.map RNdI) ∧ (∀ (σ : Nat → Nat) (l : List (List Int × List Int)), RV.renL σ (l.map ONdI) = l.map ONdI) := by
  refine ⟨?_, ?_, ?_, ?_, ?_, ?_, ?_, ?_, ?_, ?_, ?_, ?_, ?_, ?_, ?_⟩ <;> intro σ l <;> exact renL_map0 σ _ l fun x => by simp [RV.ren, RV.renL]
section
variable {P : Program} {s : St} {d : Option Tmp} {ty : TypeId} {pos : String} {after : Array Edge} {g : Option (Nat × Bool)}
theorem ops_rcuth {x hi t n len k2 kk els} {h : Nat} (hx : s.get x = .ref n 0 len) (hh : s.get hi = .v (.int k2 (h : Nat))) (ho : olook n s.O = some (kk, els)) (h2 : h ≤ els.length) (hne : els ≠ []) (ht : P.underlying t = some (.slice (P.elem t))) (hw : P.cellsOf (P.elem t) = kk) :
    OpS P ⟨d, .slice t x none (some hi) none, ty, pos, after, g⟩ s ⟨sput d (.ref n 0 h) s.fr, s.O⟩ :=
  ops_val fun _ a w F ρ _ hr => by
    have h1 := (show SV w F ρ (.ref n 0 len) (a.eval x) [] from hx ▸ hr.get x).ref_inv
    obtain ⟨fp', hr'⟩ := hr.front ho
    obtain ⟨b, tb, c, fp1, fp2, hk, hρ, hρb, hb, hs, hl, hm, _⟩ := hr'.O.head hne (show SV w F ρ (.ref n 0 len) (a.eval x) [] from hx ▸ hr.get x).ref_pos
    simp only [hρb, Option.map_some, hρ] at h1
    have hsv := SV.ref_mk (w := w) (F := F) (ρ := ρ) (n := n) (k := kk) (cap := (ρ n).2.2) (b := b) (by rw [← hρb, ← hρ]) 0 h
    refine ⟨_, ?_, hsv⟩
    have h4 : h ≤ (ρ n).2.2 := by omega
    simp [execOp, h1, hr.ex hh, Instr.sliceAt, Instr.slice, Instr.sliceBounds, run_underlying ht, run_bound h4, run_size hw hk]
    simp [Addr.add]
end
theorem nset {m i : Nat} {e : RV} : ∀ {l : List RV}, ¬ m ∈ RV.namesL l → ¬ m ∈ e.names → ¬ m ∈ RV.namesL (l.set i e) := by
  intro l
  induction l generalizing i with
  | nil => intro h _; simpa using h
  | cons x xs ih =>
    intro h1 h2
    simp only [RV.namesL, List.mem_append, not_or] at h1
    cases i with
    | zero => simp only [List.set_cons_zero, RV.namesL, List.mem_append, not_or]; exact ⟨h2, h1.2⟩
    | succ i => simp only [List.set_cons_succ, RV.namesL, List.mem_append, not_or]; exact ⟨h1.1, ih h1.2 h2⟩
section
variable {P : Program} {RO : Nat → Bool} {s s' : St} {r : RV} {d : Option Tmp} {ty : TypeId} {pos : String} {after : Array Edge} {g : Option (Nat × Bool)}
theorem k_bin {b t x y u} (h : OpS P ⟨d, .binOp b t x y u, ty, pos, after, g⟩ s s') : OpS P ⟨d, .binOp b t x y u, ty, pos, after, g⟩ s s' := h
theorem q_bin {b t x y u} (h : Fs P RO ⟨d, .binOp b t x y u, ty, pos, after, g⟩ s r) : Fs P RO ⟨d, .binOp b t x y u, ty, pos, after, g⟩ s r := h
theorem k_bui {b x y} (h : OpS P ⟨d, .call ⟨.builtin b, x, y⟩, ty, pos, after, g⟩ s s') : OpS P ⟨d, .call ⟨.builtin b, x, y⟩, ty, pos, after, g⟩ s s' := h
theorem q_bui {b x y} (h : Fs P RO ⟨d, .call ⟨.builtin b, x, y⟩, ty, pos, after, g⟩ s r) : Fs P RO ⟨d, .call ⟨.builtin b, x, y⟩, ty, pos, after, g⟩ s r := h
theorem fs_auto {o : Oper} (_ : Unit) (h : Fs P RO o s r := by first | (apply q_load; first | exact fs_load_psh rfl rfl (by decide +kernel) | exact fs_load_psha rfl (by decide +kernel) (by kernel_rfl) (by simp) | exact fs_load_map rfl rfl rfl (by omega) rfl (by decide +kernel) | exact fs_load_mapa rfl rfl rfl (by omega) rfl (by decide +kernel) (by kernel_rfl) | exact fs_load_mapj rfl rfl rfl (by omega) rfl rfl (by decide +kernel) | exact fs_load_ptr rfl rfl rfl rfl rfl rfl (by decide +kernel) | exact fs_load_ptra rfl rfl rfl rfl rfl (by decide +kernel) (by kernel_rfl) | fail) | (apply q_fieldAddr; first | exact fs_fld_psh (off := 0) rfl (by decide +kernel) rfl | exact fs_fld_psh (off := 1) rfl (by decide +kernel) rfl | exact fs_fld_psh (off := 2) rfl (by decide +kernel) rfl | exact fs_fld_psh (off := 3) rfl (by decide +kernel) rfl | exact fs_fld_ptr (off := 0) rfl (by decide +kernel) rfl rfl (by first | (simp; done) | (simp; omega) | fail) | exact fs_fld_ptr (off := 1) rfl (by decide +kernel) rfl rfl (by first | (simp; done) | (simp; omega) | fail) | exact fs_fld_ptr (off := 2) rfl (by decide +kernel) rfl rfl (by first | (simp; done) | (simp; omega) | fail) | exact fs_fld_ptr (off := 3) rfl (by decide +kernel) rfl rfl (by first | (simp; done) | (simp; omega) | fail) | exact fs_fld_map (off := 0) rfl (by decide +kernel) rfl rfl (by omega) | exact fs_fld_map (off := 1) rfl (by decide +kernel) rfl rfl (by omega) | exact fs_fld_map (off := 2) rfl (by decide +kernel) rfl rfl (by omega) | exact fs_fld_map (off := 3) rfl (by decide +kernel) rfl rfl (by omega) | fail) | (apply q_indexAddr; first | exact fs_idx_map rfl rfl (by omega) (by kernel_rfl) (by kernel_rfl) | exact fs_idx_refm rfl rfl (by omega) rfl rfl (by omega) (by kernel_rfl) (by kernel_rfl) | exact fs_idx_mapI rfl rfl (by omega) (by omega) (by kernel_rfl) (by kernel_rfl) | exact fs_idx_refmI rfl rfl (by omega) (by omega) rfl rfl (by omega) (by kernel_rfl) (by kernel_rfl) | exact fs_idx_ref rfl rfl (by omega) rfl rfl (by simp) (by kernel_rfl) (by kernel_rfl) | fail) | (apply q_pick; first | exact fs_pick_b rfl rfl rfl | exact fs_pick_i rfl rfl rfl | fail) | (apply q_not; first | exact fs_not rfl | fail) | (apply q_bin; first | (apply q_add; first | exact fs_inc rfl (by omega) | exact fs_add rfl rfl (by omega) (by omega) | exact fs_cat rfl rfl (by omega) | fail) | (apply q_sub; first | exact fs_sub rfl rfl (by omega) (by omega) | fail) | (apply q_lss; first | exact fs_lss rfl rfl | exact fs_lts rfl rfl | fail) | (apply q_leq; first | exact fs_leq rfl rfl | fail) | (apply q_gtr; first | exact fs_gtr rfl rfl | fail) | (apply q_geq; first | exact fs_geq rfl rfl | exact fs_ges rfl rfl | fail) | (apply q_eql; first | exact fs_eqi rfl rfl | exact fs_eqs rfl rfl | exact fs_eqb rfl rfl (by kernel_rfl) | fail) | (apply q_neq; first | exact fs_nei rfl rfl | exact fs_nes rfl rfl | exact fs_neb rfl rfl (by kernel_rfl) | fail) | (apply q_quo; first | exact fs_quon rfl rfl (by omega) (by omega) | exact fs_quo rfl rfl (by omega) (by omega) (by omega) | fail) | (apply q_rem; first | exact fs_remn rfl rfl (by omega) | exact fs_rem rfl rfl (by omega) | fail) | (apply q_and; first | exact fs_andn rfl rfl (by omega) (by omega) | fail) | (apply q_or; first | exact fs_orn rfl rfl (by omega) (by omega) | fail) | (apply q_xor; first | exact fs_xorn rfl rfl (by omega) (by omega) | fail) | fail) | (apply q_bui; first | (apply q_len; first | exact fs_len_sh rfl (by kernel_rfl) | exact fs_len_ref rfl (by kernel_rfl) | exact fs_len_nil rfl (by kernel_rfl) | exact fs_lens rfl (by kernel_rfl) | fail) | (apply q_max; first | exact fs_max rfl rfl | fail) | (apply q_min; first | exact fs_min rfl rfl | fail) | fail) | (apply q_extract; first | exact fs_extract rfl rfl | fail) | (apply q_nilCheck; first | exact fs_nilCheck rfl rfl rfl (by simp) | fail) | (apply q_index; first | exact fs_byte rfl rfl (List.getElem?_eq_getElem (by omega)) (by kernel_rfl) | fail) | (apply q_convert; first | exact fs_convb rfl (by kernel_rfl) (by kernel_rfl) | exact fs_conv64 rfl (by kernel_rfl) (by kernel_rfl) (by omega) (by omega) | exact fs_conv8 rfl (by kernel_rfl) (by kernel_rfl) (by omega) | fail) | (apply q_field; first | exact fs_field (off := 0) rfl rfl rfl (by decide +kernel) | exact fs_field (off := 1) rfl rfl rfl (by decide +kernel) | exact fs_field (off := 2) rfl rfl rfl (by decide +kernel) | exact fs_field (off := 3) rfl rfl rfl (by decide +kernel) | fail) | (apply q_build; first | exact fs_build (zs := [_, _]) rfl (by kernel_rfl) rfl rfl rfl | exact fs_build (zs := [_]) rfl (by kernel_rfl) rfl rfl rfl | exact fs_build (zs := [_, _, _]) rfl (by kernel_rfl) rfl rfl rfl | exact fs_build (zs := [_, _, _, _]) rfl (by kernel_rfl) rfl rfl rfl | fail) | (apply q_slice; first | exact fs_scut rfl rfl rfl (by omega) (by omega) (by kernel_rfl) | exact fs_scutl rfl rfl (by omega) (by kernel_rfl) | exact fs_scuth rfl rfl (by omega) (by kernel_rfl) | exact fs_cutm rfl rfl rfl (by omega) (by omega) (by kernel_rfl) (by kernel_rfl) (by decide) (fun _ => rfl) | exact fs_cutlm rfl rfl (by omega) (by kernel_rfl) (by kernel_rfl) (by decide) (fun _ => rfl) | exact fs_cuthm rfl rfl (by omega) (by kernel_rfl) (by kernel_rfl) (by decide) (fun _ => rfl) | exact fs_cut rfl rfl rfl (by simp; omega) (by simp; omega) (by kernel_rfl) (by kernel_rfl) (by decide) (wd_map fun _ => rfl) | exact fs_cutl rfl rfl (by simp; omega) (by kernel_rfl) (by kernel_rfl) (by decide) (wd_map fun _ => rfl) | exact fs_cuth rfl rfl (by simp; omega) (by kernel_rfl) (by kernel_rfl) (by decide) (wd_map fun _ => rfl) | fail) | (apply q_neg; first | exact fs_neg rfl (by omega) (by omega) | fail) | (apply q_buildSlice; first | exact fs_buildSlice (k := 1) rfl rfl rfl (by decide) (by decide) (by kernel_rfl) (by decide +kernel) rfl (by first | rfl | (simp only [nf, nr, nz]; rfl)) | exact fs_buildSlice (k := 2) rfl rfl rfl (by decide) (by decide) (by kernel_rfl) (by decide +kernel) rfl (by first | rfl | (simp only [nf, nr, nz]; rfl)) | fail) | fail) : Fs P RO o s r := h
end
end Eng
end Go.Proofs.YtmfbcipjknjicaaGreatDoor
