/- Rules of the engine: methods bound to a struct, and calls of them. No condition. -/
import Derived.Test.YtmfbcipjknjicaaCallX
import Derived.Test.YtmfbcipjknjicaaEf
namespace Go.Proofs.Ytmfbcipjknjicaa
set_option linter.unusedSimpArgs false
set_option linter.unusedVariables false
set_option maxHeartbeats 0
set_option maxRecDepth 100000
namespace Eng
open Go.RowKit
section
variable {P : Program} {s : St} {d : Tmp} {ty : TypeId} {pos : String} {after : Array Edge} {g : Option (Nat × Bool)}
/-- A method is bound to a struct. -/
theorem ops_bind {f : Fn} {x : Operand} {l : List RV} (hl : s.get x = .agg l := by rfl) : OpS P ⟨some d, .makeFunc f #[x] #[], ty, pos, after, g⟩ s ⟨lset s.fr d (.fn (.b f) l), s.O⟩ := by
  refine ops_of fun E a w F ρ fp h => ?_
  have h1 := h.get x
  rw [hl] at h1
  cases h1 with
  | one h1 =>
    generalize hy : a.eval x = y at h1
    cases h1 with
    | cell ha => simp [RV.isAgg] at ha
    | @agg _ c _ h1 =>
      refine ⟨mkF (.b f) c.toList, w, ?_, F, ρ, fp, h.put (some d) (.one (.fn h1))⟩
      simp [execOp, Instr.makeFunc, mkF, hy]
/-- A bound method is called: the struct goes ahead of the arguments. -/
theorem ops_callB {t : Tmp} {f args ats argsR r caps} (ns ks : List Nat) {M R : List Bk} (Oout Oz : List Bk) (hfn : lget s.fr t = .fn (.b (.func f)) caps := by rfl) (hp : pulls ns s.O = some (M, R) := by rfl) (hargs : RV.renL (pinσ M) (.agg caps :: args.toList.map s.get) = argsR := by first | rfl | (simp [St.get, lget, ng, pinσ, mpos, nm, vw, renO, unpin, onames, renL_id, killLs, nz, oerase, bnames, openR, open1, openC, nb, -List.map_take, -List.map_drop]; fail_if_success show _)) (hnt : (args.toList.map s.get).all RV.notTup = true := by rfl)
    (hna : (RV.namesL (.agg caps :: args.toList.map s.get)).all (fun n => (mpos n M).isSome) = true := by simp [St.get, lget, ng, pinσ, mpos, nm, vw, renO, unpin, onames, renL_id, killLs, nz, oerase, bnames, openR, open1, openC, nb, -List.map_take, -List.map_drop]) (hnM : M.all (fun b => (RV.namesL b.2.2).all fun n => (mpos n M).isSome) = true := by simp [St.get, lget, ng, pinσ, mpos, nm, vw, renO, unpin, onames, renL_id, killLs, nz, oerase, bnames, openR, open1, openC, nb, -List.map_take, -List.map_drop]) (hc : callable P f = true := by kernel_rfl) {Min : List Bk} (hOz : renO (unpin M) Oout = Oz := by first | rfl | (simp [renO, unpin]; done)) (hMin : renO (pinσ M) M = Min := by first | rfl | (simp [St.get, lget, ng, pinσ, mpos, nm, vw, renO, unpin, onames, renL_id, killLs, nz, oerase, bnames, openR, open1, openC, nb, -List.map_take, -List.map_drop]; fail_if_success show _))
    (hfc : FC P f argsR Min fun rv O => rv = r ∧ O = Oout) (hnO : (onames Oout).all (fun n => decide (1000000000000 ≤ n) && decide (n - 1000000000000 < M.length)) = true := by simp [St.get, lget, ng, pinσ, mpos, nm, vw, renO, unpin, onames, renL_id, killLs, nz, oerase, bnames, openR, open1, openC, nb, -List.map_take, -List.map_drop])
    (hr : r.resOkT = true := by simp [RV.resOkT, RV.resOk, RV.isAgg, nm]) (hnb : (bnames (openR d r).2).Nodup := by simp [St.get, lget, ng, pinσ, mpos, nm, vw, renO, unpin, onames, renL_id, killLs, nz, oerase, bnames, openR, open1, openC, nb, -List.map_take, -List.map_drop]) (hf : ∀ m ∈ bnames (openR d r).2, m < 1000000000000 ∧ m ∉ RV.namesL (killLs ks s.fr) ∧ m ∉ onames (renO (unpin M) Oout ++ R) := by simp [St.get, lget, ng, pinσ, mpos, nm, vw, renO, unpin, onames, renL_id, killLs, nz, oerase, bnames, openR, open1, openC, nb, -List.map_take, -List.map_drop]) :
    OpS P ⟨some d, .call ⟨.value (.tmp t), args, ats⟩, ty, pos, after, g⟩ s ⟨lset (killLs ks s.fr) d (openR d r).1, (openR d r).2 ++ (Oz ++ R)⟩ := by
  subst hMin; subst hOz
  refine callG_core (extra := .agg caps :: args.toList.map s.get) (argsL := []) ns ks rfl (fun E a w F ρ fp h => ?_) hp hargs rfl (List.all_eq_true.1 hna) (fun b hb => List.all_eq_true.1 (List.all_eq_true.1 hnM b hb)) hfc (fun n hn => by have := List.all_eq_true.1 hnO n hn; simpa using this) hr hnb hf
  have h1 := h.get (.tmp t)
  have e : s.get (.tmp t) = .fn (.b (.func f)) caps := hfn
  rw [e] at h1
  obtain ⟨c, hy, hcs⟩ := h1.fn_inv
  refine ⟨.agg c.toArray :: args.toList.map a.eval, SL.cons (fp1 := []) (.agg (by simpa using hcs)) (h.args args.toList hnt), ?_⟩
  unfold callable at hc
  split at hc
  · rename_i fn hfn2
    simp only [Bool.and_eq_true, bne_iff_ne] at hc
    obtain ⟨bd, hb⟩ := Option.isSome_iff_exists.1 hc.1
    simp [execOp, resolve, hy, mkF, Deferred.ofValue, invoke, callFunc, hfn2, hc.2, hb]
  · cases hc
end
end Eng
end Go.Proofs.Ytmfbcipjknjicaa
/- Calls whose result is a pointer to a new block, with others that it leads to. No condition. -/
namespace Go.Proofs.Ytmfbcipjknjicaa
open Eng
set_option linter.unusedSimpArgs false
set_option linter.unusedVariables false
set_option maxHeartbeats 0
set_option maxRecDepth 100000
namespace Eng
open Go.RowKit
section
variable {P : Program} {s : St} {d : Tmp} {ty : TypeId} {pos : String} {after : Array Edge} {g : Option (Nat × Bool)}
theorem ops_callN (δ : Nat) {f args ats argsR} {n i j : Nat} {Onew : List Bk}
    (hfc : FC P f argsR [] fun rv O' => rv = .ptr n i j ∧ O' = Onew)
    (hargs : args.toList.map s.get = argsR) (hnt : (args.toList.map s.get).all RV.notTup = true) (hc : callable P f = true)
    (hm : ∀ q ∈ n :: onames Onew, q + δ < 1000000000000 ∧ q + δ ∉ RV.namesL s.fr ∧ q + δ ∉ onames s.O) :
    OpS P ⟨some d, .call ⟨.value (.func f), args, ats⟩, ty, pos, after, none⟩ s ⟨lset s.fr d (.ptr (n + δ) i j), renO (· + δ) Onew ++ s.O⟩ := by
  rintro E a w ⟨F, ρ, fp, h⟩ K Q hK
  have hA : SL w F ρ argsR (args.toList.map a.eval) [] := hargs ▸ h.args args.toList hnt
  simp only [Oper.wp, run_call (a := a) (w := w) (o := ⟨some d, .call ⟨.value (.func f), args, ats⟩, ty, pos, after, none⟩) rfl hc, Oper.upon_enter]
  have hgk := h.O.gok
  have hcall := hfc w F ρ (args.toList.map a.eval) [] hA (.nil hgk) (by simp) (by simp) h.Fs
  rw [show (args.map a.eval) = (args.toList.map a.eval).toArray from Array.ext' (by rw [Array.toList_map])]
  refine hcall.mono ?_
  rintro e w' ⟨v, rv, Oout', F', ρ', fp1, fp2, rfl, ⟨rfl, rfl⟩, hsv, hO2, hnd, hfpX, hF, hF', hb, hsz, h1, h2, h3, hpin⟩
  have hnd1 := List.nodup_append.1 hnd
  have hb2 : ∀ b, b < w.heap.size → w'.heap[b]? = w.heap[b]? := fun b hlt => hb b hlt (by simp)
  have hF2 : ∀ b, F' b → (F b ∨ w.heap.size ≤ b) ∧ b < w'.heap.size := fun b hx => by
    have := hF' b hx
    simpa using this
  have hw := h.world hF hF2 hb2 hsz h1 h2 h3
  have hnew : ∀ b, b ∈ fp1 ∨ b ∈ fp2 → ¬ F' b ∧ w.heap.size ≤ b := fun b hx => by
    have := hfpX b (by simpa using hx)
    simpa using this
  let ρ2 : Places := fun q => if q ∈ (n :: onames Oout').map (· + δ) then ρ' (q - δ) else ρ q
  have hne : ∀ q, q ∉ (n :: onames Oout').map (· + δ) → ρ2 q = ρ q := fun q hq => by
    show (if _ then _ else _) = _
    rw [if_neg hq]
  have hre : ∀ q ∈ n :: onames Oout', ρ2 (q + δ) = ρ' q := fun q hq => by
    show (if _ then _ else _) = _
    rw [if_pos (List.mem_map.2 ⟨q, hq, rfl⟩), Nat.add_sub_cancel]
  have hO3 : OL w' F' ρ2 (renO (· + δ) Oout') fp2 := hO2.ren (· + δ) fun q hq => hre q (List.mem_cons_of_mem _ hq)
  have hfrn : ∀ q ∈ RV.namesL s.fr, q ∉ (n :: onames Oout').map (· + δ) := fun q hq hx => by
    obtain ⟨q', h4, rfl⟩ := List.mem_map.1 hx
    exact (hm q' h4).2.1 hq
  have hOn : ∀ q ∈ onames s.O, q ∉ (n :: onames Oout').map (· + δ) := fun q hq hx => by
    obtain ⟨q', h4, rfl⟩ := List.mem_map.1 hx
    exact (hm q' h4).2.2 hq
  have hsO := hw.O.places (ρ' := ρ2) fun q hq => hne q (hOn q hq)
  have hx : RelX E ⟨s.fr, renO (· + δ) Oout' ++ s.O⟩ a w' F' ρ2 (fp2 ++ fp) := by
    refine ⟨hw.defers, hw.size, fun i => (hw.fr i).places fun q hq => hne q (hfrn q (names_lget _ _ _ hq)), hO3.join hsO, ?_, ?_, ?_, hw.F0, hw.Fn, hw.Fs, hw.keep, hw.hsize, hw.os, hw.tape, hw.output, fun q hq => (hne q (fun hx => ?_)).trans (hw.pin q hq)⟩
    · refine List.nodup_append.2 ⟨hnd1.2.1, h.nodup, fun y hy z hz e => ?_⟩
      subst e
      have := (hnew y (.inr hy)).2
      have := h.O.lt y hz
      omega
    · intro b hx
      rcases List.mem_append.1 hx with hx | hx
      · exact (hnew b (.inr hx)).1
      · exact hw.fpF b hx
    · intro b hx
      rcases List.mem_append.1 hx with hx | hx
      · exact .inr (Nat.le_trans h.hsize (hnew b (.inr hx)).2)
      · exact h.fpE b hx
    · obtain ⟨q', h4, rfl⟩ := List.mem_map.1 hx
      have := (hm q' h4).1
      have hq : 1000000000000 ≤ q' + δ := hq
      omega
  have hS : SV w' F' ρ2 (.ptr (n + δ) i j) v [] := by
    have e := hsv.ptr_inv
    have hp := hsv.ptr_pos
    have hr := hre n (by simp)
    rw [← hr] at hp e
    rw [e]
    exact .one (.cell rfl (.ptr _ _ _ hp (.nil _ _)))
  exact hK _ _ ⟨F', ρ2, _, hx.put (some d) hS⟩
end
end Eng
end Go.Proofs.Ytmfbcipjknjicaa
