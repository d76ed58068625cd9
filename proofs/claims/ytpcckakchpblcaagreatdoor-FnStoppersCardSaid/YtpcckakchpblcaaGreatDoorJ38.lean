/- The library's Atoi, as the shelf's contracts lay it at this program. The errors' cells are conditions. -/
import Derived.Shelf.LaysC
import Derived.Shelf.Strconv.AtoiAll
import Derived.Test.YtpcckakchpblcaaGreatDoorEf
import Derived.Test.YtpcckakchpblcaaGreatDoorJ8
namespace Go.Proofs.YtpcckakchpblcaaGreatDoor
set_option maxHeartbeats 0
set_option maxRecDepth 100000
open Go.Shelf
def shelf_laysC172_ren : Go.Shelf.Ren := ⟨fun | 172 => 52 | 244 => 77 | 245 => 78 | 247 => 93 | 279 => 94 | 280 => 95 | 281 => 96 | 282 => 97 | 287 => 119 | 316 => 120 | 171 => 46 | 205 => 121 | 321 => 133 | 322 => 134 | 243 => 70 | 246 => 83 | 283 => 112 | 284 => 113 | 285 => 114 | 286 => 115 | 129 => 108 | 317 => 129 | 318 => 130 | 319 => 131 | 320 => 132 | 337 => 136 | 338 => 137 | n => n, fun | 9 => 9 | 3 => 3 | 75 => 78 | 76 => 79 | 4 => 4 | 5 => 5 | 167 => 116 | 37 => 22 | 0 => 0 | 85 => 117 | 2 => 2 | 168 => 119 | 53 => 47 | 175 => 142 | 46 => 107 | 210 => 146 | 127 => 101 | 145 => 166 | 143 => 164 | 21 => 21 | 171 => 136 | 173 => 138 | 212 => 156 | 51 => 131 | 20 => 20 | 213 => 157 | 232 => 170 | 233 => 171 | 80 => 81 | n => n, fun | 15 => 1 | 16 => 2 | 17 => 3 | 18 => 6 | 19 => 7 | n => n⟩
theorem shelf_laysC172 : Go.Proofs.LaysC.n172 Tryz.prog shelf_laysC172_ren := {
  mixed := by kernel_rfl
  f129 := Tryz.func108.trans (congrArg some (by kernel_rfl))
  f171 := Tryz.func46.trans (congrArg some (by kernel_rfl))
  f172 := Tryz.func52.trans (congrArg some (by kernel_rfl))
  f205 := Tryz.func121.trans (congrArg some (by kernel_rfl))
  f243 := Tryz.func70.trans (congrArg some (by kernel_rfl))
  f244 := Tryz.func77.trans (congrArg some (by kernel_rfl))
  f245 := Tryz.func78.trans (congrArg some (by kernel_rfl))
  f246 := Tryz.func83.trans (congrArg some (by kernel_rfl))
  f247 := Tryz.func93.trans (congrArg some (by kernel_rfl))
  f279 := Tryz.func94.trans (congrArg some (by kernel_rfl))
  f280 := Tryz.func95.trans (congrArg some (by kernel_rfl))
  f281 := Tryz.func96.trans (congrArg some (by kernel_rfl))
  f282 := Tryz.func97.trans (congrArg some (by kernel_rfl))
  f283 := Tryz.func112.trans (congrArg some (by kernel_rfl))
  f284 := Tryz.func113.trans (congrArg some (by kernel_rfl))
  f285 := Tryz.func114.trans (congrArg some (by kernel_rfl))
  f286 := Tryz.func115.trans (congrArg some (by kernel_rfl))
  f287 := Tryz.func119.trans (congrArg some (by kernel_rfl))
  f316 := Tryz.func120.trans (congrArg some (by kernel_rfl))
  f317 := Tryz.func129.trans (congrArg some (by kernel_rfl))
  f318 := Tryz.func130.trans (congrArg some (by kernel_rfl))
  f319 := Tryz.func131.trans (congrArg some (by kernel_rfl))
  f320 := Tryz.func132.trans (congrArg some (by kernel_rfl))
  f321 := Tryz.func133.trans (congrArg some (by kernel_rfl))
  f322 := Tryz.func134.trans (congrArg some (by kernel_rfl))
  f337 := Tryz.func136.trans (congrArg some (by kernel_rfl))
  f338 := Tryz.func137.trans (congrArg some (by kernel_rfl))
  t0 := Tryz.underlying0
  a0 := Tryz.isAgg0
  z0 := Tryz.sizeOf0
  v0 := Tryz.zeroValue0
  t2 := Tryz.underlying2
  a2 := Tryz.isAgg2
  z2 := Tryz.sizeOf2
  v2 := Tryz.zeroValue2
  t3 := Tryz.underlying3
  a3 := Tryz.isAgg3
  z3 := Tryz.sizeOf3
  v3 := Tryz.zeroValue3
  t4 := Tryz.underlying4
  a4 := Tryz.isAgg4
  z4 := Tryz.sizeOf4
  v4 := Tryz.zeroValue4
  t5 := Tryz.underlying5
  a5 := Tryz.isAgg5
  z5 := Tryz.sizeOf5
  v5 := Tryz.zeroValue5
  t9 := Tryz.underlying9
  a9 := Tryz.isAgg9
  z9 := Tryz.sizeOf9
  v9 := Tryz.zeroValue9
  t20 := Tryz.underlying20
  a20 := Tryz.isAgg20
  z20 := Tryz.sizeOf20
  v20 := Tryz.zeroValue20
  t21 := Tryz.underlying21
  a21 := Tryz.isAgg21
  z21 := Tryz.sizeOf21
  v21 := Tryz.zeroValue21
  t37 := Tryz.underlying22
  a37 := Tryz.isAgg22
  z37 := Tryz.sizeOf22
  v37 := Tryz.zeroValue22
  t46 := Tryz.underlying107
  a46 := Tryz.isAgg107
  z46 := Tryz.sizeOf107
  v46 := Tryz.zeroValue107
  t51 := Tryz.underlying131
  a51 := Tryz.isAgg131
  z51 := Tryz.sizeOf131
  v51 := Tryz.zeroValue131
  t53 := Tryz.underlying47
  a53 := Tryz.isAgg47
  z53 := Tryz.sizeOf47
  v53 := Tryz.zeroValue47
  t75 := Tryz.underlying78
  a75 := Tryz.isAgg78
  z75 := Tryz.sizeOf78
  v75 := Tryz.zeroValue78
  t76 := Tryz.underlying79
  a76 := Tryz.isAgg79
  z76 := Tryz.sizeOf79
  v76 := Tryz.zeroValue79
  t85 := Tryz.underlying117
  a85 := Tryz.isAgg117
  z85 := Tryz.sizeOf117
  v85 := Tryz.zeroValue117
  t127 := Tryz.underlying101
  a127 := Tryz.isAgg101
  z127 := Tryz.sizeOf101
  v127 := Tryz.zeroValue101
  t143 := Tryz.underlying164
  a143 := Tryz.isAgg164
  z143 := Tryz.sizeOf164
  v143 := Tryz.zeroValue164
  t145 := Tryz.underlying166
  a145 := Tryz.isAgg166
  z145 := Tryz.sizeOf166
  v145 := Tryz.zeroValue166
  t167 := Tryz.underlying116
  a167 := Tryz.isAgg116
  z167 := Tryz.sizeOf116
  v167 := Tryz.zeroValue116
  t168 := Tryz.underlying119
  a168 := Tryz.isAgg119
  z168 := Tryz.sizeOf119
  v168 := Tryz.zeroValue119
  t171 := Tryz.underlying136
  a171 := Tryz.isAgg136
  z171 := Tryz.sizeOf136
  v171 := Tryz.zeroValue136
  t173 := Tryz.underlying138
  a173 := Tryz.isAgg138
  z173 := Tryz.sizeOf138
  v173 := Tryz.zeroValue138
  t175 := Tryz.underlying142
  a175 := Tryz.isAgg142
  z175 := Tryz.sizeOf142
  v175 := Tryz.zeroValue142
  t210 := Tryz.underlying146
  a210 := Tryz.isAgg146
  z210 := Tryz.sizeOf146
  v210 := Tryz.zeroValue146
  t212 := Tryz.underlying156
  a212 := Tryz.isAgg156
  z212 := Tryz.sizeOf156
  v212 := Tryz.zeroValue156
  t213 := Tryz.underlying157
  a213 := Tryz.isAgg157
  z213 := Tryz.sizeOf157
  t232 := Tryz.underlying170
  a232 := Tryz.isAgg170
  z232 := Tryz.sizeOf170
  v232 := Tryz.zeroValue170
  t233 := Tryz.underlying171
  a233 := Tryz.isAgg171
  z233 := Tryz.sizeOf171
  v233 := Tryz.zeroValue171
  g15 := by kernel_rfl
  g16 := by kernel_rfl
  g17 := by kernel_rfl
  g18 := by kernel_rfl
  g19 := by kernel_rfl
  t80 := Tryz.underlying81
  a80 := Tryz.isAgg81
  z80 := Tryz.sizeOf81
  v80 := Tryz.zeroValue81
  i0 := by kernel_rfl
  i2 := by kernel_rfl
  i3 := by kernel_rfl
  i4 := by kernel_rfl
  i5 := by kernel_rfl
  i9 := by kernel_rfl
  i20 := by kernel_rfl
  i21 := by kernel_rfl
  i37 := by kernel_rfl
  i46 := by kernel_rfl
  i51 := by kernel_rfl
  i53 := by kernel_rfl
  i75 := by kernel_rfl
  i76 := by kernel_rfl
  i80 := by kernel_rfl
  i85 := by kernel_rfl
  i127 := by kernel_rfl
  i143 := by kernel_rfl
  i145 := by kernel_rfl
  i167 := by kernel_rfl
  i168 := by kernel_rfl
  i171 := by kernel_rfl
  i173 := by kernel_rfl
  i175 := by kernel_rfl
  i210 := by kernel_rfl
  i212 := by kernel_rfl
  i232 := by kernel_rfl
  i233 := by kernel_rfl
  m15 := by kernel_rfl
  m16 := by kernel_rfl
  m17 := by kernel_rfl
  m18 := by kernel_rfl
  m19 := by kernel_rfl
  c0 := by kernel_rfl
  c2 := by kernel_rfl
  c3 := by kernel_rfl
  c4 := by kernel_rfl
  c5 := by kernel_rfl
  c9 := by kernel_rfl
  c20 := by kernel_rfl
  c21 := by kernel_rfl
  c37 := by kernel_rfl
  c46 := by kernel_rfl
  c51 := by kernel_rfl
  c53 := by kernel_rfl
  c75 := by kernel_rfl
  c76 := by kernel_rfl
  c80 := by kernel_rfl
  c85 := by kernel_rfl
  c127 := by kernel_rfl
  c143 := by kernel_rfl
  c145 := by kernel_rfl
  c167 := by kernel_rfl
  c168 := by kernel_rfl
  c171 := by kernel_rfl
  c173 := by kernel_rfl
  c175 := by kernel_rfl
  c210 := by kernel_rfl
  c212 := by kernel_rfl
  c213 := by kernel_rfl
  c232 := by kernel_rfl
  c233 := by kernel_rfl }
end Go.Proofs.YtpcckakchpblcaaGreatDoor
/- Calls of which it is told only that their results are of some form: contracts with 'there is'. No condition. -/
namespace Go.Proofs.YtpcckakchpblcaaGreatDoor
open Eng
set_option linter.unusedSimpArgs false
set_option maxHeartbeats 0
set_option maxRecDepth 100000
namespace Eng
open Go.RowKit
section
variable {P : Program} {s : St} {d : Tmp} {ty : TypeId} {pos : String} {after : Array Edge} {g : Option (Nat × Bool)}
/-- An operation behind which the state is one of several. -/
def OpX {ι : Type} (P : Program) (o : Oper) (s : St) (C : ι → Prop) (S : ι → St) : Prop :=
  ∀ E a w, Rel E s a w → ∀ (K : Act → World → Prop) (Q : Exit → Act → World → Prop), (∀ x, C x → ∀ a' w', Rel E (S x) a' w' → K a' w') → o.wp P a w K Q
theorem l_opx {ι : Type} {ops o rest R} {C : ι → Prop} {S : ι → St} (hg : o.guard = none) (h : OpX P o s C S) (hk : ∀ x, C x → L P ops rest R (S x)) : L P ops (o :: rest) R s :=
  ⟨fun E a w hr Q hQ => wpList_plain hg fun K hK => h E a w hr K Q fun x hx a' w' hr' => hK _ _ ((hk x hx).out E a' w' hr' Q hQ)⟩
theorem callX_core {ι : Type} {C : ι → Prop} {r : ι → RV} {Oout : ι → List Bk} {o : Oper} {f : FuncId} {argsL : List Operand} {extra : List RV} {argsR} (ns ks : List Nat) {M R : List Bk} (hdst : o.dst = some d)
    (hrun : ∀ E a w F ρ fp, RelX E s a w F ρ fp → ∃ ev, SL w F ρ extra ev [] ∧ (execOp a.eval o).run P w = .ok (.enter f ((argsL.map a.eval) ++ ev).toArray) w)
    (hp : pulls ns s.O = some (M, R)) (hargs : RV.renL (pinσ M) (argsL.map s.get ++ extra) = argsR) (hnt : (argsL.map s.get).all RV.notTup = true)
    (hna : ∀ n ∈ RV.namesL (argsL.map s.get ++ extra), (mpos n M).isSome = true) (hnM : ∀ b ∈ M, ∀ n ∈ RV.namesL b.2.2, (mpos n M).isSome = true)
    (hfc : FC P f argsR (renO (pinσ M) M) fun rv O => ∃ x, C x ∧ rv = r x ∧ O = Oout x) (hnO : ∀ x, ∀ n ∈ onames (Oout x), 1000000000000 ≤ n ∧ n - 1000000000000 < M.length)
    (hr : ∀ x, (r x).resOkT = true) (hnb : ∀ x, (bnames (openR d (r x)).2).Nodup) (hf : ∀ x, ∀ m ∈ bnames (openR d (r x)).2, m < 1000000000000 ∧ m ∉ RV.namesL (killLs ks s.fr) ∧ m ∉ onames (renO (unpin M) (Oout x) ++ R)) :
    OpX P o s C fun x => ⟨lset (killLs ks s.fr) d (openR d (r x)).1, (openR d (r x)).2 ++ (renO (unpin M) (Oout x) ++ R)⟩ := by
  rintro E a w ⟨F, ρ, fp0, h0⟩ K Q hK
  obtain ⟨ev, hev, hrun⟩ := hrun E a w F ρ fp0 h0
  obtain ⟨fp, hOL, hperm⟩ := h0.O.pulls ns hp
  have h : RelX E ⟨s.fr, M ++ R⟩ a w F ρ fp := h0.perm hOL hperm
  obtain ⟨fM, fR, hOM, hOR, hfp⟩ := OL.split2 (A := M) (B := R) h.O
  subst hfp
  have hnd0 := List.nodup_append.1 h.nodup
  have hA0 : SL w F ρ (argsL.map s.get ++ extra) (argsL.map a.eval ++ ev) [] := by
    have h1 := h0.args argsL hnt
    revert h1
    generalize argsL.map s.get = l
    generalize argsL.map a.eval = l'
    generalize hz : ([] : List Nat) = z
    intro h1
    induction h1 with
    | nil => rw [← hz]; exact hev
    | cons hx hxs ih =>
      obtain ⟨rfl, rfl⟩ := List.append_eq_nil_iff.1 hz.symm
      exact SL.cons (fp1 := []) hx (ih rfl)
  have hA : SL w F (pinρ ρ M) argsR (argsL.map a.eval ++ ev) [] := by
    rw [← hargs]
    exact hA0.ren (pinσ M) fun n hn => pinσ_ok (hna n hn)
  have hin : OL w F (pinρ ρ M) (renO (pinσ M) M) fM := hOM.ren (pinσ M) fun n hn => pinσ_ok (by
    rcases mem_onames hn with h1 | ⟨b, hb, h1⟩
    · exact mpos_of_mem h1
    · exact hnM b hb n h1)
  simp only [Oper.wp, hrun, Oper.upon_enter]
  have hcall := hfc w F (pinρ ρ M) _ fM hA hin hnd0.1 (fun b hb => h.fpF b (by simp [hb])) h.Fs
  refine hcall.mono ?_
  rintro e w' ⟨v, rv, Oout', F', ρ', fp1, fp2, rfl, ⟨x, hCx, rfl, rfl⟩, hsv, hO2, hnd, hfpX, hF, hF', hb, hsz, h1, h2, h3, hpin⟩
  have hnd1 := List.nodup_append.1 hnd
  have hout : OL w' F' ρ (renO (unpin M) (Oout x)) fp2 := hO2.ren (unpin M) fun n hn => by
    obtain ⟨h4, h5⟩ := hnO x n hn
    unfold unpin
    obtain ⟨i, rfl⟩ : ∃ i, n = 1000000000000 + i := ⟨n - 1000000000000, by omega⟩
    rw [hpin _ h4]
    rw [Nat.add_sub_cancel_left] at h5 ⊢
    rw [List.getElem?_eq_getElem h5, pinρ_at (List.getElem?_eq_getElem h5)]
  have hFR : ∀ b ∈ fR, b ∉ fM := fun b hb hx => hnd0.2.2 b hx b hb rfl
  have hrest : OL w' F' ρ R fR := hOR.mono (fun b hx => ⟨hF b hx, hb b (h.Fs b hx) fun hy => h.fpF b (by simp [hy]) hx⟩) fun b hx => hb b (hOR.lt b hx) (hFR b hx)
  have hFR' : ∀ b ∈ fR, ¬ F' b := by
    intro b hx hy
    rcases (hF' b hy).1 with hz | hz | hz
    · exact h.fpF b (by simp [hx]) hz
    · exact hFR b hx hz
    · have := hOR.lt b hx; omega
  have hdisj : ∀ x, (x ∈ fp1 ∨ x ∈ fp2) → x ∉ fR := by
    intro x hx hy
    rcases (hfpX x (by simp only [List.mem_append]; exact hx)).2 with hz | hz
    · exact hnd0.2.2 x hz x hy rfl
    · have := hOR.lt x hy; omega
  have hE : ∀ x, (x ∈ fp1 ∨ x ∈ fp2) → ¬ F' x ∧ (E.B0 x ∨ E.w0.heap.size ≤ x) := by
    intro x hx
    have h4 := hfpX x (by simp only [List.mem_append]; exact hx)
    refine ⟨h4.1, ?_⟩
    rcases h4.2 with hz | hz
    · exact h.fpE x (by simp [hz])
    · exact .inr (Nat.le_trans h.hsize hz)
  have hrel : RelX E ⟨s.fr, renO (unpin M) (Oout x) ++ R⟩ a w' F' ρ (fp2 ++ fR) := by
    refine ⟨h.defers, h.size, fun i => (h.fr i).mono (fun b hx => ⟨hF b hx, hb b (h.Fs b hx) fun hy => h.fpF b (by simp [hy]) hx⟩) (by simp), hout.join hrest, List.nodup_append.2 ⟨hnd1.2.1, hnd0.2.1, fun x hx y hy e => by subst e; exact hdisj x (.inr hx) hy⟩, ?_, ?_, fun b hx => hF b (h.F0 b hx), ?_, fun b hx => (hF' b hx).2, ?_, Nat.le_trans h.hsize hsz, h1.trans h.os, h2.trans h.tape, h3.trans h.output, h.pin⟩
    · intro b hx
      rcases List.mem_append.1 hx with hx | hx
      · exact (hE b (.inr hx)).1
      · exact hFR' b hx
    · intro b hx
      rcases List.mem_append.1 hx with hx | hx
      · exact (hE b (.inr hx)).2
      · exact h.fpE b (by simp [hx])
    · intro b hx
      rcases (hF' b hx).1 with hz | hz | hz
      · exact h.Fn b hz
      · rcases h.fpE b (by simp [hz]) with hy | hy
        · exact .inr (.inl hy)
        · exact .inr (.inr hy)
      · exact .inr (.inr (Nat.le_trans h.hsize hz))
    · intro b hlt hB
      rw [hb b (by have := h.hsize; omega) (fun hx => by rcases h.fpE b (by simp [hx]) with hy | hy; · exact hB hy
                                                         · omega)]
      exact h.keep b hlt hB
  have hrel := hrel.killLs ks
  obtain ⟨ρ2, hOp, hS⟩ := (hsv.places (ρ' := ρ) fun m hm => by rw [RV.resOkT_names (hr x)] at hm; cases hm).opn d (hr x) (hnb x)
  obtain ⟨fp', hx⟩ := hrel.opens hOp (hf x) (List.nodup_append.2 ⟨hnd1.1, hrel.nodup, fun x hx y hy e => by
    subst e
    rcases List.mem_append.1 hy with hy | hy
    · exact hnd1.2.2 x hx x hy rfl
    · exact hdisj x (.inl hx) hy⟩) (fun x hx => hE x (.inl hx))
  rw [hdst]
  exact hK x hCx _ _ ⟨F', ρ2, fp', hx.put (some d) hS⟩
/-- A call on exact or frozen values, whose results are of some form. -/
theorem l_callX {ι : Type} {ops : Array Oper} {rest R} {fr : List RV} {O : List Bk} {f args ats argsR} (C : ι → Prop) (r : ι → RV) (hfc : FC P f argsR [] fun rv O' => ∃ x, C x ∧ rv = r x ∧ O' = [])
    (hargs : args.toList.map (⟨fr, O⟩ : St).get = argsR := by rfl) (hnt : (args.toList.map (⟨fr, O⟩ : St).get).all RV.notTup = true := by rfl) (hna : RV.namesL argsR = [] := by simp [nm]) (hc : callable P f = true := by kernel_rfl)
    (hr : ∀ x, (r x).resOkT = true := by intro x; simp [RV.resOkT, RV.resOk, RV.isAgg, nm]) (hnb : ∀ x, (bnames (openR d (r x)).2).Nodup := by intro x; simp [nz, nm]) (hf : ∀ x, ∀ m ∈ bnames (openR d (r x)).2, m < 1000000000000 ∧ m ∉ RV.namesL fr ∧ m ∉ onames O := by intro x; simp [nz, nm])
    {fr' : ι → List RV} {O' : ι → List Bk} (e : ∀ x, (⟨lset fr d (openR d (r x)).1, (openR d (r x)).2 ++ O⟩ : St) = ⟨fr' x, O' x⟩ := by intro x; simp only [nz, nf, nl, nb, nr, ng, nq, nu, reduceIte, Nat.reduceEqDiff, Nat.reduceAdd]; rfl)
    (hk : ∀ x, C x → L P ops rest R ⟨fr' x, O' x⟩) : L P ops (⟨some d, .call ⟨.value (.func f), args, ats⟩, ty, pos, after, none⟩ :: rest) R ⟨fr, O⟩ := by
  have h := callX_core (P := P) (s := ⟨fr, O⟩) (d := d) (o := ⟨some d, .call ⟨.value (.func f), args, ats⟩, ty, pos, after, none⟩) (f := f) (argsL := args.toList) (extra := []) (argsR := argsR) (C := C) (r := r) [] [] (M := []) (R := O) (Oout := fun _ => []) rfl
    (fun E a w F ρ fp h => ⟨[], .nil, by
      rw [run_call (a := a) (w := w) (o := ⟨some d, .call ⟨.value (.func f), args, ats⟩, ty, pos, after, none⟩) rfl hc]
      simp only [List.append_nil, Result.ok.injEq, Next.enter.injEq, true_and, and_true]
      exact Array.ext' (by rw [Array.toList_map])⟩) rfl (by rw [List.append_nil, hargs, renL_id hna]) hnt
    (by rw [List.append_nil, hargs, hna]; intro q hq; cases hq) (by intro b hb; cases hb) (by simpa [renO] using hfc)
    (by intro x m hm; simp [onames] at hm) hr hnb
    (fun x m hm => ⟨(hf x m hm).1, (hf x m hm).2.1, by simpa [renO] using (hf x m hm).2.2⟩)
  refine l_opx (C := C) (S := fun x => ⟨fr' x, O' x⟩) rfl (fun E a w hr K Q hK => h E a w hr K Q fun x hx a' w' hr' => hK x hx a' w' ?_) hk
  show Rel E ⟨fr' x, O' x⟩ a' w'
  rw [← e x]
  simpa [renO, killLs] using hr'

end
end Eng
end Go.Proofs.YtpcckakchpblcaaGreatDoor
