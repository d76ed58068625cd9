/- The reference's classes of positions and of sums. For all arguments. -/
import Derived.Test.YtmfbcipjknjicaaGreatDoorEf
import Derived.Test.YtmfbcipjknjicaaGreatDoorJ24
import Derived.Test.YtmfbcipjknjicaaGreatDoorJ7
import Derived.Test.YtmfbcipjknjicaaGreatDoorSpX
namespace Go.Proofs.YtmfbcipjknjicaaGreatDoor
open Eng
attribute [local irreducible] OpS OpG FC FCr Rel Fl Ef DR Fs
attribute [local simp] RV.fzR_names
set_option linter.unusedSimpArgs false
set_option linter.unusedVariables false
set_option maxHeartbeats 0
set_option maxRecDepth 100000

end Go.Proofs.YtmfbcipjknjicaaGreatDoor
/- The quotient of a box in plain lists: the first of the same signs stands for a position; losing ones; classes. -/
namespace Go.Proofs.YtmfbcipjknjicaaGreatDoor
set_option linter.unusedSimpArgs false
set_option linter.unusedVariables false

theorem fstB_at {α : Type} {P : α → Bool} : ∀ {l : List α} {k j : Nat} (hj : j < l.length), P l[j] = true → (∀ i, (h : i < j) → P (l[i]'(by omega)) = false) → fstB P l k = ((k + j : Nat) : Int)
  | x :: xs, k, 0, hj, h1, h2 => by rw [fstB, if_pos (by simpa using h1)]; rfl
  | x :: xs, k, j + 1, hj, h1, h2 => by
    have h3 := h2 0 (by omega)
    rw [fstB, if_neg (by simpa using h3)]
    have := fstB_at (P := P) (l := xs) (k := k + 1) (j := j) (by simpa using hj) (by simpa using h1) (fun i hi => by have := h2 (i + 1) (by omega); simpa using this)
    rw [this]; omega
theorem fstB_ex {α : Type} {P : α → Bool} : ∀ {l : List α} {i : Nat} (hi : i < l.length), P l[i] = true → ∃ j, ∃ h : j ≤ i, P (l[j]'(by omega)) = true ∧ (∀ k, (h : k < j) → P (l[k]'(by omega)) = false)
  | x :: xs, i, hi, h => by
    by_cases hx : P x = true
    · exact ⟨0, by omega, by simpa using hx, fun k hk => by omega⟩
    · match i, hi, h with
      | 0, hi, h => exact absurd (by simpa using h) hx
      | i + 1, hi, h =>
        obtain ⟨j, hj, h1, h2⟩ := fstB_ex (P := P) (l := xs) (i := i) (by simpa using hi) (by simpa using h)
        refine ⟨j + 1, by omega, by simpa using h1, fun k hk => ?_⟩
        match k, hk with
        | 0, hk => simpa using hx
        | k + 1, hk => have := h2 k (by omega); simpa using this
def sgL (c : List Int) (s m : Nat) : List (List Bool) := (posB s m).map (sgnB c s m)
theorem sgL_len (c : List Int) (s m : Nat) : (sgL c s m).length = (posB s m).length := by simp [sgL]
def fsL (L : List (List Bool)) (w : List Bool) : Int := fstB (fun t => decide (t = w)) L 0
theorem fstB_map {α β : Type} (f : α → β) (P : β → Bool) : ∀ (l : List α) (k : Nat), fstB P (l.map f) k = fstB (fun x => P (f x)) l k
  | [], _ => rfl
  | x :: xs, k => by
    rw [List.map_cons, fstB, fstB, fstB_map f P xs]
theorem clsB_fs (c : List Int) (s m : Nat) (h : List Int) : clsB c s m h = fsL (sgL c s m) (sgnB c s m h) := by
  unfold clsB fsL sgL
  rw [fstB_map]
def quL (L : List (List Bool)) : List Int := L.map (fsL L)
theorem quL_len (L : List (List Bool)) : (quL L).length = L.length := by simp [quL]
theorem quL_at {L : List (List Bool)} {i : Nat} (hi : i < L.length) : ∃ j, ∃ h : j ≤ i, (quL L)[i]'(by rw [quL_len]; exact hi) = (j : Int) ∧ L[j]'(by omega) = L[i] ∧ (∀ k, (h : k < j) → L[k]'(by omega) ≠ L[i]) := by
  obtain ⟨j, hj, h1, h2⟩ := fstB_ex (P := fun t => decide (t = L[i])) (l := L) hi (by simp)
  refine ⟨j, hj, ?_, by simpa using h1, fun k hk => by simpa using h2 k hk⟩
  simp only [quL, List.getElem_map, fsL]
  rw [fstB_at (j := j) (by omega) h1 h2]; simp
theorem quL_idem {L : List (List Bool)} {i j : Nat} (hi : i < L.length) (hj : j < L.length) (h : (quL L)[i]'(by rw [quL_len]; exact hi) = (j : Int)) : (quL L)[j]'(by rw [quL_len]; exact hj) = (j : Int) := by
  obtain ⟨j', hj', h1, h2, h3⟩ := quL_at hi
  have : j' = j := by omega
  subst this
  rw [← h1]
  simp only [quL, List.getElem_map]
  rw [h2]
theorem fst_seen {L : List (List Bool)} {i : Nat} (hi : i < L.length) : fstB (fun t => decide (L[i] = t)) (L.take i ++ [L[i]]) 0 = (quL L)[i]'(by rw [quL_len]; exact hi) := by
  obtain ⟨j, hj, h1, h2, h3⟩ := quL_at hi
  rw [h1]
  have e : L.take i ++ [L[i]] = L.take (i + 1) := (List.take_succ_eq_append_getElem hi).symm
  rw [e, fstB_at (j := j) (by simp; omega) (by simp [h2]) (fun k hk => by simpa using fun e => h3 k hk e.symm)]
  simp
theorem putI_end {n : Int} : ∀ {l : List Int}, (∀ x ∈ l, x < n) → putI n l = l ++ [n]
  | [], _ => rfl
  | x :: xs, h => by
    rw [putI, if_pos (h x (by simp)), putI_end fun y hy => h y (by simp [hy])]; rfl
theorem putI_in {n : Int} : ∀ {l : List Int}, l.Pairwise (· < ·) → n ∈ l → putI n l = l
  | x :: xs, hp, h => by
    rw [List.pairwise_cons] at hp
    rw [putI]
    rcases List.mem_cons.1 h with rfl | h
    · rw [if_neg (by omega), if_pos rfl]
    · rw [if_pos (hp.1 n h), putI_in hp.2 h]
def stI (q : List Int) (Z : Nat → Bool) (k : Nat) : List Int := ((List.range k).filter fun i => decide (q.getD i 0 = (i : Int)) && Z i).map fun i => ((i : Nat) : Int)
theorem stI_succ (q : List Int) (Z : Nat → Bool) (k : Nat) : stI q Z (k + 1) = if q.getD k 0 = (k : Int) ∧ Z k = true then stI q Z k ++ [(k : Int)] else stI q Z k := by
  unfold stI
  rw [List.range_succ, List.filter_append, List.map_append]
  by_cases h : q.getD k 0 = (k : Int) ∧ Z k = true
  · rw [if_pos h]
    have e : ([k].filter fun i => decide (q.getD i 0 = (i : Int)) && Z i) = [k] := by rw [List.filter_cons, if_pos (by rw [h.1, h.2]; simp), List.filter_nil]
    rw [e]; rfl
  · rw [if_neg h]
    have e : ([k].filter fun i => decide (q.getD i 0 = (i : Int)) && Z i) = [] := by
      rw [List.filter_eq_nil_iff]
      intro x hx
      rw [List.mem_singleton] at hx
      subst hx
      simpa using h
    rw [e]; simp
theorem stI_mem {q : List Int} {Z : Nat → Bool} {k : Nat} {x : Int} : x ∈ stI q Z k ↔ ∃ i : Nat, i < k ∧ x = i ∧ q.getD i 0 = (i : Int) ∧ Z i = true := by
  unfold stI
  simp only [List.mem_map, List.mem_filter, List.mem_range, Bool.and_eq_true, decide_eq_true_eq]
  exact ⟨fun ⟨i, ⟨h1, h2, h3⟩, h4⟩ => ⟨i, h1, h4.symm, h2, h3⟩, fun ⟨i, h1, h4, h2, h3⟩ => ⟨i, ⟨h1, h2, h3⟩, h4.symm⟩⟩
theorem stI_sorted (q : List Int) (Z : Nat → Bool) (k : Nat) : (stI q Z k).Pairwise (· < ·) := by
  unfold stI
  rw [List.pairwise_map]
  exact ((List.pairwise_lt_range (n := k)).filter _).imp fun h => by omega
theorem stI_len (q : List Int) (Z : Nat → Bool) (k : Nat) : (stI q Z k).length ≤ k := by
  unfold stI
  rw [List.length_map]
  exact Nat.le_trans (List.length_filter_le _ _) (by simp)
theorem stI_put {L : List (List Bool)} {Z : Nat → Bool} (hZ : ∀ i j, (hi : i < L.length) → (hj : j < L.length) → L[i] = L[j] → Z i = Z j) {k : Nat} (hk : k < L.length) : stI (quL L) Z (k + 1) = if Z k = true then putI ((quL L)[k]'(by rw [quL_len]; exact hk)) (stI (quL L) Z k) else stI (quL L) Z k := by
  obtain ⟨j, hj, h1, h2, h3⟩ := quL_at hk
  have hg : ∀ i, (hi : i < L.length) → (quL L).getD i 0 = (quL L)[i]'(by rw [quL_len]; exact hi) := fun i hi => by
    rw [List.getD_eq_getElem?_getD, List.getElem?_eq_getElem (by rw [quL_len]; exact hi)]; rfl
  rw [stI_succ, hg k hk]
  by_cases hz : Z k = true
  · rw [if_pos hz, h1]
    by_cases hjk : j = k
    · subst hjk
      rw [if_pos ⟨rfl, hz⟩, putI_end]
      intro x hx
      obtain ⟨i, hi, rfl, _⟩ := stI_mem.1 hx
      omega
    · rw [if_neg (by omega), putI_in (stI_sorted _ _ _)]
      refine stI_mem.2 ⟨j, by omega, rfl, ?_, ?_⟩
      · rw [hg j (by omega)]
        exact quL_idem hk (by omega) h1
      · rw [hZ j k (by omega) hk h2]; exact hz
  · rw [if_neg hz, if_neg fun h => hz h.2]
theorem sgn_lost {c : List Int} {s m : Nat} {p q : List Int} (hp : p ∈ posB s m) (hq : q ∈ posB s m) (h : sgnB c s m p = sgnB c s m q) : (mv c p 0 0 = 0 ↔ mv c q 0 0 = 0) := by
  obtain ⟨r, hr⟩ := posB_zero s m
  have et : ∀ z ∈ posB s m, togH z [] = z := fun z hz => by
    obtain ⟨_, h2, h3⟩ := posB_mem hz
    rw [togH_nil h3]
    exact fillH_id fun x hx => (h2 x hx).1
  unfold sgnB sgnP at h
  rw [hr, List.map_cons, List.map_cons] at h
  have h := (List.cons.inj h).1
  rw [et p hp, et q hq] at h
  have := decide_eq_decide.1 h
  exact ⟨fun e => Classical.byContradiction fun h => this.2 h e, fun e => Classical.byContradiction fun h => this.1 h e⟩
end Go.Proofs.YtmfbcipjknjicaaGreatDoor
/- Rules of the engine: function values that caught what is frozen, made and called. No condition. -/
namespace Go.Proofs.YtmfbcipjknjicaaGreatDoor
set_option linter.unusedSimpArgs false
set_option linter.unusedVariables false
set_option maxHeartbeats 0
set_option maxRecDepth 100000
namespace Eng
open Go.RowKit
section
variable {P : Program} {s : St} {d : Tmp} {ty : TypeId} {pos : String} {after : Array Edge} {g : Option (Nat × Bool)}
theorem sl_stores {w F ρ} : ∀ {l : List RV} {cs : List Value}, OE w F ρ 1 l cs [] → l.all RV.stores = true → SL w F ρ l cs []
  | [], cs, h, _ => by cases h; exact .nil
  | e :: es, cs, h, hp => by
    simp only [List.all_cons, Bool.and_eq_true] at hp
    obtain ⟨c1, c2, f1, f2, rfl, hf, hc1, h1, h2⟩ := h.cons_inv
    obtain ⟨rfl, rfl⟩ := List.append_eq_nil_iff.1 hf.symm
    match c1, hc1 with
    | [z], _ => exact SL.cons (fp1 := []) (.cell (by cases e <;> simp [RV.stores] at hp <;> rfl) h1) (sl_stores h2 hp.2)
theorem ops_makeFuncS {f : Fn} {caps : Array Operand} {l : List RV} (hl : caps.toList.map s.get = l := by rfl) (hp : l.all RV.stores = true := by rfl) : OpS P ⟨some d, .makeFunc f #[] caps, ty, pos, after, g⟩ s ⟨lset s.fr d (.fn (.c f) l), s.O⟩ := by
  subst hl
  refine ops_of fun E a w F ρ fp h => ⟨mkF (.c f) (caps.toList.map a.eval), w, ?_, F, ρ, fp, h.put (some d) (.one (.fn ?_))⟩
  · simp [execOp, Instr.makeFunc, mkF, ← Array.toList_map]
  · revert hp
    generalize caps.toList = l
    induction l with
    | nil => intro _; exact .nil _ _
    | cons x xs ih =>
      intro hp
      simp only [List.map_cons, List.all_cons, Bool.and_eq_true] at hp ⊢
      exact OE.cons (c1 := [_]) (fp1 := []) ((h.get x).to_cell hp.1).1 (ih hp.2)
theorem fs_makeFuncS {RO : Nat → Bool} {f : Fn} {caps : Array Operand} {l : List RV} (hl : caps.toList.map s.get = l := by rfl) (hp : l.all RV.stores = true := by rfl) : Fs P RO ⟨some d, .makeFunc f #[] caps, ty, pos, after, g⟩ s (.fn (.c f) l) := by
  intro s2 hs _
  have hg : ∀ x ∈ caps.toList, s2.get x = s.get x := fun x hx => hs x (by simp [Op.operands, hx])
  exact ops_makeFuncS (hl := by rw [List.map_congr_left hg]; exact hl) hp
theorem ops_callFS {t : Tmp} {f args ats argsR r caps} (hfn : lget s.fr t = .fn (.c (.func f)) caps := by rfl) (hcp : caps.all RV.stores = true := by rfl) (hargs : args.toList.map s.get ++ caps = argsR := by rfl) (hnt : (args.toList.map s.get).all RV.notTup = true := by rfl) (hc : callable P f = true := by kernel_rfl) (hfc : FCr P f argsR r) :
    OpS P ⟨some d, .call ⟨.value (.tmp t), args, ats⟩, ty, pos, after, g⟩ s ⟨lset s.fr d r.fzR, s.O⟩ := by
  subst hargs
  rintro E a w ⟨F, ρ, fp, h⟩ K Q hK
  have h1 := h.get (.tmp t)
  have e : s.get (.tmp t) = .fn (.c (.func f)) caps := hfn
  rw [e] at h1
  obtain ⟨c, hy, hcs⟩ := h1.fn_inv
  have hA : SL w F ρ (args.toList.map s.get ++ caps) (args.toList.map a.eval ++ c) [] := by
    have h2 := h.args args.toList hnt
    have h3 := sl_stores hcs hcp
    revert h2
    generalize args.toList.map s.get = l
    generalize args.toList.map a.eval = l'
    generalize hz : ([] : List Nat) = z
    intro h2
    induction h2 with
    | nil => rw [← hz]; exact h3
    | cons hx hxs ih =>
      obtain ⟨rfl, rfl⟩ := List.append_eq_nil_iff.1 hz.symm
      exact SL.cons (fp1 := []) hx (ih rfl)
  have hrun : (execOp a.eval ⟨some d, .call ⟨.value (.tmp t), args, ats⟩, ty, pos, after, g⟩).run P w = .ok (.enter f (args.toList.map a.eval ++ c).toArray) w := by
    unfold callable at hc
    split at hc
    · rename_i fn hfn2
      simp only [Bool.and_eq_true, bne_iff_ne] at hc
      obtain ⟨bd, hb⟩ := Option.isSome_iff_exists.1 hc.1
      simp [execOp, resolve, hy, mkF, Deferred.ofValue, invoke, callFunc, hfn2, hc.2, hb]
    · cases hc
  simp only [Oper.wp, hrun, Oper.upon_enter]
  have hcall := hfc w F ρ _ [] hA (.nil h.O.gok) List.nodup_nil (fun b hb => nomatch hb) h.Fs
  refine hcall.mono ?_
  rintro e w' ⟨v, rv, Oout, F', ρ', fp1, fp2, rfl, ⟨rfl, rfl⟩, hsv, hO2, hnd, hfp, hF, hF', hb, hsz, h1, h2, h3, _⟩
  have hfp1 : ∀ b ∈ fp1, w.heap.size ≤ b := fun b hb => by have := (hfp b (by simp [hb])).2; simpa using this
  have hx := h.world (w' := w') (F' := fun b => F' b ∨ b ∈ fp1) (fun b hb => .inl (hF b hb)) (fun b hb => by
    rcases hb with hb | hb
    · have := hF' b hb; simpa using this
    · exact ⟨.inr (hfp1 b hb), hsv.lt b hb⟩) (fun b hb' => hb b hb' (by simp)) hsz h1 h2 h3
  have hs' : SV w' (fun b => F' b ∨ b ∈ fp1) ρ' rv.fzR v [] := hsv.fzR (fun b hb => .inl hb) (fun b hb => .inr hb)
  refine hK _ _ ⟨_, _, _, hx.put (some d) ?_⟩
  exact hs'.noName (RV.fzR_names _)
theorem l_eqnilR {P ops d x c ty pos after u rest R fr O n off len k els} {fr' : Bool → List RV} (ht : P.underlying c = some (.slice (P.elem c))) (hx : (⟨fr, O⟩ : St).get x = .ref n off len := by rfl) (ho : olook n O = some (k, els) := by rfl) (e' : ∀ b : Bool, lset fr d (.v (.bool b)) = fr' b := by intro b; simp only [nz]; rfl) (hk : ∀ b : Bool, (b = true → els = []) → L P ops rest R ⟨fr' b, O⟩) :
    L P ops (⟨some d, .binOp .eql c x (.const (.slice none 0 0)) u, ty, pos, after, none⟩ :: rest) R ⟨fr, O⟩ := by
  refine ⟨?_⟩
  intro E a w hr Q hQ
  obtain ⟨F, ρ, fp, h⟩ := id hr
  have h1 := h.get x
  rw [hx] at h1
  have e := h1.ref_inv
  obtain ⟨fp', h'⟩ := h.front ho
  have hb : ((ρ n).1.isNone = true → els = []) := fun hn => Classical.byContradiction fun hne => by
    obtain ⟨b, _, _, _, _, _, _, hρb, _⟩ := h'.O.head hne h1.ref_pos
    rw [hρb] at hn; cases hn
  have hrel : Rel E ⟨lset fr d (.v (.bool (ρ n).1.isNone)), O⟩ (a.put (some d) (.bool (ρ n).1.isNone)) w := ⟨F, ρ, fp, h.put (some d) (.one (.v _))⟩
  refine wpList_step fun K hK => ?_
  have hrun : (execOp a.eval ⟨some d, .binOp .eql c x (.const (.slice none 0 0)) u, ty, pos, after, none⟩).run P w = .ok (.value (.bool (ρ n).1.isNone)) w := by
    have ec : a.eval (.const (.slice none 0 0)) = .slice none 0 0 := rfl
    simp [execOp, e, ec, binOp, eqGuard, run_eq_nil ht]
  have hw : Region.wanted ⟨some d, .binOp .eql c x (.const (.slice none 0 0)) u, ty, pos, after, none⟩ (yielded ops a.tmps) = true := by simp [Region.wanted]
  rw [if_pos hw]
  simp only [Oper.wp, hrun, Oper.upon_value]
  rw [e'] at hrel
  exact hK _ _ ((hk _ hb).out E _ w hrel Q hQ)
theorem ops_apkeep {x y t n m els els2 len len2} (hx : s.get x = .ref n 0 len) (hy : s.get y = .ref m 0 len2) (ho : olook n s.O = some (1, els)) (ho2 : olook m s.O = some (1, els2)) (hne : n ≠ m) (hl : len = els.length) (hl2 : len2 = els2.length) (h0 : els2 ≠ []) (hpl : els2.all RV.plain = true)
    (hn1 : n < 1000000000000 ∧ n ∉ RV.namesL els) (hn2 : n ∉ RV.namesL els2) (hn3 : n ∉ onames (oerase n s.O)) (ha : appOk P t 1) (hlen : els.length + els2.length ≤ 1099511627776) :
    OpS P ⟨some d, .call ⟨.builtin .append, #[x, y], #[t, t]⟩, ty, pos, after, g⟩ s ⟨lset (RV.killL n s.fr) d (.ref n 0 (els ++ els2).length), oset n (els ++ els2) s.O⟩ := by
  subst hl; subst hl2
  obtain ⟨ht, hw, hz, hb⟩ := ha
  rw [List.length_append]
  exact ops_of fun E a w F ρ fp hr => by
    have h1 := (show SV w F ρ (.ref n 0 els.length) (a.eval x) [] from hx ▸ hr.get x).ref_inv
    have h2 := (show SV w F ρ (.ref m 0 els2.length) (a.eval y) [] from hy ▸ hr.get y).ref_inv
    obtain ⟨fpm, hrm⟩ := hr.front ho2
    obtain ⟨b, tb, c, fp1, fpr, hk, hρ, hρb, hbb, hs, hl, hm, hE, hO2, rfl⟩ := hrm.O.head h0 (show SV w F ρ (.ref m 0 els2.length) (a.eval y) [] from hy ▸ hr.get y).ref_pos
    obtain rfl := hE.plain_fpL hpl
    obtain ⟨fpn, hrn⟩ := hr.front ho
    obtain ⟨yv, w', ρ', fp', hrun, hsv, hfin⟩ := hrn.append (P := P) (cap2 := (ρ m).2.2 - 0) (OE.block hbb _) hE hE.one (by simpa using hrn.nodup) (by simp) hn1 hn2 hn3 (t := t) (ty := ty) ht hw hz hb hlen (show SV w F ρ (.ref n 0 els.length) (a.eval x) [] from hx ▸ hr.get x).ref_pos
    have hfin' := hfin.put (some d) hsv
    have hback : ∃ fp'', RelX E ⟨lset (RV.killL n s.fr) d (.ref n 0 (els.length + els2.length)), oset n (els ++ els2) s.O⟩ (a.put (some d) yv) w' F ρ' fp'' := by
      refine RelX.back (fp := fp') (n := n) (k := 1) (els := els ++ els2) ?_ (olook_oset ho)
      rw [oerase_oset]
      exact hfin'
    refine ⟨yv, w', ?_, F, ρ', hback⟩
    simp only [Nat.zero_mul, hρb, Option.map_some] at h1 h2
    simp only [Nat.sub_zero] at h1 h2 hrun
    simp [execOp, resolve, invoke, builtin, h1, h2, hrun]
theorem ops_apsh {x y t n k els els2 len} (hx : s.get x = .ref n 0 len) (hy : s.get y = .sh els2) (ho : olook n s.O = some (k, els)) (hl : len = els.length) (hwd : els2.all (fun e => e.width == k) = true) (hn1 : n < 1000000000000 ∧ n ∉ RV.namesL els) (hn3 : n ∉ onames (oerase n s.O)) (ha : appOk P t k) (hlen : els.length + els2.length ≤ 1099511627776) :
    OpS P ⟨some d, .call ⟨.builtin .append, #[x, y], #[t, t]⟩, ty, pos, after, g⟩ s ⟨lset (RV.killL n s.fr) d (.ref n 0 (els ++ els2).length), oset n (els ++ els2) s.O⟩ := ap_sh hx hy ho hl hwd hn1 hn3 ha hlen
theorem le_emp {fr fr' : List RV} {O : List Bk} (i : Nat) {n off : Nat} (h : lget fr i = .ref n off 0) (e : lset fr i (.sh []) = fr') : LE ⟨fr, O⟩ ⟨fr', O⟩ := by
  subst e
  refine ⟨?_⟩
  rintro E a w ⟨F, ρ, fp, hr⟩
  refine ⟨F, ρ, fp, { hr with size := by simpa using hr.size, fr := fun j => ?_ }⟩
  have h1 := hr.fr j
  rw [lget_lset]
  split
  · rename_i hj
    rw [hj.1, h] at h1
    have h2 := h1.ref_inv
    rw [hj.1, h2]
    exact .one (.cell rfl (OE.of_FE (.shnil _ _ (.nil _))))
  · exact h1
end
end Eng
end Go.Proofs.YtmfbcipjknjicaaGreatDoor
