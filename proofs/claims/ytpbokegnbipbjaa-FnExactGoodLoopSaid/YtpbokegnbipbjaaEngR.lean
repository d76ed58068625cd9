/- The engine, part R: a named block goes into a cell that refers to it; slices that are filled in order. No condition. -/
import Derived.Test.YtpbokegnbipbjaaEngQ
namespace Go.Proofs.Ytpbokegnbipbjaa
namespace Eng
open Go.RowKit

theorem OE.setCell2 {w F ρ k e ce fe j r r0 fr} (h : OE w F ρ k [e] ce fe) (hj : e.cellsL[j]? = some r0) (h0 : r0.plain = true) (hr : ∀ y, OE w F ρ 1 [r0] [y] [] → OE w F ρ 1 [r] [y] fr) : ∃ fe', OE w F ρ k [e.setCell j r] ce fe' ∧ fe'.Perm (fr ++ fe) := by
  have hw := h.width
  have h1 := h.cellsL
  have hlt : j < e.cellsL.length := (List.getElem?_eq_some_iff.1 hj).1
  obtain ⟨c1, d, c2, f1, fd, f2, rfl, hc1, hd, rfl, h2, h4, h3⟩ := h1.at hj
  match d, hd with
  | [y], _ =>
    have := h4.plain_fp h0
    subst this
    have h5 := hr y h4
    have hl : e.cellsL.set j r = e.cellsL.take j ++ ([r] ++ e.cellsL.drop (j + 1)) := by
      rw [List.set_eq_take_append_cons_drop, if_pos hlt]; rfl
    refine ⟨f1 ++ (fr ++ f2), ?_, ?_⟩
    · have h6 : OE w F ρ 1 (e.cellsL.set j r) (c1 ++ ([y] ++ c2)) (f1 ++ (fr ++ f2)) := by rw [hl]; exact h2.append (h5.append h3)
      cases e with
      | agg l => exact OE.of_cellsL (e := .agg (l.set j r)) (by simpa [RV.cellsL] using h6) (by simpa [RV.width] using hw)
      | _ =>
        simp only [RV.cellsL, List.length_singleton] at hlt
        obtain rfl : j = 0 := by omega
        simp only [RV.width] at hw
        subst hw
        simpa [RV.cellsL, RV.setCell] using h6
    · simp only [List.nil_append]
      exact List.perm_append_comm_assoc _ _ _

theorem oerase_comm (n m : Nat) (O : List Bk) : oerase n (oerase m O) = oerase m (oerase n O) := by
  induction O with
  | nil => rfl
  | cons x O ih =>
    obtain ⟨q, k, e⟩ := x
    by_cases h1 : q = n <;> by_cases h2 : q = m
    · subst h1; subst h2; rfl
    · subst h1; simp [oerase, h2]
    · subst h2; simp [oerase, h1]
    · simp [oerase, h1, h2, ih]
theorem olook_oerase {n m : Nat} (h : n ≠ m) (O : List Bk) : olook n (oerase m O) = olook n O := by
  induction O with
  | nil => rfl
  | cons x O ih =>
    obtain ⟨q, k, e⟩ := x
    by_cases h2 : q = m
    · subst h2; simp [oerase, olook, Ne.symm h]
    · simp [oerase, h2, olook, ih]

theorem le_seal {fr fr' : List RV} {O O' : List Bk} (n i j m : Nat) {k k2 len : Nat} {els els2 : List RV} {e : RV} (ho : olook n O = some (k, els)) (he : els[i]? = some e) (hj : e.cellsL[j]? = some (.ref m 0 len)) (hm : olook m O = some (k2, els2)) (hlen : len = els2.length) (hn : RV.namesL els2 = []) (hne : n ≠ m)
    (e1 : RV.killL m fr = fr') (e2 : oerase m (oset n (els.set i (e.setCell j (.ow k2 els2))) O) = O') : LE ⟨fr, O⟩ ⟨fr', O'⟩ := by
  subst e1; subst e2; subst hlen
  refine ⟨?_⟩
  rintro E a w ⟨F, ρ, fp, hr⟩
  obtain ⟨fp', hO, hp⟩ := hr.O.pull ho
  have hlt : i < els.length := (List.getElem?_eq_some_iff.1 he).1
  have hm' : olook m (oerase n O) = some (k2, els2) := by rw [olook_oerase (Ne.symm hne)]; exact hm
  have key : ∃ fpn, OL w F ρ ((n, k, els.set i (e.setCell j (.ow k2 els2))) :: oerase m (oerase n O)) fpn ∧ fpn.Perm fp' := by
    cases hO with
    | nilb _ _ _ => simp at hlt
    | @cons _ b _ _ ty c cells _ fp1 fp2 hk hρ hρb hb hs hl hmx hc hE hO2 =>
      obtain ⟨c1, ce, c2, f1, fe, f2, hcs, hc1, hce, rfl, hE1, hE2, hE3⟩ := hE.at he
      -- the block goes into the cell
      have h1 := hE2.cellsL
      obtain ⟨d1, d, d2, g1, gd, g2, hds, hd1, hd, hgs, h2, h4, h3⟩ := h1.at hj
      match d, hd with
      | [y], _ =>
        have := h4.plain_fp rfl
        subst this
        obtain ⟨q1, q2, hq1, hq2, hq3⟩ := SealL.cells (.own hm' hn .nil) h4 (by simp [RV.isAgg]) hO2
        obtain ⟨fe', hfe, hperm⟩ := hE2.setCell2 (r := .ow k2 els2) (fr := q1) hj rfl (fun y' hy' => by
          have e1 : y' = y := by
            rcases hy'.single rfl with ⟨h, _⟩ | ⟨_, _, _, _, _, _, _, e, _⟩ | ⟨_, _, _, e, rfl, _⟩ | ⟨_, _, _, e, _⟩ | ⟨_, e, _⟩
            · cases h
            · cases e
            · rcases h4.single rfl with ⟨h, _⟩ | ⟨_, _, _, _, _, _, _, e', _⟩ | ⟨_, _, _, e', rfl, _⟩ | ⟨_, _, _, e', _⟩ | ⟨_, e', _⟩
              · cases h
              · cases e'
              · cases e; cases e'; rfl
              · cases e'
              · cases e'
            · cases e
            · cases e
          rw [e1]; exact hq1)
        have hset : els.set i (e.setCell j (.ow k2 els2)) = els.take i ++ ([e.setCell j (.ow k2 els2)] ++ els.drop (i + 1)) := by
          rw [List.set_eq_take_append_cons_drop, if_pos hlt]; rfl
        have hEn : OE w F ρ k (els.set i (e.setCell j (.ow k2 els2))) cells (f1 ++ (fe' ++ f2)) := by
          rw [hset, hcs]; exact hE1.append (hfe.append hE3)
        refine ⟨_, .cons hk hρ hρb hb hs (by simpa using hl) hmx (by simpa using hc) hEn hq2, ?_⟩
        refine List.Perm.cons _ ?_
        have p1 : (f1 ++ (fe' ++ f2)).Perm (q1 ++ (f1 ++ (fe ++ f2))) := by
          refine ((List.Perm.refl f1).append (hperm.append (List.Perm.refl f2))).trans ?_
          simp only [List.append_assoc]
          exact List.perm_append_comm_assoc _ _ _
        have p2 : (f1 ++ (fe' ++ f2) ++ q2).Perm ((f1 ++ (fe ++ f2)) ++ (q1 ++ q2)) := by
          refine (p1.append (List.Perm.refl q2)).trans ?_
          simp only [List.append_assoc]
          have := List.perm_append_comm_assoc q1 (f1 ++ (fe ++ f2)) q2
          simpa only [List.append_assoc] using this
        exact p2.trans ((List.Perm.refl _).append hq3)
  obtain ⟨fpn, hOn, hpn⟩ := key
  have hcom : oerase n (oerase m (oset n (els.set i (e.setCell j (.ow k2 els2))) O)) = oerase m (oerase n O) := by
    rw [oerase_comm, oerase_oset]
  have hlook : olook n (oerase m (oset n (els.set i (e.setCell j (.ow k2 els2))) O)) = some (k, els.set i (e.setCell j (.ow k2 els2))) := by
    rw [olook_oerase hne]; exact olook_oset ho
  rw [← hcom] at hOn
  obtain ⟨fpz, hOz, hpz⟩ := hOn.push hlook
  have hperm : fpz.Perm fp := hpz.symm.trans (hpn.trans hp.symm)
  refine ⟨F, ρ, fpz, hr.defers, by simpa using hr.size, fun t => ?_, hOz, hperm.nodup_iff.2 hr.nodup, fun b hb => hr.fpF b (hperm.mem_iff.1 hb), fun b hb => hr.fpE b (hperm.mem_iff.1 hb), hr.F0, hr.Fn, hr.Fs, hr.keep, hr.hsize, hr.os, hr.tape, hr.output⟩
  show SV _ _ _ (lget (RV.killL m fr) t) _ _
  rw [lget_killL]
  exact (hr.fr t).kill m fun _ _ => rfl

/-- A slice that is filled in order. -/
def fillL {α : Type} (f : α → RV) (z : RV) (l : List α) (k : Nat) : List RV := (l.take k).map f ++ List.replicate (l.length - k) z
theorem fillL_zero {α : Type} (f : α → RV) (z : RV) (l : List α) : fillL f z l 0 = List.replicate l.length z := by simp [fillL]
theorem fillL_all {α : Type} (f : α → RV) (z : RV) (l : List α) : fillL f z l l.length = l.map f := by simp [fillL]
theorem fillL_all' {α : Type} (f : α → RV) (z : RV) (l : List α) (k : Nat) (h : l.length ≤ k) : fillL f z l k = l.map f := by
  simp [fillL, List.take_of_length_le h, Nat.sub_eq_zero_of_le h]
@[simp] theorem fillL_length {α : Type} (f : α → RV) (z : RV) (l : List α) (k : Nat) : k ≤ l.length → (fillL f z l k).length = l.length := by intro h; simp [fillL]; omega
theorem fillL_at {α : Type} {f : α → RV} {z : RV} {l : List α} {k : Nat} (h : k < l.length) : (fillL f z l k)[k]? = some z := by
  unfold fillL
  rw [List.getElem?_append_right (by simp; omega)]
  simp [List.getElem?_replicate, Nat.min_eq_left (Nat.le_of_lt h)]
  omega
theorem fillL_ne {α : Type} {f : α → RV} {z : RV} {l : List α} {k : Nat} (h : k < l.length) : fillL f z l k ≠ [] := by
  intro e; have := congrArg List.length e; rw [fillL_length _ _ _ _ (by omega), List.length_nil] at this; omega
theorem fillL_set {α : Type} {f : α → RV} {z : RV} {l : List α} {k : Nat} (h : k < l.length) : (fillL f z l k).set k (f l[k]) = fillL f z l (k + 1) := by
  unfold fillL
  rw [List.set_append_right _ _ (by simp; omega)]
  simp only [List.length_map, List.length_take, Nat.min_eq_left (Nat.le_of_lt h), Nat.sub_self]
  rw [show l.length - k = (l.length - (k + 1)) + 1 by omega, List.replicate_succ, List.set_cons_zero, List.take_succ_eq_append_getElem h]
  simp only [List.map_append, List.map_cons, List.map_nil, List.append_assoc, List.cons_append, List.nil_append]
theorem fillL_set2 {α : Type} {f : α → RV} {z r : RV} {l : List α} {k : Nat} (h : k < l.length) : ((fillL f z l k).set k r).set k (f l[k]) = fillL f z l (k + 1) := by rw [List.set_set, fillL_set h]

theorem names_v (x : Value) : (RV.v x).names = [] := id rfl
theorem names_any : RV.any.names = [] := id rfl
theorem names_sh (e : List RV) : (RV.sh e).names = [] := id rfl
theorem names_psh (e : RV) : (RV.psh e).names = [] := id rfl
theorem names_ow (k : Nat) (e : List RV) : (RV.ow k e).names = [] := id rfl
theorem names_ref (n o l : Nat) : (RV.ref n o l).names = [n] := id rfl
theorem names_ptr (n o l : Nat) : (RV.ptr n o l).names = [n] := id rfl
theorem names_agg (l : List RV) : (RV.agg l).names = RV.namesL l := id rfl
theorem names_tup (l : List RV) : (RV.tup l).names = RV.namesL l := id rfl
theorem names_fn (f : Fn) (l : List RV) : (RV.fn f l).names = RV.namesL l := id rfl
theorem namesL_nil : RV.namesL [] = [] := id rfl
theorem namesL_cons (e : RV) (l : List RV) : RV.namesL (e :: l) = e.names ++ RV.namesL l := id rfl
theorem noShL_append (a b : List RV) : RV.noShL (a ++ b) = (RV.noShL a && RV.noShL b) := by
  induction a with
  | nil => simp [RV.noShL]
  | cons x xs ih => simp [RV.noShL, ih, Bool.and_assoc]
theorem noShL_map {α : Type} (f : α → RV) (l : List α) (h : ∀ x, (f x).noSh = true) : RV.noShL (l.map f) = true := by
  induction l with
  | nil => simp [RV.noShL]
  | cons x xs ih => simp [RV.noShL, ih, h]
theorem noSh_v (x : Value) : (RV.v x).noSh = true := id (by simp [RV.noSh])
theorem noSh_ow (k : Nat) (e : List RV) : (RV.ow k e).noSh = RV.noShL e := by simp [RV.noSh]
theorem noSh_agg (e : List RV) : (RV.agg e).noSh = RV.noShL e := by simp [RV.noSh]
theorem namesL_append (a b : List RV) : RV.namesL (a ++ b) = RV.namesL a ++ RV.namesL b := by
  induction a with
  | nil => rfl
  | cons x xs ih => simp [RV.namesL, ih]
theorem namesL_map0 {α : Type} (f : α → RV) (l : List α) (h : ∀ x, (f x).names = []) : RV.namesL (l.map f) = [] := by
  induction l with
  | nil => rfl
  | cons x xs ih => simp [RV.namesL, ih, h]
theorem namesL_rep0 (z : RV) (n : Nat) (h : z.names = []) : RV.namesL (List.replicate n z) = [] := by
  induction n with
  | zero => rfl
  | succ n ih => simp [List.replicate_succ, RV.namesL, ih, h]
theorem namesL_fill0 {α : Type} (f : α → RV) (z : RV) (l : List α) (k : Nat) (h : ∀ x, (f x).names = []) (hz : z.names = []) : RV.namesL (fillL f z l k) = [] := by
  rw [fillL, namesL_append, namesL_map0 f _ h, namesL_rep0 z _ hz]; rfl

theorem fzL_map {α : Type} (f : α → RV) (l : List α) : RV.fzL (l.map f) = l.map fun x => (f x).fz := by rw [fzL_eq, List.map_map]; rfl
theorem fz_v (x : Value) : (RV.v x).fz = .v x := by simp [RV.fz]
theorem fz_sh (l : List RV) : (RV.sh l).fz = .sh l := by simp [RV.fz]
theorem fz_ow (k : Nat) (l : List RV) : (RV.ow k l).fz = .sh (RV.fzL l) := by simp [RV.fz]
theorem fz_agg (l : List RV) : (RV.agg l).fz = .agg (RV.fzL l) := by simp [RV.fz]
theorem take_map_len {α β : Type} (f : α → β) (l : List α) : (l.map f).take l.length = l.map f := by rw [List.take_of_length_le (by simp)]

/-- A named block is let go. -/
theorem le_drop {fr fr' : List RV} {O O' : List Bk} (m : Nat) (e1 : RV.killL m fr = fr') (e2 : oerase m O = O') : LE ⟨fr, O⟩ ⟨fr', O'⟩ := by
  subst e1; subst e2
  refine ⟨?_⟩
  rintro E a w ⟨F, ρ, fp, hr⟩
  have key : ∃ fpn, OL w F ρ (oerase m O) fpn ∧ (∀ b ∈ fpn, b ∈ fp) ∧ fpn.Nodup := by
    cases hl : olook m O with
    | none =>
      have : oerase m O = O := by
        clear hr
        induction O with
        | nil => rfl
        | cons x O ih =>
          obtain ⟨q, k, e⟩ := x
          by_cases hq : q = m
          · simp [olook, hq] at hl
          · simp only [olook, if_neg hq] at hl
            simp only [oerase, if_neg hq, ih hl]
      exact ⟨fp, by rw [this]; exact hr.O, fun _ h => h, hr.nodup⟩
    | some ke =>
      obtain ⟨fp', hO, hp⟩ := hr.O.pull (k := ke.1) (els := ke.2) hl
      obtain ⟨f1, f2, rfl, h2, _⟩ := hO.tail
      exact ⟨f2, h2, fun b hb => hp.mem_iff.2 (by simp [hb]), (List.nodup_append.1 (hp.nodup_iff.1 hr.nodup)).2.1⟩
  obtain ⟨fpn, h1, h2, h3⟩ := key
  refine ⟨F, ρ, fpn, hr.defers, by simpa using hr.size, fun t => ?_, h1, h3, fun b hb => hr.fpF b (h2 b hb), fun b hb => hr.fpE b (h2 b hb), hr.F0, hr.Fn, hr.Fs, hr.keep, hr.hsize, hr.os, hr.tape, hr.output⟩
  show SV _ _ _ (lget (RV.killL m fr) t) _ _
  rw [lget_killL]
  exact (hr.fr t).kill m fun _ _ => rfl

/-- The end, one result: an owned slice; a struct in a cell; a struct in a slot. -/
theorem en_own {P fn s n k els r t e len} (he : e = Exit.ret ∨ e = Exit.normal) (hf : fn.results = #[.tmp t]) (h : lget s.fr t = .ref n 0 len) (ho : olook n s.O = some (k, els)) (hl : len = els.length) (hn : RV.namesL els = []) (hr : RV.ow k els = r) : EN P fn (fun rv O => rv = r ∧ O = []) e s := by
  subst hl
  exact en_of (rs := [.tmp t]) he hf (by simp) (.tmp h rfl .nil) (by intro l1 h; simp at h) (.own ho hn .nil) hr
theorem sealL_own {O n k els rs rs' O' len} (hl : olook n O = some (k, els)) (hlen : len = els.length) (hn : RV.namesL els = []) (h : SealL (oerase n O) rs rs' O') : SealL O (.ref n 0 len :: rs) (.ow k els :: rs') O' := by
  subst hlen; exact .own hl hn h
theorem en_cell {P fn s n k l l' O' r t ty e} (he : e = Exit.ret ∨ e = Exit.normal) (hf : fn.results = #[.cell t ty]) (h : lget s.fr t = .ptr n 0 0) (ho : olook n s.O = some (k, [.agg l])) (hp : l.all RV.plain = true) (ht : aggT P ty = true) (hs : P.cellsOf ty = l.length) (hseal : SealL s.O l l' O') (hr : RV.agg l' = r) : EN P fn (fun rv O => rv = r ∧ O = []) e s := by
  refine en_of (rs := [.cell t ty]) he hf (by simp) (.cell h ho hp ht hs .nil) ?_ (.agg hseal .nil) hr
  intro l1 h1 c hc
  simp only [List.mem_singleton, RV.agg.injEq] at h1
  subst h1
  have := List.all_eq_true.1 hp c hc
  cases c <;> simp [RV.plain, RV.isAgg] at this ⊢
theorem en_agg {P fn s l l' O' r t e} (he : e = Exit.ret ∨ e = Exit.normal) (hf : fn.results = #[.tmp t]) (h : lget s.fr t = .agg l) (hp : l.all RV.plain = true) (hseal : SealL s.O l l' O') (hr : RV.agg l' = r) : EN P fn (fun rv O => rv = r ∧ O = []) e s := by
  refine en_of (rs := [.tmp t]) he hf (by simp) (.tmp h rfl .nil) ?_ (.agg hseal .nil) hr
  intro l1 h1 c hc
  simp only [List.mem_singleton, RV.agg.injEq] at h1
  subst h1
  have := List.all_eq_true.1 hp c hc
  cases c <;> simp [RV.plain, RV.isAgg] at this ⊢

end Eng
end Go.Proofs.Ytpbokegnbipbjaa
