/- The engine: a program logic over symbolic values. Part Ec. No condition. -/
import Derived.ProofKit
import Derived.Carry
import Derived.Below
import Derived.Deep.Slices
import Derived.Test.YtmfbcipjknjicaaGreatDoorEb

/- The engine, part U: a goal's first operation told by its kind, so that a walk tries only the steps of that kind. No condition. Printed by wip/bin/genat.py. -/
namespace Go.Proofs.YtmfbcipjknjicaaGreatDoor
set_option linter.unusedSectionVars false
variable [One Bool]
namespace Eng
section
variable {P : Program} {ops : Array Oper} {RO eff : Nat → Bool} {ALL : List Nat} {news : List (List Nat)} {k : Nat} {rest : List Oper} {R : St → Prop} {s : St} {d : Option Tmp} {op : Op} {ty : TypeId} {pos : String} {after : Array Edge} {g : Option (Nat × Bool)} {j : Nat} {want : Bool}

theorem l_g (h : L P ops (⟨d, op, ty, pos, after, some (j, want)⟩ :: rest) R s) : L P ops (⟨d, op, ty, pos, after, some (j, want)⟩ :: rest) R s := h
theorem d_g (h : D P ops RO eff ALL news k (⟨d, op, ty, pos, after, some (j, want)⟩ :: rest) R s) : D P ops RO eff ALL news k (⟨d, op, ty, pos, after, some (j, want)⟩ :: rest) R s := h
end
end Eng
end Go.Proofs.YtmfbcipjknjicaaGreatDoor

/- The engine, part V: what a row's arguments read, seen as symbolic values; a law that answers true and leaves its arguments as they read. No condition. -/
namespace Go.Proofs.YtmfbcipjknjicaaGreatDoor
set_option linter.unusedSectionVars false
variable [One Bool]
namespace Eng
open Go.ChangeShapes Go.WideShapes Go.ChangeAt Go.RowKit

def old (W : World) : Nat → Prop := fun b => b < W.heap.size

def Reads (P : Program) (t : TypeId) {α : Type} (k : Nat) (f : α → RV) (Q : α → Prop) : Prop :=
  ∀ {H : Type} (enc : TypeId × Value → H) (W : World) (sp : Nat → Bool) (fuel : Nat) (cs : List Value) (x : DataW H × List MemPlace), DataW.trod enc P W 0 sp true fuel t cs = some x → ∃ y, FE W (old W) k [f y] cs ∧ Q y

theorem reads_slice {P : Program} {t e : TypeId} {α : Type} {k : Nat} {f : α → RV} {Q : α → Prop} (ht : P.underlying t = some (.slice e)) (hk : P.cellsOf e = k) (h0 : 0 < k) (he : Reads P e k f Q) :
    Reads P t 1 (fun l : List α => .sh (l.map f)) (fun l => l.length ≤ maxLen ∧ ∀ x ∈ l, Q x) := by
  intro H enc W sp fuel cs x h
  rcases Deep.open_slice ht h with ⟨rfl, _⟩ | ⟨a, len, cap, m, n, Dd, Pl, rfl, hb, hl, hm, hmm, _, hx⟩
  · exact ⟨[], .shnil none 0 (.nil _), by simp [maxLen], by simp⟩
  · rw [hk] at hx
    have hlm : len ≤ m := by rw [hmm]; split <;> omega
    have key : ∀ q, q ≤ len → ∃ (l : List α) (cells : List Value), l.length = q ∧ cells.length = q * k ∧ CellsAt W a cells ∧ FE W (old W) k (l.map f) cells ∧ ∀ x ∈ l, Q x := by
      intro q
      induction q with
      | zero => intro _; exact ⟨[], [], rfl, by simp, by intro j x hj; simp at hj, .nil _, by simp⟩
      | succ q ih =>
        intro hq
        obtain ⟨l, cells, h1, h2, h3, h4, h5⟩ := ih (by omega)
        obtain ⟨cs', hc, hd⟩ := hx q (by omega)
        obtain ⟨y, hy, hQ⟩ := he enc W sp n cs' _ hd
        obtain ⟨_, hcl, hce⟩ := World.cells?_some hc
        refine ⟨l ++ [y], cells ++ cs', by simp [h1], by simp [h2, hcl, Nat.add_mul], ?_, ?_, ?_⟩
        · intro j x hj
          by_cases hjl : j < cells.length
          · rw [List.getElem?_append_left hjl] at hj
            exact h3 j x hj
          · rw [List.getElem?_append_right (by omega)] at hj
            have hj2 : j - cells.length < k := by
              have := (List.getElem?_eq_some_iff.1 hj).1; omega
            have := hce (j - cells.length) hj2
            rw [Addr.add_add, show q * k + (j - cells.length) = j by omega, hj] at this
            exact this
        · rw [List.map_append]
          exact h4.append hy
        · intro x hx
          rcases List.mem_append.1 hx with hx | hx
          · exact h5 x hx
          · simp at hx; subst hx; exact hQ
    obtain ⟨l, cells, h1, h2, h3, h4, h5⟩ := key len (Nat.le_refl _)
    refine ⟨l, ?_, by omega, h5⟩
    by_cases hlen : len = 0
    · subst hlen
      have : l = [] := List.eq_nil_of_length_eq_zero h1
      subst this
      exact .shnil (some a) cap (.nil _)
    · have hblk : old W a.block := by
        have hc0 : 0 < cells.length := by rw [h2]; exact Nat.mul_pos (by omega) h0
        have := h3 0 _ (List.getElem?_eq_getElem hc0)
        have e : a.add 0 = a := by simp [Addr.add]
        rw [e] at this
        unfold old
        by_cases hlt : a.block < W.heap.size
        · exact hlt
        · have hn : W.heap[a.block]? = none := by simp; omega
          simp [World.cell?, hn] at this
      have := FE.sh (w := W) (F := old W) a cap k h0 hblk ⟨by simp [h1]; omega, by simp [h1]; omega⟩ h3 h4 (.nil 1)
      simpa [h1] using this

theorem s1_cell {W : World} {F : Nat → Prop} {ρ : Places} {v : Value} {r : RV} (hr : r.isAgg = false) (hv : v.cells = #[v]) (h : FE W F 1 [r] v.cells.toList) : S1 W F ρ r v [] := by
  rw [hv] at h
  exact .cell hr (OE.of_FE h)
def rowTys (P : Program) (ts : List TypeId) : Bool := ts.all fun t => P.readableRec t && decide (t < P.types.size)
theorem trodAll_below {H : Type} {enc : TypeId × Value → H} {P : Program} (hl : laidOutB P = true) {W W' : World} (hb : Below W.heap.size W W') : ∀ {ts : List TypeId} {vs : List Value} {ds : List (DataW H)} {ps : List MemPlace}, rowTys P ts = true → DataW.TrodAll enc P W 0 (fun _ => true) true ts vs ds ps → (∀ x ∈ ps, x.block < W.heap.size) →
    DataW.TrodAll enc P W' 0 (fun b => decide (b < W.heap.size)) true ts vs ds ps
  | [], [], [], _, _, h, _ => h
  | t :: ts, v :: vs, d :: ds, ps, hr, ⟨p, q, h1, h2, e⟩, hlt => by
    simp only [rowTys, List.all_cons, Bool.and_eq_true, decide_eq_true_eq] at hr
    subst e
    exact ⟨p, q, Below.trod hl hr.1.1 hr.1.2 h1 hb (fun x hx => hlt x (by simp [hx])), trodAll_below hl hb hr.2 h2 (fun x hx => hlt x (by simp [hx])), rfl⟩

end Eng
end Go.Proofs.YtmfbcipjknjicaaGreatDoor

/- The engine, part W: the rewriting rules of walks, each set under one name. No condition. -/
namespace Go.Proofs.YtmfbcipjknjicaaGreatDoor
set_option linter.unusedSectionVars false
variable [One Bool]
namespace Eng

theorem nz : (∀ n : Nat, 0 + n = n) ∧ (∀ n : Nat, n + 0 = n) ∧
    (∀ r fr, sput none r fr = fr) ∧ (∀ d r fr, sput (some d) r fr = lset fr d r) ∧
    (∀ x xs r, lset (x :: xs) 0 r = r :: xs) ∧ (∀ x xs n r, lset (x :: xs) (n + 1) r = x :: lset xs n r) ∧
    (∀ x xs, lget (x :: xs) 0 = x) ∧ (∀ x xs n, lget (x :: xs) (n + 1) = lget xs n) ∧
    (∀ (s : St) t, s.get (.tmp t) = lget s.fr t) ∧ (∀ (s : St) x, s.get (.const x) = .v x) ∧ (∀ (s : St) f, s.get (.func f) = .v (.func (.func f) #[] #[])) ∧ (∀ (s : St) g, s.get (.global g) = .any) ∧
    (∀ l j r, (RV.agg l).setCell j r = .agg (l.set j r)) ∧ (∀ x j r, (RV.v x).setCell j r = r) ∧ (∀ j r, RV.any.setCell j r = r) ∧ (∀ l j r, (RV.sh l).setCell j r = r) ∧ (∀ k l j r, (RV.ow k l).setCell j r = r) ∧ (∀ a b c j r, (RV.ref a b c).setCell j r = r) ∧ (∀ a b c j r, (RV.ptr a b c).setCell j r = r) ∧ (∀ e j r, (RV.psh e).setCell j r = r) ∧
    (∀ (x y : RV) l, (x :: l).set 0 y = y :: l) ∧ (∀ (x y : RV) l n, (x :: l).set (n + 1) y = x :: l.set n y) ∧
    (∀ n (els : List RV), oset n els [] = []) ∧ (∀ n m k e els O, oset n els ((m, k, e) :: O) = if m = n then (m, k, els) :: O else (m, k, e) :: oset n els O) ∧
    (∀ n, oerase n [] = []) ∧ (∀ n m k e O, oerase n ((m, k, e) :: O) = if m = n then O else (m, k, e) :: oerase n O) ∧
    (∀ n, RV.killL n [] = []) ∧ (∀ n e es, RV.killL n (e :: es) = e.kill n :: RV.killL n es) ∧
    (∀ n m a b, (RV.ref m a b).kill n = if m = n then .any else .ref m a b) ∧ (∀ n m a b, (RV.ptr m a b).kill n = if m = n then .any else .ptr m a b) ∧ (∀ n l, (RV.agg l).kill n = .agg (RV.killL n l)) ∧ (∀ n l, (RV.tup l).kill n = .tup (RV.killL n l)) ∧ (∀ n f l, (RV.fn f l).kill n = .fn f (RV.killL n l)) ∧
    (∀ n x, (RV.v x).kill n = .v x) ∧ (∀ n, RV.any.kill n = .any) ∧ (∀ n l, (RV.sh l).kill n = .sh l) ∧ (∀ n k l, (RV.ow k l).kill n = .ow k l) ∧ (∀ n e, (RV.psh e).kill n = .psh e) ∧
    (∀ n x, openR n (.v x) = (.v x, [])) ∧ (∀ n, openR n .any = (.any, [])) ∧ (∀ n k l, openR n (.ow k l) = (.ref n 0 l.length, [(n, k, l)])) ∧ (∀ n a b c, openR n (.ref a b c) = (.ref a b c, [])) ∧ (∀ n a b c, openR n (.ptr a b c) = (.ptr a b c, [])) ∧ (∀ n l, openR n (.sh l) = (.sh l, [])) ∧ (∀ n e, openR n (.psh e) = (.psh e, [])) ∧
    (∀ n l, openR n (.agg l) = (.agg (openL n 1000 l).1, (openL n 1000 l).2)) ∧ (∀ n l, openR n (.tup l) = (.tup (openT n l).1, (openT n l).2)) ∧
    (∀ n s, openL n s [] = ([], [])) ∧ (∀ n s r rs, openL n s (r :: rs) = ((openC (n + s) r).1 :: (openL (n + s) s rs).1, (openC (n + s) r).2 ++ (openL (n + s) s rs).2)) ∧
    (∀ n, openT n [] = ([], [])) ∧ (∀ n r rs, openT n (r :: rs) = ((open1 (n + 1000) 100000000 r).1 :: (openT (n + 1000) rs).1, (open1 (n + 1000) 100000000 r).2 ++ (openT (n + 1000) rs).2)) ∧
    (∀ n x, openC n (.v x) = (.v x, [])) ∧ (∀ n, openC n .any = (.any, [])) ∧ (∀ n k l, openC n (.ow k l) = (.ref n 0 l.length, [(n, k, l)])) ∧ (∀ n a b c, openC n (.ref a b c) = (.ref a b c, [])) ∧ (∀ n a b c, openC n (.ptr a b c) = (.ptr a b c, [])) ∧ (∀ n l, openC n (.sh l) = (.sh l, [])) ∧ (∀ n e, openC n (.psh e) = (.psh e, [])) ∧
    (∀ n s x, open1 n s (.v x) = (.v x, [])) ∧ (∀ n s, open1 n s .any = (.any, [])) ∧ (∀ n s k l, open1 n s (.ow k l) = (.ref n 0 l.length, [(n, k, l)])) ∧ (∀ n s l, open1 n s (.sh l) = (.sh l, [])) ∧ (∀ n s l, open1 n s (.agg l) = (.agg (openL n s l).1, (openL n s l).2)) ∧
    (∀ {α β : Type} (f : α → β), [].map f = []) ∧ (∀ {α β : Type} (f : α → β) (x : α) (l : List α), (x :: l).map f = f x :: l.map f) ∧ (∀ {α β : Type} (f : α → β) (l : List α), (l.map f).length = l.length) ∧
    (∀ {α : Type} (a b : α) (h : Decidable True), @ite α True h a b = a) ∧ (∀ {α : Type} (a b : α) (h : Decidable False), @ite α False h a b = b) ∧ (∀ l : List Bk, [] ++ l = l) ∧ (∀ l : List Bk, l ++ [] = l) ∧ (∀ (x : Bk) l m, (x :: l) ++ m = x :: (l ++ m)) := by
  refine ⟨Nat.zero_add, Nat.add_zero, ?_⟩
  repeat' first | exact fun {α β} f l => List.length_map f | exact fun l => List.append_nil l | exact fun a b h => if_pos trivial | exact fun a b h => if_neg not_false | refine ⟨?_, ?_⟩ | (intros; first | rfl | simp only [RV.killL, RV.kill])

theorem nm : (∀ x, (RV.v x).names = []) ∧ RV.any.names = [] ∧ (∀ e, (RV.sh e).names = []) ∧ (∀ e, (RV.psh e).names = []) ∧ (∀ k e, (RV.ow k e).names = []) ∧ (∀ n o l, (RV.ref n o l).names = [n]) ∧ (∀ n o l, (RV.ptr n o l).names = [n]) ∧ (∀ l, (RV.agg l).names = RV.namesL l) ∧ (∀ l, (RV.tup l).names = RV.namesL l) ∧ (∀ f l, (RV.fn f l).names = RV.namesL l) ∧
    RV.namesL [] = [] ∧ (∀ e l, RV.namesL (e :: l) = e.names ++ RV.namesL l) ∧ (∀ a b, RV.namesL (a ++ b) = RV.namesL a ++ RV.namesL b) ∧
    (∀ {α : Type} (f : α → RV) (l : List α), (∀ x, (f x).names = []) → RV.namesL (l.map f) = []) ∧ (∀ {α : Type} (f : α → RV) (z : RV) (l : List α) (k : Nat), (∀ x, (f x).names = []) → z.names = [] → RV.namesL (fillL f z l k) = []) ∧ (∀ (z : RV) (n : Nat), z.names = [] → RV.namesL (List.replicate n z) = []) ∧
    onames [] = [] ∧ (∀ m k e O, onames ((m, k, e) :: O) = m :: (RV.namesL e ++ onames O)) ∧ bnames [] = [] ∧ (∀ b O, bnames (b :: O) = b.1 :: bnames O) :=
  ⟨names_v, names_any, names_sh, names_psh, names_ow, names_ref, names_ptr, names_agg, names_tup, names_fn, namesL_nil, namesL_cons, namesL_append, fun f l h => namesL_map0 f l h, fun f z l k h hz => namesL_fill0 f z l k h hz, namesL_rep0, rfl, fun _ _ _ _ => rfl, rfl, fun _ _ => rfl⟩

theorem ns : (∀ x, (RV.v x).noSh = true) ∧ (∀ k e, (RV.ow k e).noSh = RV.noShL e) ∧ (∀ e, (RV.agg e).noSh = RV.noShL e) ∧ (∀ e, (RV.tup e).noSh = RV.noShL e) ∧ RV.noShL [] = true ∧ (∀ e es, RV.noShL (e :: es) = (e.noSh && RV.noShL es)) ∧ (∀ a b, RV.noShL (a ++ b) = (RV.noShL a && RV.noShL b)) ∧
    (∀ {α : Type} (f : α → RV) (l : List α), (∀ x, (f x).noSh = true) → RV.noShL (l.map f) = true) :=
  ⟨noSh_v, noSh_ow, noSh_agg, fun _ => by simp [RV.noSh], by simp [RV.noShL], fun _ _ => by simp [RV.noShL], noShL_append, fun f l h => noShL_map f l h⟩

theorem nv : (∀ (O : List Bk) r l, view1 O (.agg (r :: l)) = .agg (viewC O r :: l.map (viewC O))) ∧ (∀ {α : Type} (f : α → RV) (l : List α), RV.fzL (l.map f) = l.map fun x => (f x).fz) ∧ (∀ x, (RV.v x).fz = .v x) ∧ (∀ l, (RV.sh l).fz = .sh l) ∧ (∀ k l, (RV.ow k l).fz = .sh (RV.fzL l)) ∧ (∀ l, (RV.agg l).fz = .agg (RV.fzL l)) ∧ RV.fzL [] = [] ∧ (∀ e es, RV.fzL (e :: es) = e.fz :: RV.fzL es) ∧ (∀ {α β : Type} (f : α → β) (l : List α), (l.map f).take l.length = l.map f) :=
  ⟨fun _ _ _ => rfl, fun f l => fzL_map f l, fz_v, fz_sh, fz_ow, fz_agg, by simp [RV.fzL], fun _ _ => by simp [RV.fzL], fun f l => take_map_len f l⟩

end Eng
end Go.Proofs.YtmfbcipjknjicaaGreatDoor

/- The engine, part X: a slice within a named block gets a name of its own. No condition. -/
namespace Go.Proofs.YtmfbcipjknjicaaGreatDoor
set_option linter.unusedSectionVars false
variable [One Bool]
namespace Eng
open Go.RowKit

theorem OL.split {w F ρ} : ∀ {A B : List Bk} {fp : List Nat}, OL w F ρ (A ++ B) fp → ∃ fA fB, OL w F ρ B fB ∧ fp = fA ++ fB
  | [], B, fp, h => ⟨[], fp, h, rfl⟩
  | x :: A, B, fp, h => by
    obtain ⟨f1, f2, rfl, h2, _⟩ := OL.tail (x := x) (O := A ++ B) h
    obtain ⟨fA, fB, h3, rfl⟩ := OL.split h2
    exact ⟨f1 ++ fA, fB, h3, by simp⟩

theorem ends_m {P fn s rs cs cs' junk Oout r e} (he : e = Exit.ret ∨ e = Exit.normal) (hf : fn.results = rs.toArray) (h4 : rs.length ≤ 4) (h : ResL P s rs cs) (hag : ∀ l1, .agg l1 ∈ cs → ∀ r ∈ l1, r.isAgg = false) (hs : SealL s.O cs cs' (junk ++ Oout)) (hr : packR cs' = r) :
    EN P fn (fun rv O => rv = r ∧ O = Oout) e s := by
  have main : ∀ E a w, Rel E s a w → ∃ v rv Oo F ρ fp1 fp2, (results fn a.tmps).run P w = .ok v w ∧ (rv = r ∧ Oo = Oout) ∧ SV w F ρ rv v fp1 ∧ OL w F ρ Oo fp2 ∧ (fp1 ++ fp2).Nodup ∧
      (∀ b ∈ fp1 ++ fp2, ¬ F b ∧ (E.B0 b ∨ E.w0.heap.size ≤ b)) ∧ (∀ b, E.F0 b → F b) ∧ (∀ b, F b → (E.F0 b ∨ E.B0 b ∨ E.w0.heap.size ≤ b) ∧ b < w.heap.size) ∧ ∀ n, 1000000000000 ≤ n → ρ n = E.ρ0 n := by
    rintro E a w ⟨F, ρ, fp, hrel⟩
    obtain ⟨ys, h1, h2, h3⟩ := h.run hrel
    obtain ⟨fp1, fp2, h5, h6, h7⟩ := hs.all h2 hag hrel.O
    obtain ⟨fA, fB, h8, rfl⟩ := h6.split
    have hnd := h7.nodup_iff.2 hrel.nodup
    have hsub : (fp1 ++ fB).Sublist (fp1 ++ (fA ++ fB)) := (List.Sublist.refl _).append (List.sublist_append_right _ _)
    refine ⟨_, r, Oout, F, ρ, fp1, fB, run_results hf h1 h3 h4, ⟨rfl, rfl⟩, ?_, h8, hnd.sublist hsub, ?_, hrel.F0, fun b hb => ⟨hrel.Fn b hb, hrel.Fs b hb⟩, hrel.pin⟩
    · have hlen := h5.length
      subst hr
      match cs', ys, h5, hlen with
      | [c], [y], h5, _ =>
        cases h5 with
        | cons h8 h9 => cases h9; rw [List.append_nil]; exact .one h8
      | [], [], h5, _ => exact .tup (c := #[]) (by simpa using h5)
      | _ :: _ :: _, _ :: _ :: _, h5, _ => exact .tup (by simpa using h5)
    · intro b hb
      have hm : b ∈ fp := h7.mem_iff.1 (hsub.subset hb)
      exact ⟨hrel.fpF b hm, hrel.fpE b hm⟩
  refine ⟨?_⟩
  rcases he with rfl | rfl <;> exact main
theorem en_m {P fn s junk Oout r e t} (he : e = Exit.ret ∨ e = Exit.normal) (hf : fn.results = #[.tmp t]) (hn : r.notTup = true) (ha : r.isAgg = false) (h : lget s.fr t = r) (hO : s.O = junk ++ Oout) : EN P fn (fun rv O => rv = r ∧ O = Oout) e s := by
  refine ends_m (rs := [.tmp t]) (cs := [r]) (cs' := [r]) (junk := junk) he hf (by simp) (.tmp h hn .nil) ?_ (.keep (by rw [hO]; exact .nil)) rfl
  intro l hl; simp at hl; subst hl; simp [RV.isAgg] at ha

end Eng
end Go.Proofs.YtmfbcipjknjicaaGreatDoor

/- The engine, part Y: calls that are handed named blocks to write. No condition. -/
namespace Go.Proofs.YtmfbcipjknjicaaGreatDoor
set_option linter.unusedSectionVars false
variable [One Bool]
namespace Eng
open Go.RowKit

def mpos (n : Nat) : List Bk → Option Nat
  | [] => none
  | b :: M => if b.1 = n then some 0 else (mpos n M).map (· + 1)
theorem mpos_some {n i : Nat} : ∀ {M : List Bk}, mpos n M = some i → ∃ b, M[i]? = some b ∧ b.1 = n
  | [], h => by simp [mpos] at h
  | b :: M, h => by
    simp only [mpos] at h
    split at h
    · rename_i hb; simp at h; subst h; exact ⟨b, rfl, hb⟩
    · cases hm : mpos n M with
      | none => simp [hm] at h
      | some j =>
        simp [hm] at h; subst h
        obtain ⟨b', h1, h2⟩ := mpos_some hm
        exact ⟨b', by simpa using h1, h2⟩
def pinρ (ρ : Places) (M : List Bk) : Places := fun x => if 1000000000000 ≤ x then (match M[x - 1000000000000]? with | some b => ρ b.1 | none => ρ x) else ρ x
theorem pinρ_at {ρ : Places} {M : List Bk} {i : Nat} {b : Bk} (h : M[i]? = some b) : pinρ ρ M (1000000000000 + i) = ρ b.1 := by
  simp [pinρ, h]
theorem OL.split2 {w F ρ} : ∀ {A B : List Bk} {fp : List Nat}, OL w F ρ (A ++ B) fp → ∃ fA fB, OL w F ρ A fA ∧ OL w F ρ B fB ∧ fp = fA ++ fB
  | [], B, fp, h => ⟨[], fp, .nil h.gok, h, rfl⟩
  | x :: A, B, fp, h => by
    obtain ⟨f1, f2, rfl, h2, hc⟩ := OL.tail (x := x) (O := A ++ B) h
    obtain ⟨fA, fB, h3, h4, rfl⟩ := OL.split2 h2
    exact ⟨f1 ++ fA, fB, hc _ _ h3, h4, by simp⟩
theorem OL.join {w F ρ} : ∀ {A B : List Bk} {fA fB : List Nat}, OL w F ρ A fA → OL w F ρ B fB → OL w F ρ (A ++ B) (fA ++ fB)
  | [], B, fA, fB, h, h2 => by cases h; exact h2
  | x :: A, B, fA, fB, h, h2 => by
    obtain ⟨f1, f2, rfl, h3, hc⟩ := h.tail
    have := hc _ _ (OL.join h3 h2)
    simpa using this
section
variable {P : Program} {s : St} {d : Tmp} {ty : TypeId} {pos : String} {after : Array Edge} {g : Option (Nat × Bool)}
end

end Eng
end Go.Proofs.YtmfbcipjknjicaaGreatDoor

/- The engine, part Z: calls that are handed one named block, two. No condition. -/
namespace Go.Proofs.YtmfbcipjknjicaaGreatDoor
set_option linter.unusedSectionVars false
variable [One Bool]
namespace Eng
open Go.RowKit

def Shuf (O O' : List Bk) : Prop := ∀ (w : World) (F : Nat → Prop) (ρ : Places) (fp : List Nat), OL w F ρ O fp → ∃ fp', OL w F ρ O' fp' ∧ fp.Perm fp'
theorem Shuf.le {fr O O'} (h : Shuf O O') : Le ⟨fr, O⟩ ⟨fr, O'⟩ := by
  rintro E a w ⟨F, ρ, fp, hr⟩
  obtain ⟨fp', h1, h2⟩ := h w F ρ fp hr.O
  exact ⟨F, ρ, fp', hr.perm h1 h2⟩
theorem Shuf.app {O O'} (A : List Bk) (h : Shuf O O') : Shuf (A ++ O) (A ++ O') := by
  intro w F ρ fp hO
  obtain ⟨fA, fB, h1, h2, rfl⟩ := hO.split2
  obtain ⟨fp', h3, h4⟩ := h w F ρ fB h2
  exact ⟨fA ++ fp', h1.join h3, (List.Perm.refl fA).append h4⟩
theorem Shuf.trans {A B C} (h : Shuf A B) (k : Shuf B C) : Shuf A C := by
  intro w F ρ fp hO
  obtain ⟨f1, h1, h2⟩ := h w F ρ fp hO
  obtain ⟨f2, h3, h4⟩ := k w F ρ f1 h1
  exact ⟨f2, h3, h2.trans h4⟩
theorem shuf_back {n k els els' O} (ho : olook n O = some (k, els)) : Shuf ((n, k, els') :: oerase n O) (oset n els' O) := by
  intro w F ρ fp h
  rw [← oerase_oset n els' O] at h
  exact h.push (olook_oset ho)
theorem OpS.shuf {P o s s' O1 O2} (h1 : Le s s') (h : OpS P o s' ⟨O1, O2⟩) {O3} (h2 : Shuf O2 O3) : OpS P o s ⟨O1, O3⟩ := by
  intro E a w hr K Q hK
  exact h E a w (h1 E a w hr) K Q fun a' w' hr' => hK a' w' (h2.le E a' w' hr')

section
variable {P : Program} {s : St} {d : Tmp} {ty : TypeId} {pos : String} {after : Array Edge} {g : Option (Nat × Bool)}
theorem olook_oset_ne {n m : Nat} (h : n ≠ m) (els : List RV) (O : List Bk) : olook n (oset m els O) = olook n O := by
  induction O with
  | nil => rfl
  | cons x O ih =>
    obtain ⟨q, k, e⟩ := x
    by_cases h1 : q = m
    · subst h1
      have : ¬ q = n := fun e => h e.symm
      simp [oset, olook, this]
    · by_cases h2 : q = n
      · subst h2; simp [oset, olook, h1]
      · simp [oset, olook, h1, h2, ih]
end
end Eng
end Go.Proofs.YtmfbcipjknjicaaGreatDoor

/- The engine, part Fa: named blocks frozen for good; calls whose results are frozen at once. No condition. -/
namespace Go.Proofs.YtmfbcipjknjicaaGreatDoor
set_option linter.unusedSectionVars false
variable [One Bool]
namespace Eng
open Go.RowKit

mutual
def RV.frz (B : Bk) : RV → RV
  | .ref m a b => if m = B.1 then viewC [B] (.ref m a b) else .ref m a b
  | .ptr m a b => if m = B.1 then viewC [B] (.ptr m a b) else .ptr m a b
  | .agg l => .agg (RV.frzL B l)
  | .fn f l => .fn f (RV.frzL B l)
  | .tup l => .tup (RV.frzL B l)
  | .v x => .v x
  | .any => .any
  | .sh l => .sh l
  | .ow k l => .ow k l
  | .psh e => .psh e
def RV.frzL (B : Bk) : List RV → List RV
  | [] => []
  | e :: es => e.frz B :: RV.frzL B es
end

theorem viewC_notAgg (O : List Bk) (r : RV) (h : r.isAgg = false) : (viewC O r).isAgg = false := by
  cases r with
  | agg => cases h
  | ref n o l => simp only [viewC]; split <;> (try split) <;> rfl
  | ptr n i j => simp only [viewC]; split <;> (try split) <;> (try split) <;> (try split) <;> rfl
  | _ => rfl
theorem RV.frz_notAgg (B : Bk) (r : RV) (h : r.isAgg = false) : (r.frz B).isAgg = false := by
  cases r with
  | agg => cases h
  | ref => simp only [RV.frz]; split; exact viewC_notAgg _ _ rfl; rfl
  | ptr => simp only [RV.frz]; split; exact viewC_notAgg _ _ rfl; rfl
  | _ => simp [RV.frz, RV.isAgg]

theorem FE.frzL {w F k es cs} (B : Bk) (h : FE w F k es cs) : RV.frzL B es = es := by
  induction h with
  | nil => simp [RV.frzL]
  | v _ _ _ ih => simp [RV.frzL, RV.frz, ih]
  | any _ _ _ ih => simp [RV.frzL, RV.frz, ih]
  | shnil _ _ _ ih => simp [RV.frzL, RV.frz, ih]
  | sh _ _ _ _ _ _ _ _ _ _ ih => simp [RV.frzL, RV.frz, ih]
  | psh _ _ _ _ _ _ _ _ ih => simp [RV.frzL, RV.frz, ih]
  | agg _ _ _ ih1 ih2 => simp [RV.frzL, RV.frz, ih1, ih2]

theorem OE.frz {w F ρ B fpB k es cs fp} (hO : OL w F ρ [B] fpB) (h : OE w F ρ k es cs fp) : OE w (fun b => F b ∨ b ∈ fpB) ρ k (RV.frzL B es) cs fp := by
  induction h with
  | nil => exact .nil _ _
  | @fz ρ k e c es cs fp h1 _ ih =>
    have e1 := h1.frzL B
    simp only [RV.frzL, List.cons.injEq, and_true] at e1 ⊢
    rw [e1]
    exact .fz (h1.mono fun b hb => ⟨.inl hb, rfl⟩) (ih hO)
  | ow b cap ty c hk hb hs hl hm hc hnn h1 _ _ ih2 =>
    simp only [RV.frzL, RV.frz]
    exact .ow b cap ty c hk hb hs hl hm hc hnn (h1.mono (fun b hb => ⟨.inl hb, rfl⟩) (fun _ _ => rfl)) (ih2 hO)
  | ownil k hk _ ih => simp only [RV.frzL, RV.frz]; exact .ownil k hk (ih hO)
  | ref n off len hr _ ih =>
    simp only [RV.frzL, RV.frz]
    split
    · exact OE.fz (c := [_]) (viewC_ok hO (.ref n off len hr (.nil _ _)) rfl (by simp)) (ih hO)
    · exact .ref n off len hr (ih hO)
  | ptr n i j hr _ ih =>
    simp only [RV.frzL, RV.frz]
    split
    · exact OE.fz (c := [_]) (viewC_ok hO (.ptr n i j hr (.nil _ _)) rfl (by simp)) (ih hO)
    · exact .ptr n i j hr (ih hO)
  | agg _ hk _ ih1 ih2 => simp only [RV.frzL, RV.frz]; exact .agg (ih1 hO) hk (ih2 hO)
  | fn f _ _ ih1 ih2 => simp only [RV.frzL, RV.frz]; exact .fn f (ih1 hO) (ih2 hO)

theorem S1.frz {w F ρ B fpB e y fp} (hO : OL w F ρ [B] fpB) (h : S1 w F ρ e y fp) : S1 w (fun b => F b ∨ b ∈ fpB) ρ (e.frz B) y fp := by
  cases h with
  | any => simp only [RV.frz]; exact .any _
  | v => simp only [RV.frz]; exact .v _
  | cell ha h => exact .cell (RV.frz_notAgg B e ha) (by simpa [RV.frzL] using h.frz hO)
  | agg h => simp only [RV.frz]; exact .agg (h.frz hO)
  | fn h => simp only [RV.frz]; exact .fn (h.frz hO)
theorem SL.frz {w F ρ B fpB es ys fp} (hO : OL w F ρ [B] fpB) (h : SL w F ρ es ys fp) : SL w (fun b => F b ∨ b ∈ fpB) ρ (RV.frzL B es) ys fp := by
  induction h with
  | nil => exact .nil
  | cons h1 _ ih => simp only [RV.frzL]; exact .cons (h1.frz hO) ih
theorem SV.frz {w F ρ B fpB e y fp} (hO : OL w F ρ [B] fpB) (h : SV w F ρ e y fp) : SV w (fun b => F b ∨ b ∈ fpB) ρ (e.frz B) y fp := by
  cases h with
  | one h => exact .one (h.frz hO)
  | tup h => simp only [RV.frz]; exact .tup (h.frz hO)
theorem lget_frzL (B : Bk) (l : List RV) (m : Nat) : lget (RV.frzL B l) m = (lget l m).frz B := by
  induction l generalizing m with
  | nil => simp [RV.frzL, lget, RV.frz]
  | cons x xs ih => cases m <;> simp [RV.frzL, lget, ih]
@[simp] theorem length_frzL (B : Bk) (l : List RV) : (RV.frzL B l).length = l.length := by
  induction l with
  | nil => simp [RV.frzL]
  | cons x xs ih => simp [RV.frzL, ih]

theorem le_freeze {fr fr' : List RV} {O O' : List Bk} (n : Nat) {k : Nat} {els : List RV} (ho : olook n O = some (k, els)) (e1 : RV.frzL (n, k, els) fr = fr') (e2 : oerase n O = O') : LE ⟨fr, O⟩ ⟨fr', O'⟩ := by
  subst e1; subst e2
  refine ⟨?_⟩
  rintro E a w ⟨F, ρ, fp, hr⟩
  obtain ⟨fp', h⟩ := hr.front ho
  obtain ⟨fB, fR, hB, hR, rfl⟩ := OL.split2 (A := [(n, k, els)]) (B := oerase n O) h.O
  have hnd := List.nodup_append.1 h.nodup
  refine ⟨fun b => F b ∨ b ∈ fB, ρ, fR, h.defers, by simpa using h.size, fun i => ?_, h.O |> fun _ => hR.mono (fun b hb => ⟨.inl hb, rfl⟩) (fun _ _ => rfl), hnd.2.1, ?_, fun b hb => h.fpE b (by simp [hb]), fun b hb => .inl (h.F0 b hb), ?_, ?_, h.keep, h.hsize, h.os, h.tape, h.output, h.pin⟩
  · show SV w _ ρ (lget (RV.frzL (n, k, els) fr) i) _ []
    rw [lget_frzL]
    exact (h.fr i).frz hB
  · intro b hb hx
    rcases hx with hx | hx
    · exact h.fpF b (by simp [hb]) hx
    · exact hnd.2.2 b hx b hb rfl
  · intro b hb
    rcases hb with hb | hb
    · exact h.Fn b hb
    · exact .inr (h.fpE b (by simp [hb]))
  · intro b hb
    rcases hb with hb | hb
    · exact h.Fs b hb
    · exact hB.lt b hb

/-! Results that are frozen at once. -/
def RV.fzR : RV → RV | .tup l => .tup (RV.fzL l) | r => r.fz

theorem RV.fz_notAgg (r : RV) (h : r.isAgg = false) : r.fz.isAgg = false := by
  cases r with
  | agg => cases h
  | _ => simp [RV.fz, RV.isAgg]
theorem S1.lt {w F ρ e y fp} (h : S1 w F ρ e y fp) : ∀ b ∈ fp, b < w.heap.size := by
  cases h with
  | any => simp
  | v => simp
  | cell _ h => exact h.lt
  | agg h => exact h.lt
  | fn h => exact h.lt
theorem SL.lt {w F ρ e y fp} (h : SL w F ρ e y fp) : ∀ b ∈ fp, b < w.heap.size := by
  induction h with
  | nil => simp
  | cons h1 _ ih => intro b hb; rcases List.mem_append.1 hb with hb | hb; exact h1.lt b hb; exact ih b hb
theorem SV.lt {w F ρ e y fp} (h : SV w F ρ e y fp) : ∀ b ∈ fp, b < w.heap.size := by
  cases h with
  | one h => exact h.lt
  | tup h => exact h.lt
theorem S1.fz {w : World} {F F' : Nat → Prop} {ρ e y fp} (h : S1 w F ρ e y fp) (hF : ∀ b, F b → F' b) (hfp : ∀ b ∈ fp, F' b) : S1 w F' ρ e.fz y [] := by
  cases h with
  | any => simp only [RV.fz]; exact .any _
  | v => simp only [RV.fz]; exact .v _
  | cell ha h =>
    have h2 := h.fz_ hF hfp
    rw [fzL_single] at h2
    exact .cell (RV.fz_notAgg _ ha) (OE.of_FE h2)
  | agg h => simp only [RV.fz]; exact .agg (OE.of_FE (h.fz_ hF hfp))
  | fn h => simp only [RV.fz]; exact .any _
theorem SL.fz {w : World} {F F' : Nat → Prop} {ρ es ys fp} (h : SL w F ρ es ys fp) (hF : ∀ b, F b → F' b) (hfp : ∀ b ∈ fp, F' b) : SL w F' ρ (RV.fzL es) ys [] := by
  induction h with
  | nil => simp only [RV.fzL]; exact .nil
  | cons h1 _ ih => simp only [RV.fzL]; exact SL.cons (fp1 := []) (fp2 := []) (h1.fz hF fun b hb => hfp b (by simp [hb])) (ih fun b hb => hfp b (by simp [hb]))
theorem SV.fzR {w : World} {F F' : Nat → Prop} {ρ e y fp} (h : SV w F ρ e y fp) (hF : ∀ b, F b → F' b) (hfp : ∀ b ∈ fp, F' b) : SV w F' ρ e.fzR y [] := by
  cases h with
  | one h =>
    by_cases ht : ∃ l, e = .tup l
    · obtain ⟨l, rfl⟩ := ht
      cases h with
      | cell _ h =>
        rcases h.single rfl with ⟨h1, _⟩ | ⟨_, _, _, _, _, _, _, e, _⟩ | ⟨_, _, _, e, _⟩ | ⟨_, _, _, e, _⟩ | ⟨_, e, _⟩
        · cases h1
        all_goals cases e
    · have e1 : e.fzR = e.fz := by
        cases e <;> first | rfl | exact absurd ⟨_, rfl⟩ ht
      rw [e1]
      exact .one (h.fz hF hfp)
  | tup h => simp only [RV.fzR]; exact .tup (h.fz hF hfp)

theorem SV.noName {w F ρ ρ' r y} (h : SV w F ρ r y []) (hn : r.names = []) : SV w F ρ' r y [] := h.places fun m hm => by rw [hn] at hm; cases hm
mutual
theorem RV.fz_names : ∀ r : RV, r.fz.names = []
  | .v _ => by simp [RV.fz, RV.names]
  | .any => by simp [RV.fz, RV.names]
  | .sh _ => by simp [RV.fz, RV.names]
  | .psh _ => by simp [RV.fz, RV.names]
  | .ow _ l => by simp [RV.fz, RV.names]
  | .agg l => by simp only [RV.fz, RV.names]; exact RV.fzL_names l
  | .ref _ _ _ => by simp [RV.fz, RV.names]
  | .ptr _ _ _ => by simp [RV.fz, RV.names]
  | .tup _ => by simp [RV.fz, RV.names]
  | .fn _ _ => by simp [RV.fz, RV.names]
theorem RV.fzL_names : ∀ l : List RV, RV.namesL (RV.fzL l) = []
  | [] => by simp [RV.fzL, RV.namesL]
  | e :: es => by simp [RV.fzL, RV.namesL, RV.fz_names e, RV.fzL_names es]
end
theorem RV.fzR_names (r : RV) : r.fzR.names = [] := by
  cases r with
  | tup l => simp only [RV.fzR, RV.names]; exact RV.fzL_names l
  | _ => exact RV.fz_names _

section
variable {P : Program} {s : St} {d : Tmp} {ty : TypeId} {pos : String} {after : Array Edge} {g : Option (Nat × Bool)}
theorem ops_callf {f args ats argsR r} (hargs : args.toList.map s.get = argsR := by rfl) (hnt : argsR.all RV.notTup = true := by rfl) (hc : callable P f = true := by kernel_rfl) (hfc : FCr P f argsR r) :
    OpS P ⟨some d, .call ⟨.value (.func f), args, ats⟩, ty, pos, after, g⟩ s ⟨lset s.fr d r.fzR, s.O⟩ := by
  rintro E a w ⟨F, ρ, fp, h⟩ K Q hK
  have hA := h.args args.toList (by rw [hargs]; exact hnt)
  rw [hargs] at hA
  simp only [Oper.wp, run_call (a := a) (w := w) (o := ⟨some d, .call ⟨.value (.func f), args, ats⟩, ty, pos, after, g⟩) rfl hc, Oper.upon_enter]
  have hcall := hfc w F ρ _ [] hA (.nil h.O.gok) List.nodup_nil (fun b hb => nomatch hb) h.Fs
  rw [show (args.toList.map a.eval).toArray = args.map a.eval from Array.ext' (by rw [Array.toList_map])] at hcall
  refine hcall.mono ?_
  rintro e w' ⟨v, rv, Oout, F', ρ', fp1, fp2, rfl, ⟨rfl, rfl⟩, hsv, hO2, hnd, hfp, hF, hF', hb, hsz, h1, h2, h3, _⟩
  have hfp1 : ∀ b ∈ fp1, w.heap.size ≤ b := fun b hb => by have := (hfp b (by simp [hb])).2; simpa using this
  have hx := h.world (w' := w') (F' := fun b => F' b ∨ b ∈ fp1) (fun b hb => .inl (hF b hb)) (fun b hb => by
    rcases hb with hb | hb
    · have := hF' b hb; simpa using this
    · exact ⟨.inr (hfp1 b hb), hsv.lt b hb⟩) (fun b hb' => hb b hb' (by simp)) hsz h1 h2 h3
  exact hK _ _ ⟨_, ρ, fp, hx.put (some d) ((hsv.fzR (fun b hb => .inl hb) (fun b hb => .inr hb)).noName (RV.fzR_names _))⟩
theorem ops_callz {f args ats argsR r} (hargs : args.toList.map (fun x => view1 s.O (s.get x)) = argsR := by first | rfl | (simp only [nz, nf, vw, nr, reduceIte, Nat.reduceEqDiff, ne_eq, not_false_eq_true]; rfl) | (simp only [nz, nf, vw, nr, reduceIte, Nat.reduceEqDiff, ne_eq, not_false_eq_true]; done) | (simp [view1, viewC, olook, nv, nz, nf, *]; fail_if_success show _)) (hsee : (args.toList.map s.get).all RV.seeOk = true := by rfl) (hc : callable P f = true := by kernel_rfl) (hfc : FCr P f argsR r) (hns : r.noSh = true := by simp [ns]) :
    OpS P ⟨some d, .call ⟨.value (.func f), args, ats⟩, ty, pos, after, g⟩ s ⟨lset s.fr d r.fzR, s.O⟩ := by
  rintro E a w ⟨F, ρ, fp, h⟩ K Q hK
  have hA := h.viewArgs args.toList hsee
  rw [hargs] at hA
  simp only [Oper.wp, run_call (a := a) (w := w) (o := ⟨some d, .call ⟨.value (.func f), args, ats⟩, ty, pos, after, g⟩) rfl hc, Oper.upon_enter]
  have hcall := hfc w (fun b => F b ∨ b ∈ fp) ρ _ [] hA (.nil (h.O.gok.le fun b hb => .inl hb)) List.nodup_nil (fun b hb => nomatch hb) (fun b hb => hb.elim (h.Fs b) (h.O.lt b))
  rw [show (args.toList.map a.eval).toArray = args.map a.eval from Array.ext' (by rw [Array.toList_map])] at hcall
  refine hcall.mono ?_
  rintro e w' ⟨v, rv, Oout, F', ρ', fp1, fp2, rfl, ⟨rfl, rfl⟩, hsv, hO2, hnd, hfp, hF, hF', hb, hsz, h1, h2, h3, _⟩
  have hfp1 : ∀ b ∈ fp1, w.heap.size ≤ b := fun b hb => by have := (hfp b (by simp [hb])).2; simpa using this
  have hx := h.world (w' := w') (F' := fun b => F b ∨ b ∈ fp1) (fun b hb => .inl hb) (fun b hb => by
    rcases hb with hb | hb
    · exact ⟨.inl hb, Nat.lt_of_lt_of_le (h.Fs b hb) hsz⟩
    · exact ⟨.inr (hfp1 b hb), hsv.lt b hb⟩) (fun b hb' => hb b hb' (by simp)) hsz h1 h2 h3
  have hsv' : SV w' F ρ' rv v fp1 := hsv.noSh hns
  exact hK _ _ ⟨_, ρ, fp, hx.put (some d) ((hsv'.fzR (fun b hb => .inl hb) (fun b hb => .inr hb)).noName (RV.fzR_names _))⟩
end

section
variable {P : Program} {ops : Array Oper} {d : Tmp} {ty : TypeId} {pos : String} {after : Array Edge} {s : St} {f : FuncId} {args : Array Operand} {ats : Array TypeId} {argsR : List RV} {r : RV}
theorem Ef.callf (hargs : args.toList.map s.get = argsR := by rfl) (hnt : argsR.all RV.notTup = true := by rfl) (hc : callable P f = true := by kernel_rfl) (hfc : FCr P f argsR r) : Ef P ops [] ⟨some d, .call ⟨.value (.func f), args, ats⟩, ty, pos, after, none⟩ s r.fzR s.O := by
  refine Ef.plain fun s2 hs hO _ => ?_
  have hg : ∀ x ∈ args.toList, s2.get x = s.get x := fun x hx => hs x (by simp only [Op.operands, Call.operands, Array.toList_append]; simp [hx])
  rw [← hO]
  exact ops_callf (by rw [List.map_congr_left hg]; exact hargs) hnt hc hfc
theorem Ef.callfY {j want t b} (hj : gslot ops j = some t := by rfl) (ht : lget s.fr t = .v (.bool b) := by rfl) (hb : b = want := by rfl) (hargs : args.toList.map s.get = argsR := by rfl) (hnt : argsR.all RV.notTup = true := by rfl) (hc : callable P f = true := by kernel_rfl) (hfc : FCr P f argsR r) : Ef P ops [] ⟨some d, .call ⟨.value (.func f), args, ats⟩, ty, pos, after, some (j, want)⟩ s r.fzR s.O := by
  refine Ef.yes hj ht hb fun s2 hs hO _ => ?_
  have hg : ∀ x ∈ args.toList, s2.get x = s.get x := fun x hx => hs x (by simp only [Op.operands, Call.operands, Array.toList_append]; simp [hx])
  rw [← hO]
  exact ops_callf (by rw [List.map_congr_left hg]; exact hargs) hnt hc hfc
theorem Ef.callz (hargs : args.toList.map (fun x => view1 s.O (s.get x)) = argsR := by first | rfl | (simp only [nz, nf, vw, nr, reduceIte, Nat.reduceEqDiff, ne_eq, not_false_eq_true]; rfl) | (simp only [nz, nf, vw, nr, reduceIte, Nat.reduceEqDiff, ne_eq, not_false_eq_true]; done) | (simp [view1, viewC, olook, nv, nz, nf, *]; fail_if_success show _)) (hsee : (args.toList.map s.get).all RV.seeOk = true := by rfl) (hc : callable P f = true := by kernel_rfl) (hfc : FCr P f argsR r) (hns : r.noSh = true := by simp [ns]) : Ef P ops [] ⟨some d, .call ⟨.value (.func f), args, ats⟩, ty, pos, after, none⟩ s r.fzR s.O := by
  refine Ef.plain fun s2 hs hO _ => ?_
  have hg : ∀ x ∈ args.toList, s2.get x = s.get x := fun x hx => hs x (by simp only [Op.operands, Call.operands, Array.toList_append]; simp [hx])
  rw [← hO]
  refine ops_callz ?_ (by rw [List.map_congr_left hg]; exact hsee) hc hfc hns
  rw [← hargs, hO]
  exact List.map_congr_left fun x hx => by rw [hg x hx]
theorem Ef.callzY {j want t b} (hj : gslot ops j = some t := by rfl) (ht : lget s.fr t = .v (.bool b) := by rfl) (hb : b = want := by rfl) (hargs : args.toList.map (fun x => view1 s.O (s.get x)) = argsR := by first | rfl | (simp only [nz, nf, vw, nr, reduceIte, Nat.reduceEqDiff, ne_eq, not_false_eq_true]; rfl) | (simp only [nz, nf, vw, nr, reduceIte, Nat.reduceEqDiff, ne_eq, not_false_eq_true]; done) | (simp [view1, viewC, olook, nv, nz, nf, *]; fail_if_success show _)) (hsee : (args.toList.map s.get).all RV.seeOk = true := by rfl) (hc : callable P f = true := by kernel_rfl) (hfc : FCr P f argsR r) (hns : r.noSh = true := by simp [ns]) : Ef P ops [] ⟨some d, .call ⟨.value (.func f), args, ats⟩, ty, pos, after, some (j, want)⟩ s r.fzR s.O := by
  refine Ef.yes hj ht hb fun s2 hs hO _ => ?_
  have hg : ∀ x ∈ args.toList, s2.get x = s.get x := fun x hx => hs x (by simp only [Op.operands, Call.operands, Array.toList_append]; simp [hx])
  rw [← hO]
  refine ops_callz ?_ (by rw [List.map_congr_left hg]; exact hsee) hc hfc hns
  rw [← hargs, hO]
  exact List.map_congr_left fun x hx => by rw [hg x hx]
end
end Eng
end Go.Proofs.YtmfbcipjknjicaaGreatDoor

/- The engine, part Fb: what a slice's length can be; ends of all kinds. No condition. -/
namespace Go.Proofs.YtmfbcipjknjicaaGreatDoor
set_option linter.unusedSectionVars false
variable [One Bool]
namespace Eng
open Go.RowKit

mutual
def RV.lenOk : RV → Prop
  | .sh l => l.length ≤ 9223372036854775807 ∧ RV.lenOkL l
  | .ow _ l => l.length ≤ 9223372036854775807 ∧ RV.lenOkL l
  | .agg l => RV.lenOkL l
  | .psh e => e.lenOk
  | .v _ => True
  | .any => True
  | .ref _ _ _ => True
  | .ptr _ _ _ => True
  | .tup l => RV.lenOkL l
  | .fn _ l => RV.lenOkL l
def RV.lenOkL : List RV → Prop
  | [] => True
  | e :: es => e.lenOk ∧ RV.lenOkL es
end
theorem FE.lenOk {w F k es cs} (h : FE w F k es cs) : RV.lenOkL es := by
  induction h with
  | nil => simp only [RV.lenOkL]
  | v _ _ _ ih => simp only [RV.lenOkL, RV.lenOk]; exact ⟨trivial, ih⟩
  | any _ _ _ ih => simp only [RV.lenOkL, RV.lenOk]; exact ⟨trivial, ih⟩
  | shnil _ _ _ ih => simp only [RV.lenOkL, RV.lenOk]; exact ⟨⟨by simp, trivial⟩, ih⟩
  | sh _ _ _ _ _ hm _ _ _ ih1 ih2 => simp only [RV.lenOkL, RV.lenOk]; exact ⟨⟨by have := hm.1; unfold maxLen at this; omega, ih1⟩, ih2⟩
  | psh _ _ _ _ _ _ _ ih1 ih2 => simp only [RV.lenOkL, RV.lenOk] at ih1 ⊢; exact ⟨ih1.1, ih2⟩
  | agg _ _ _ ih1 ih2 => simp only [RV.lenOkL, RV.lenOk]; exact ⟨ih1, ih2⟩
theorem OE.lenOk {w F ρ k es cs fp} (h : OE w F ρ k es cs fp) : RV.lenOkL es := by
  induction h with
  | nil => simp only [RV.lenOkL]
  | fz h1 _ ih => have := h1.lenOk; simp only [RV.lenOkL] at this ⊢; exact ⟨this.1, ih⟩
  | ow b cap ty c hk hb hs hl hm hc hnn _ _ ih1 ih2 => simp only [RV.lenOkL, RV.lenOk]; exact ⟨⟨by unfold maxLen at hm; omega, ih1⟩, ih2⟩
  | ownil _ _ _ ih => simp only [RV.lenOkL, RV.lenOk]; exact ⟨⟨by simp, trivial⟩, ih⟩
  | ref _ _ _ _ _ ih => simp only [RV.lenOkL, RV.lenOk]; exact ⟨trivial, ih⟩
  | ptr _ _ _ _ _ ih => simp only [RV.lenOkL, RV.lenOk]; exact ⟨trivial, ih⟩
  | agg _ _ _ ih1 ih2 => simp only [RV.lenOkL, RV.lenOk]; exact ⟨ih1, ih2⟩
  | fn _ _ _ ih1 ih2 => simp only [RV.lenOkL, RV.lenOk]; exact ⟨ih1, ih2⟩
theorem S1.lenOk {w F ρ e y fp} (h : S1 w F ρ e y fp) : e.lenOk := by
  cases h with
  | any => simp only [RV.lenOk]
  | v => simp only [RV.lenOk]
  | cell _ h => have := h.lenOk; simp only [RV.lenOkL] at this; exact this.1
  | agg h => simp only [RV.lenOk]; exact h.lenOk
  | fn h => simp only [RV.lenOk]; exact h.lenOk
theorem SL.lenOk {w F ρ es ys fp} (h : SL w F ρ es ys fp) : RV.lenOkL es := by
  induction h with
  | nil => simp only [RV.lenOkL]
  | cons h1 _ ih => simp only [RV.lenOkL]; exact ⟨h1.lenOk, ih⟩
theorem SV.lenOk {w F ρ e y fp} (h : SV w F ρ e y fp) : e.lenOk := by
  cases h with
  | one h => exact h.lenOk
  | tup h => simp only [RV.lenOk]; exact h.lenOk
theorem fcr_lens {P f args r} (h : RV.lenOkL args → FCr P f args r) : FCr P f args r := by
  intro w F ρ vals fp h1
  exact h h1.lenOk w F ρ vals fp h1
theorem lenOkL_map {α : Type} (f : α → RV) (l : List α) : RV.lenOkL (l.map f) ↔ ∀ x ∈ l, (f x).lenOk := by
  induction l with
  | nil => simp [RV.lenOkL]
  | cons x xs ih => simp [RV.lenOkL, ih]
theorem lnk : (∀ {α : Type} (f : α → RV) (l : List α), RV.lenOkL (l.map f) ↔ ∀ x ∈ l, (f x).lenOk) ∧ (∀ l, (RV.sh l).lenOk ↔ l.length ≤ 9223372036854775807 ∧ RV.lenOkL l) ∧ (∀ k l, (RV.ow k l).lenOk ↔ l.length ≤ 9223372036854775807 ∧ RV.lenOkL l) ∧ (∀ l, (RV.agg l).lenOk ↔ RV.lenOkL l) ∧ (∀ x, (RV.v x).lenOk ↔ True) ∧ (RV.any.lenOk ↔ True) ∧
    (RV.lenOkL [] ↔ True) ∧ (∀ e es, RV.lenOkL (e :: es) ↔ e.lenOk ∧ RV.lenOkL es) ∧ (∀ {α β : Type} (f : α → β) (l : List α), (l.map f).length = l.length) ∧ (∀ {α : Type} (l : List α), (∀ x ∈ l, True) ↔ True) ∧ (∀ a b c, (RV.ref a b c).lenOk ↔ True) ∧ (∀ a b c, (RV.ptr a b c).lenOk ↔ True) ∧ (∀ p : Prop, (p ∧ True) = p) ∧ (∀ p : Prop, (True ∧ p) = p) := by
  refine ⟨lenOkL_map, fun l => by simp only [RV.lenOk], fun k l => by simp only [RV.lenOk], fun l => by simp only [RV.lenOk], fun x => by simp only [RV.lenOk], by simp only [RV.lenOk], by simp only [RV.lenOkL], fun e es => by simp only [RV.lenOkL], fun f l => List.length_map .., fun l => by simp, fun _ _ _ => by simp only [RV.lenOk], fun _ _ _ => by simp only [RV.lenOk], by simp, by simp⟩

def noAgg2 : List RV → Bool := fun cs => cs.all fun c => match c with | .agg l => l.all fun r => !r.isAgg | _ => true
theorem noAgg2_ok {cs : List RV} (h : noAgg2 cs = true) : ∀ l1, .agg l1 ∈ cs → ∀ r ∈ l1, r.isAgg = false := by
  intro l1 hl r hr
  have h1 := List.all_eq_true.1 h _ hl
  have h2 := List.all_eq_true.1 h1 r hr
  simpa using h2
end Eng
end Go.Proofs.YtmfbcipjknjicaaGreatDoor

/- The engine, part Fc: usual shapes of data; reading and writing named blocks that hold a list; indexes that are whole numbers. No condition. -/
namespace Go.Proofs.YtmfbcipjknjicaaGreatDoor
set_option linter.unusedSectionVars false
variable [One Bool]
namespace Eng
open Go.RowKit

/-! Usual shapes. -/
abbrev RIs (l : List Int) : RV := .sh (l.map RVi)
abbrev RIss (l : List (List Int)) : RV := .sh (l.map RIs)
abbrev OIs (l : List Int) : RV := .ow 1 (l.map RVi)
abbrev RBs (l : List Bool) : RV := .sh (l.map RVb)
abbrev OBs (l : List Bool) : RV := .ow 1 (l.map RVb)
abbrev RVy (b : UInt8) : RV := .v (.int .u8 (b.toNat : Nat))
abbrev RYs (l : List UInt8) : RV := .sh (l.map RVy)
theorem fz_RIs (l : List Int) : RV.fzL (l.map RVi) = l.map RVi := by rw [fzL_map]; simp [RV.fz]
theorem fz_RBs (l : List Bool) : RV.fzL (l.map RVb) = l.map RVb := by rw [fzL_map]; simp [RV.fz]
theorem fz_RSs (l : List (List UInt8)) : RV.fzL (l.map RV.str) = l.map RV.str := by rw [fzL_map]; simp [RV.fz]
theorem fz_RYs (l : List UInt8) : RV.fzL (l.map RVy) = l.map RVy := by rw [fzL_map]; simp [RV.fz]
theorem fz_OIss (l : List (List Int)) : RV.fzL (l.map OIs) = l.map RIs := by rw [fzL_map]; simp [RV.fz, fz_RIs]
theorem fz_OBss (l : List (List Bool)) : RV.fzL (l.map OBs) = l.map RBs := by rw [fzL_map]; simp [RV.fz, fz_RBs]
theorem fz_RIss (l : List (List Int)) : RV.fzL (l.map RIs) = l.map RIs := by rw [fzL_map]; simp [RV.fz]
theorem fz_RBss (l : List (List Bool)) : RV.fzL (l.map RBs) = l.map RBs := by rw [fzL_map]; simp [RV.fz]
theorem viewC_full (n k : Nat) (els : List RV) (O : List Bk) : viewC ((n, k, els) :: O) (.ref n 0 els.length) = .sh (RV.fzL els) := by simp [viewC, olook]
theorem viewC_fullm {α : Type} (n k : Nat) (f : α → RV) (l : List α) (O : List Bk) : viewC ((n, k, l.map f) :: O) (.ref n 0 l.length) = .sh (RV.fzL (l.map f)) := by simp [viewC, olook, ← List.map_take]
theorem viewC_skip (n m k : Nat) (els : List RV) (O : List Bk) (a b : Nat) (h : m ≠ n) : viewC ((m, k, els) :: O) (.ref n a b) = viewC O (.ref n a b) := by simp [viewC, olook, h]

theorem nf : (∀ l : List Int, RV.fzL (l.map RVi) = l.map RVi) ∧ (∀ l : List Bool, RV.fzL (l.map RVb) = l.map RVb) ∧ (∀ l : List (List UInt8), RV.fzL (l.map RV.str) = l.map RV.str) ∧ (∀ l : List UInt8, RV.fzL (l.map RVy) = l.map RVy) ∧
    (∀ l : List (List Int), RV.fzL (l.map OIs) = l.map RIs) ∧ (∀ l : List (List Bool), RV.fzL (l.map OBs) = l.map RBs) ∧ (∀ l : List (List Int), RV.fzL (l.map RIs) = l.map RIs) ∧ (∀ l : List (List Bool), RV.fzL (l.map RBs) = l.map RBs) ∧
    (∀ x, (RV.v x).fzR = .v x) ∧ (∀ k l, (RV.ow k l).fzR = .sh (RV.fzL l)) ∧ (∀ l, (RV.sh l).fzR = .sh l) ∧ (∀ l, (RV.agg l).fzR = .agg (RV.fzL l)) ∧ (∀ l, (RV.tup l).fzR = .tup (RV.fzL l)) ∧ RV.any.fzR = .any ∧
    (∀ x, (RV.v x).fz = .v x) ∧ (∀ l, (RV.sh l).fz = .sh l) ∧ (∀ k l, (RV.ow k l).fz = .sh (RV.fzL l)) ∧ (∀ l, (RV.agg l).fz = .agg (RV.fzL l)) ∧ RV.any.fz = .any ∧ RV.fzL [] = [] ∧ (∀ e es, RV.fzL (e :: es) = e.fz :: RV.fzL es) ∧
    (∀ B, RV.frzL B [] = []) ∧ (∀ B e es, RV.frzL B (e :: es) = e.frz B :: RV.frzL B es) ∧ (∀ B x, (RV.v x).frz B = .v x) ∧ (∀ B, RV.any.frz B = .any) ∧ (∀ B l, (RV.sh l).frz B = .sh l) ∧ (∀ B k l, (RV.ow k l).frz B = .ow k l) ∧ (∀ B e, (RV.psh e).frz B = .psh e) ∧
    (∀ B l, (RV.agg l).frz B = .agg (RV.frzL B l)) ∧ (∀ B l, (RV.tup l).frz B = .tup (RV.frzL B l)) ∧ (∀ B f l, (RV.fn f l).frz B = .fn f (RV.frzL B l)) ∧
    (∀ n k (els : List RV) m a b, (RV.ref m a b).frz (n, k, els) = if m = n then viewC [(n, k, els)] (.ref m a b) else .ref m a b) ∧ (∀ n k (els : List RV) m a b, (RV.ptr m a b).frz (n, k, els) = if m = n then viewC [(n, k, els)] (.ptr m a b) else .ptr m a b) ∧
    (∀ n k (els : List RV) O, viewC ((n, k, els) :: O) (.ref n 0 els.length) = .sh (RV.fzL els)) ∧ (∀ {α : Type} n k (f : α → RV) (l : List α) O, viewC ((n, k, l.map f) :: O) (.ref n 0 l.length) = .sh (RV.fzL (l.map f))) ∧
    (∀ (l : List Int) x, l.map RVi ++ [RVi x] = (l ++ [x]).map RVi) ∧ (∀ (l : List Bool) x, l.map RVb ++ [RVb x] = (l ++ [x]).map RVb) ∧ (∀ (l : List (List UInt8)) x, l.map RV.str ++ [RV.str x] = (l ++ [x]).map RV.str) ∧ (∀ (l : List UInt8) x, l.map RVy ++ [RVy x] = (l ++ [x]).map RVy) ∧
    (∀ (l : List (List Int)) x, l.map RIs ++ [RV.sh (x.map RVi)] = (l ++ [x]).map RIs) ∧ (∀ (l : List (List Int)) x, l.map OIs ++ [RV.ow 1 (x.map RVi)] = (l ++ [x]).map OIs) ∧ (∀ (l : List (List Bool)) x, l.map RBs ++ [RV.sh (x.map RVb)] = (l ++ [x]).map RBs) ∧ (∀ (l : List (List Bool)) x, l.map OBs ++ [RV.ow 1 (x.map RVb)] = (l ++ [x]).map OBs) ∧
    (∀ (l : List Int) i x, (l.map RVi).set i (RVi x) = (l.set i x).map RVi) ∧ (∀ (l : List Bool) i x, (l.map RVb).set i (RVb x) = (l.set i x).map RVb) ∧ (∀ {α β : Type} (f : α → β) (l m : List α), l.map f ++ m.map f = (l ++ m).map f) ∧ (∀ l : List RV, [] ++ l = l) ∧
    (∀ n x, List.replicate n (RVi x) = (List.replicate n x).map RVi) ∧ (∀ n x, List.replicate n (RVb x) = (List.replicate n x).map RVb) ∧ (∀ n x, List.replicate n (RV.str x) = (List.replicate n x).map RV.str) := by
  refine ⟨fz_RIs, fz_RBs, fz_RSs, fz_RYs, fz_OIss, fz_OBss, fz_RIss, fz_RBss, ?_⟩
  simp [RV.fzR, RV.fz, RV.fzL, RV.frz, RV.frzL, viewC_full, viewC_fullm, List.map_set, List.map_replicate]

section
variable {P : Program} {s : St} {d : Option Tmp} {ty : TypeId} {pos : String} {after : Array Edge} {g : Option (Nat × Bool)}
theorem toNat_cast {x : Int} (h0 : 0 ≤ x) : ((x.toNat : Nat) : Int) = x := Int.toNat_of_nonneg h0
theorem ops_idx_mapI {α : Type} {f : α → RV} {l : List α} {x ix c k} {i : Int} (hx : s.get x = .sh (l.map f)) (hi : s.get ix = .v (.int k i)) (h0 : 0 ≤ i) (h : i.toNat < l.length) (ht : P.underlying c = some (.slice (P.elem c))) (hw : P.cellsOf (P.elem c) = (f l[i.toNat]).width) :
    OpS P ⟨d, .indexAddr c x ix, ty, pos, after, g⟩ s ⟨sput d (.psh (f l[i.toNat])) s.fr, s.O⟩ :=
  ops_idx_map (i := i.toNat) hx (by rw [hi, toNat_cast h0]) h ht hw
theorem ops_idx_refm {α : Type} {f : α → RV} {l : List α} {x ix c n len k i} (hx : s.get x = .ref n 0 len) (hi : s.get ix = .v (.int k (i : Nat))) (hl : i < len) {kk} (ho : olook n s.O = some (kk, l.map f)) (hl2 : i < l.length) (ht : P.underlying c = some (.slice (P.elem c))) (hw : P.cellsOf (P.elem c) = kk) :
    OpS P ⟨d, .indexAddr c x ix, ty, pos, after, g⟩ s ⟨sput d (.ptr n i 0) s.fr, s.O⟩ := by
  have := ops_idx_ref (P := P) (d := d) (ty := ty) (pos := pos) (after := after) (g := g) hx hi hl ho (by intro e; have := congrArg List.length e; simp at this; subst this; simp at hl2) ht hw
  simpa using this
theorem ops_idx_refmI {α : Type} {f : α → RV} {l : List α} {x ix c n len k} {i : Int} (hx : s.get x = .ref n 0 len) (hi : s.get ix = .v (.int k i)) (h0 : 0 ≤ i) (hl : i.toNat < len) {kk} (ho : olook n s.O = some (kk, l.map f)) (hl2 : i.toNat < l.length) (ht : P.underlying c = some (.slice (P.elem c))) (hw : P.cellsOf (P.elem c) = kk) :
    OpS P ⟨d, .indexAddr c x ix, ty, pos, after, g⟩ s ⟨sput d (.ptr n i.toNat 0) s.fr, s.O⟩ :=
  ops_idx_refm (i := i.toNat) hx (by rw [hi, toNat_cast h0]) hl ho hl2 ht hw
theorem cellsL_pos {e : RV} (h : e.isAgg = false) : 0 < e.cellsL.length := by
  cases e with
  | agg => cases h
  | _ => simp [RV.cellsL]
theorem cellsL_plain {e : RV} (h : e.plain = true) : e.cellsL[0]? = some e := by cases e <;> first | rfl | cases h
theorem ops_load_map {α : Type} {f : α → RV} {l : List α} {x t n i k} (hx : s.get x = .ptr n i 0) (ho : olook n s.O = some (k, l.map f)) (h : i < l.length) (hp : (f l[i]).plain = true) (ht : scalarT P t = true) :
    OpS P ⟨d, .load t x, ty, pos, after, g⟩ s ⟨sput d (f l[i]) s.fr, s.O⟩ :=
  ops_load_ptr hx ho (by simp [h]) (cellsL_plain hp) hp ht
theorem ops_load_mapa {α : Type} {f : α → List RV} {l : List α} {x t n i k} (hx : s.get x = .ptr n i 0) (ho : olook n s.O = some (k, l.map fun a => .agg (f a))) (h : i < l.length) (hp : (f l[i]).all RV.plain = true) (ht : aggT P t = true) (hs : P.cellsOf t = (f l[i]).length) :
    OpS P ⟨d, .load t x, ty, pos, after, g⟩ s ⟨sput d (.agg (f l[i])) s.fr, s.O⟩ :=
  ops_load_ptra hx ho (by simp [h]) hp ht hs
end
section
variable {P : Program} {s : St} {ty : TypeId} {pos : String} {after : Array Edge} {g : Option (Nat × Bool)}
theorem ops_store_map {α : Type} {f : α → RV} {l : List α} {x v t n i k r} (hx : s.get x = .ptr n i 0) (hv : s.get v = r) (ho : olook n s.O = some (k, l.map f)) (h : i < l.length) (ha : (f l[i]).isAgg = false) (hst : r.stores = true) (ht : P.cellsOf t = 1) :
    OpS P ⟨none, .store t x v, ty, pos, after, g⟩ s ⟨s.fr, oset n ((l.map f).set i r) s.O⟩ := by
  have e : (f l[i]).setCell 0 r = r := by
    cases hf : f l[i] <;> first | rfl | (rw [hf] at ha; cases ha)
  have := ops_store (P := P) (ty := ty) (pos := pos) (after := after) (g := g) hx hv ho (by simp [h] : (l.map f)[i]? = some (f l[i])) (cellsL_pos ha) hst ht
  rwa [e] at this
end
end Eng
end Go.Proofs.YtmfbcipjknjicaaGreatDoor

/- The engine, part Fd: more operations that only look: quotients, bits, fields, parts of results, cuts, conversions. No condition. -/
namespace Go.Proofs.YtmfbcipjknjicaaGreatDoor
set_option linter.unusedSectionVars false
variable [One Bool]
namespace Eng
open Go.RowKit

section
variable {P : Program} {s : St} {d : Option Tmp} {ty : TypeId} {pos : String} {after : Array Edge} {g : Option (Nat × Bool)}

theorem ops_quo {x y t u} {m n : Int} (hx : s.get x = .v (.int .i64 m)) (hy : s.get y = .v (.int .i64 n)) (h0 : n ≠ 0) (h1 : -9223372036854775808 ≤ m.tdiv n) (h2 : m.tdiv n ≤ 9223372036854775807) :
    OpS P ⟨d, .binOp .quo t x y u, ty, pos, after, g⟩ s ⟨sput d (.v (.int .i64 (m.tdiv n))) s.fr, s.O⟩ :=
  ops_exact fun _ a _ _ _ _ hr => by have := wrap_in h1 h2; simp [execOp, hr.ex hx, hr.ex hy, binOp, eqGuard, Op.intDiv, h0, this]
theorem ops_rem {x y t u k} {m n : Int} (hx : s.get x = .v (.int k m)) (hy : s.get y = .v (.int k n)) (h0 : n ≠ 0) :
    OpS P ⟨d, .binOp .rem t x y u, ty, pos, after, g⟩ s ⟨sput d (.v (.int k (m.tmod n))) s.fr, s.O⟩ :=
  ops_exact fun _ a _ _ _ _ hr => by simp [execOp, hr.ex hx, hr.ex hy, binOp, eqGuard, Op.intDiv, h0]
theorem ops_quon {x y t u} {m n : Nat} (hx : s.get x = .v (.int .i64 (m : Nat))) (hy : s.get y = .v (.int .i64 (n : Nat))) (h0 : 0 < n) (h2 : m ≤ 9223372036854775807) :
    OpS P ⟨d, .binOp .quo t x y u, ty, pos, after, g⟩ s ⟨sput d (.v (.int .i64 ((m / n : Nat) : Int))) s.fr, s.O⟩ := by
  have e : (m : Int).tdiv n = ((m / n : Nat) : Int) := by rw [Int.tdiv_eq_ediv_of_nonneg (by omega)]; simp
  have hle : m / n ≤ m := Nat.div_le_self _ _
  have := ops_quo (P := P) (d := d) (ty := ty) (pos := pos) (after := after) (g := g) (t := t) (u := u) hx hy (by omega) (by rw [e]; exact Int.le_trans (by decide) (Int.natCast_nonneg _)) (by rw [e]; exact Int.le_trans (Int.ofNat_le.2 hle) (by omega))
  rwa [e] at this
theorem ops_remn {x y t u k} {m n : Nat} (hx : s.get x = .v (.int k (m : Nat))) (hy : s.get y = .v (.int k (n : Nat))) (h0 : 0 < n) :
    OpS P ⟨d, .binOp .rem t x y u, ty, pos, after, g⟩ s ⟨sput d (.v (.int k ((m % n : Nat) : Int))) s.fr, s.O⟩ := by
  have e : (m : Int).tmod n = ((m % n : Nat) : Int) := by rw [Int.tmod_eq_emod_of_nonneg (by omega)]; simp
  have := ops_rem (P := P) (d := d) (ty := ty) (pos := pos) (after := after) (g := g) (t := t) (u := u) hx hy (by omega)
  rwa [e] at this
theorem ops_neg {x t} {m : Int} (hx : s.get x = .v (.int .i64 m)) (h1 : -9223372036854775807 ≤ m) (h2 : m ≤ 9223372036854775807) :
    OpS P ⟨d, .unOp .neg t x, ty, pos, after, g⟩ s ⟨sput d (.v (.int .i64 (-m))) s.fr, s.O⟩ :=
  ops_exact fun _ a _ _ _ _ hr => by have := wrap_in (m := -m) (by omega) (by omega); simp [execOp, hr.ex hx, Op.unary, Op.intArith, this]
theorem ops_pick_i {c x y b} {m n : Int} {k : IntKind} (hc : s.get c = .v (.bool b)) (hx : s.get x = .v (.int k m)) (hy : s.get y = .v (.int k n)) : OpS P ⟨d, .pick c x y, ty, pos, after, g⟩ s ⟨sput d (.v (.int k (if b then m else n))) s.fr, s.O⟩ := by
  have := ops_pick (P := P) (d := d) (ty := ty) (pos := pos) (after := after) (g := g) (x := x) (y := y) hc
  have e : (if b = true then s.get x else s.get y) = .v (.int k (if b = true then m else n)) := by cases b <;> simp [hx, hy]
  rwa [e] at this
theorem SL.at {w F ρ l ys fp} (h : SL w F ρ l ys fp) (hfp : fp = []) (i : Nat) {c : RV} (hc : l[i]? = some c) : ∃ y, ys[i]? = some y ∧ SV w F ρ c y [] := by
  induction h generalizing i with
  | nil => simp at hc
  | @cons e y es ys fp1 fp2 h1 h ih =>
    obtain ⟨rfl, rfl⟩ := List.append_eq_nil_iff.1 hfp
    cases i with
    | zero => simp at hc; subst hc; exact ⟨y, rfl, .one h1⟩
    | succ i => simpa using ih rfl i (by simpa using hc)
theorem SV.tup_inv {w F ρ l y fp} (h : SV w F ρ (.tup l) y fp) : ∃ c, y = .tuple c ∧ SL w F ρ l c.toList fp := by
  cases h with
  | tup h => exact ⟨_, rfl, h⟩
  | one h => cases h with
    | cell _ h =>
      rcases h.single rfl with ⟨h1, _⟩ | ⟨_, _, _, _, _, _, _, e, _⟩ | ⟨_, _, _, e, _⟩ | ⟨_, _, _, e, _⟩ | ⟨_, e, _⟩
      · cases h1
      all_goals cases e
theorem ops_extract {x i l c} (hx : s.get x = .tup l) (hc : l[i]? = some c) : OpS P ⟨d, .extract x i, ty, pos, after, g⟩ s ⟨sput d c s.fr, s.O⟩ :=
  ops_val fun _ a w F ρ _ hr => by
    have h := hr.get x
    rw [hx] at h
    obtain ⟨cs, e, hsl⟩ := h.tup_inv
    obtain ⟨y, hy, hsv⟩ := hsl.at rfl i hc
    refine ⟨y, ?_, hsv⟩
    have hy' : cs[i]? = some y := by simpa using hy
    simp [execOp, e, Instr.extract, hy']
theorem run_part_one {w : World} {t : TypeId} {cs : Array Value} {o : Nat} {y : Value} (hs : scalarT P t = true) (hy : cs[o]? = some y) : (part t cs o).run P w = .ok y w := by
  simp [part, run_isAgg_s hs, hy]
def fldS (P : Program) (t : TypeId) (f off : Nat) : Bool := match P.underlying t with
  | some (.struct fs) => match fs[f]? with
    | some x => x.offset == off && scalarT P x.type
    | none => false
  | _ => false
theorem OE.at0 {w F ρ l cs} (h : OE w F ρ 1 l cs []) {i : Nat} {c : RV} (hc : l[i]? = some c) : ∃ y, cs[i]? = some y ∧ OE w F ρ 1 [c] [y] [] := by
  obtain ⟨c1, ce, c2, f1, fe, f2, rfl, h1, h2, hfp, _, h3, _⟩ := h.at hc
  match ce, h2 with
  | [y], _ =>
    have hfe : fe = [] := (List.append_eq_nil_iff.1 (List.append_eq_nil_iff.1 hfp.symm).2).1
    subst hfe
    exact ⟨y, by simp at h1; rw [List.getElem?_append_right (by omega)]; simp [h1], h3⟩
theorem ops_field {x t f off l c} (hx : s.get x = .agg l) (hc : l[off]? = some c) (hp : c.plain = true) (hf : fldS P t f off = true) : OpS P ⟨d, .field t x f, ty, pos, after, g⟩ s ⟨sput d c s.fr, s.O⟩ :=
  ops_val fun _ a w F ρ _ hr => by
    have h := hr.get x
    rw [hx] at h
    obtain ⟨cs, e, hoe⟩ := h.agg_inv
    obtain ⟨y, hy, hsv⟩ := hoe.at0 hc
    have hy' : cs[off]? = some y := by simpa using hy
    unfold fldS at hf
    split at hf
    · rename_i fs hu
      split at hf
      · rename_i fx hfx
        simp only [Bool.and_eq_true, beq_iff_eq] at hf
        obtain ⟨ho, hs⟩ := hf
        subst ho
        refine ⟨y, ?_, SV.of_plain hsv hp⟩
        simp [execOp, e, Instr.field, run_underlying hu, hfx, asAgg, run_part_one hs hy']
      · cases hf
    · cases hf
end
end Eng
end Go.Proofs.YtmfbcipjknjicaaGreatDoor

/- The engine, part Fe: bits, conversions of whole numbers, the larger and the smaller, cuts of texts and of frozen slices. No condition. -/
namespace Go.Proofs.YtmfbcipjknjicaaGreatDoor
set_option linter.unusedSectionVars false
variable [One Bool]
namespace Eng
open Go.RowKit
set_option linter.unusedSimpArgs false

section
variable {P : Program} {s : St} {d : Option Tmp} {ty : TypeId} {pos : String} {after : Array Edge} {g : Option (Nat × Bool)}

theorem ofInt_cast (n : Nat) : BitVec.ofInt 64 (n : Int) = BitVec.ofNat 64 n := by simp
theorem intBits_xor {m n : Nat} (h1 : m < 9223372036854775808) (h2 : n < 9223372036854775808) : Op.intBits .xor .i64 (m : Nat) (n : Nat) = pure (.int .i64 ((m ^^^ n : Nat) : Int)) := by
  have h5 : (BitVec.ofInt 64 (m : Nat) ^^^ BitVec.ofInt 64 (n : Nat)).toNat = m ^^^ n := by
    rw [ofInt_cast, ofInt_cast, BitVec.toNat_xor, BitVec.toNat_ofNat, BitVec.toNat_ofNat, Nat.mod_eq_of_lt (by omega), Nat.mod_eq_of_lt (by omega)]
  have h4 : IntKind.i64.wrap ((m ^^^ n : Nat) : Int) = ((m ^^^ n : Nat) : Int) := by
    have h3 : m ^^^ n < 2 ^ 63 := Nat.xor_lt_two_pow (by omega) (by omega)
    exact wrap_in (by omega) (by omega)
  show pure (Value.int .i64 (IntKind.i64.wrap ((BitVec.ofInt 64 (m : Nat) ^^^ BitVec.ofInt 64 (n : Nat)).toNat : Int))) = _
  rw [h5, h4]
theorem ops_xorn {x y t u} {m n : Nat} (hx : s.get x = .v (.int .i64 (m : Nat))) (hy : s.get y = .v (.int .i64 (n : Nat))) (h1 : m < 9223372036854775808) (h2 : n < 9223372036854775808) :
    OpS P ⟨d, .binOp .xor t x y u, ty, pos, after, g⟩ s ⟨sput d (.v (.int .i64 ((m ^^^ n : Nat) : Int))) s.fr, s.O⟩ :=
  ops_exact fun _ a _ _ _ _ hr => by simp [execOp, hr.ex hx, hr.ex hy, binOp, eqGuard, intBits_xor h1 h2]
theorem intBits_and {m n : Nat} (h1 : m < 9223372036854775808) (h2 : n < 9223372036854775808) : Op.intBits .and .i64 (m : Nat) (n : Nat) = pure (.int .i64 ((m &&& n : Nat) : Int)) := by
  have h5 : (BitVec.ofInt 64 (m : Nat) &&& BitVec.ofInt 64 (n : Nat)).toNat = m &&& n := by
    rw [ofInt_cast, ofInt_cast, BitVec.toNat_and, BitVec.toNat_ofNat, BitVec.toNat_ofNat, Nat.mod_eq_of_lt (by omega), Nat.mod_eq_of_lt (by omega)]
  have h4 : IntKind.i64.wrap ((m &&& n : Nat) : Int) = ((m &&& n : Nat) : Int) := by
    have h3 : m &&& n ≤ m := Nat.and_le_left
    exact wrap_in (by omega) (by omega)
  show pure (Value.int .i64 (IntKind.i64.wrap ((BitVec.ofInt 64 (m : Nat) &&& BitVec.ofInt 64 (n : Nat)).toNat : Int))) = _
  rw [h5, h4]
theorem ops_andn {x y t u} {m n : Nat} (hx : s.get x = .v (.int .i64 (m : Nat))) (hy : s.get y = .v (.int .i64 (n : Nat))) (h1 : m < 9223372036854775808) (h2 : n < 9223372036854775808) :
    OpS P ⟨d, .binOp .and t x y u, ty, pos, after, g⟩ s ⟨sput d (.v (.int .i64 ((m &&& n : Nat) : Int))) s.fr, s.O⟩ :=
  ops_exact fun _ a _ _ _ _ hr => by simp [execOp, hr.ex hx, hr.ex hy, binOp, eqGuard, intBits_and h1 h2]
theorem intBits_or {m n : Nat} (h1 : m < 9223372036854775808) (h2 : n < 9223372036854775808) : Op.intBits .or .i64 (m : Nat) (n : Nat) = pure (.int .i64 ((m ||| n : Nat) : Int)) := by
  have h5 : (BitVec.ofInt 64 (m : Nat) ||| BitVec.ofInt 64 (n : Nat)).toNat = m ||| n := by
    rw [ofInt_cast, ofInt_cast, BitVec.toNat_or, BitVec.toNat_ofNat, BitVec.toNat_ofNat, Nat.mod_eq_of_lt (by omega), Nat.mod_eq_of_lt (by omega)]
  have h4 : IntKind.i64.wrap ((m ||| n : Nat) : Int) = ((m ||| n : Nat) : Int) := by
    have h3 : m ||| n < 2 ^ 63 := Nat.or_lt_two_pow (by omega) (by omega)
    exact wrap_in (by omega) (by omega)
  show pure (Value.int .i64 (IntKind.i64.wrap ((BitVec.ofInt 64 (m : Nat) ||| BitVec.ofInt 64 (n : Nat)).toNat : Int))) = _
  rw [h5, h4]
theorem ops_orn {x y t u} {m n : Nat} (hx : s.get x = .v (.int .i64 (m : Nat))) (hy : s.get y = .v (.int .i64 (n : Nat))) (h1 : m < 9223372036854775808) (h2 : n < 9223372036854775808) :
    OpS P ⟨d, .binOp .or t x y u, ty, pos, after, g⟩ s ⟨sput d (.v (.int .i64 ((m ||| n : Nat) : Int))) s.fr, s.O⟩ :=
  ops_exact fun _ a _ _ _ _ hr => by simp [execOp, hr.ex hx, hr.ex hy, binOp, eqGuard, intBits_or h1 h2]
theorem ops_conv {x t u k k0} {m : Int} (hx : s.get x = .v (.int k0 m)) (hs : (P.underlying t).isSome = true) (ht : P.underlying u = some (.int k)) :
    OpS P ⟨d, .convert t u x, ty, pos, after, g⟩ s ⟨sput d (.v (.int k (k.wrap m))) s.fr, s.O⟩ :=
  ops_exact fun _ a _ _ _ _ hr => by
    obtain ⟨td, htd⟩ := Option.isSome_iff_exists.1 hs
    simp [execOp, hr.ex hx, convert, run_underlying htd, run_underlying ht, Conv.intToInt]
theorem ops_conv64 {x t u k0} {m : Int} (hx : s.get x = .v (.int k0 m)) (hs : (P.underlying t).isSome = true) (ht : P.underlying u = some (.int .i64)) (h1 : -9223372036854775808 ≤ m) (h2 : m ≤ 9223372036854775807) :
    OpS P ⟨d, .convert t u x, ty, pos, after, g⟩ s ⟨sput d (.v (.int .i64 m)) s.fr, s.O⟩ := by
  have := ops_conv (P := P) (d := d) (ty := ty) (pos := pos) (after := after) (g := g) hx hs ht
  rwa [wrap_in h1 h2] at this
theorem ops_convb {x t u k0} {b : UInt8} (hx : s.get x = .v (.int k0 (b.toNat : Nat))) (hs : (P.underlying t).isSome = true) (ht : P.underlying u = some (.int .i64)) :
    OpS P ⟨d, .convert t u x, ty, pos, after, g⟩ s ⟨sput d (.v (.int .i64 (b.toNat : Nat))) s.fr, s.O⟩ := by
  have := b.toNat_lt
  exact ops_conv64 hx hs ht (by omega) (by omega)
theorem ops_conv8 {x t u k0} {m : Nat} (hx : s.get x = .v (.int k0 (m : Nat))) (hs : (P.underlying t).isSome = true) (ht : P.underlying u = some (.int .u8)) (h2 : m < 256) :
    OpS P ⟨d, .convert t u x, ty, pos, after, g⟩ s ⟨sput d (RVy (UInt8.ofNat m)) s.fr, s.O⟩ := by
  have := ops_conv (P := P) (d := d) (ty := ty) (pos := pos) (after := after) (g := g) hx hs ht
  have e : IntKind.u8.wrap (m : Int) = ((UInt8.ofNat m).toNat : Nat) := by
    have : (UInt8.ofNat m).toNat = m := by simp; omega
    rw [this]
    simp [IntKind.wrap, IntKind.bits, IntKind.signed]; omega
  rwa [e] at this
theorem ops_max {x y} {ts : Array TypeId} {k} {m n : Int} (hx : s.get x = .v (.int k m)) (hy : s.get y = .v (.int k n)) :
    OpS P ⟨d, .call ⟨.builtin .max, #[x, y], ts⟩, ty, pos, after, g⟩ s ⟨sput d (.v (.int k (max m n))) s.fr, s.O⟩ :=
  ops_exact fun _ a w _ _ _ hr => by
    have e : (if n > m then n else m) = max m n := by omega
    simp [execOp, resolve, invoke, builtin, Builtin.max_, Builtin.max2, hr.ex hx, hr.ex hy, e]
theorem ops_min {x y} {ts : Array TypeId} {k} {m n : Int} (hx : s.get x = .v (.int k m)) (hy : s.get y = .v (.int k n)) :
    OpS P ⟨d, .call ⟨.builtin .min, #[x, y], ts⟩, ty, pos, after, g⟩ s ⟨sput d (.v (.int k (min m n))) s.fr, s.O⟩ :=
  ops_exact fun _ a w _ _ _ hr => by
    have e : (if n < m then n else m) = min m n := by omega
    simp [execOp, resolve, invoke, builtin, Builtin.min_, Builtin.min2, hr.ex hx, hr.ex hy, e]

/-! Cuts. -/
theorem run_bound {w : World} {k : IntKind} {i y : Nat} {c : BoundsCode} (h : i ≤ y) : (Instr.sliceBound (.int k (i : Nat)) y c).run P w = .ok i w := by
  have : (0 : Int) ≤ (i : Nat) ∧ ((i : Nat) : Int) ≤ (y : Nat) := by omega
  simp [Instr.sliceBound, asIntOf, this]
theorem bytes_extract (p : List UInt8) (l h : Nat) : (⟨p.toArray⟩ : ByteArray).extract l h = ⟨((p.drop l).take (h - l)).toArray⟩ := by
  ext1
  simp [ByteArray.data_extract]
theorem size_str (p : List UInt8) : (⟨p.toArray⟩ : ByteArray).size = p.length := by show p.toArray.size = _; simp
theorem ops_scut {x lo hi t p k1 k2} {l h : Nat} (hx : s.get x = .str p) (hl : s.get lo = .v (.int k1 (l : Nat))) (hh : s.get hi = .v (.int k2 (h : Nat))) (h1 : l ≤ h) (h2 : h ≤ p.length) (ht : P.underlying t = some .string) :
    OpS P ⟨d, .slice t x (some lo) (some hi) none, ty, pos, after, g⟩ s ⟨sput d (.str ((p.drop l).take (h - l))) s.fr, s.O⟩ :=
  ops_exact fun _ a w _ _ _ hr => by
    simp [execOp, hr.ex hx, hr.ex hl, hr.ex hh, Instr.sliceAt, Instr.slice, Instr.sliceBounds, run_underlying ht, size_str, run_bound h1, run_bound h2, bytes_extract]
theorem ops_scutl {x lo t p k1} {l : Nat} (hx : s.get x = .str p) (hl : s.get lo = .v (.int k1 (l : Nat))) (h1 : l ≤ p.length) (ht : P.underlying t = some .string) :
    OpS P ⟨d, .slice t x (some lo) none none, ty, pos, after, g⟩ s ⟨sput d (.str (p.drop l)) s.fr, s.O⟩ :=
  ops_exact fun _ a w _ _ _ hr => by
    have e : (p.drop l).take (p.length - l) = p.drop l := List.take_of_length_le (by simp)
    simp [execOp, hr.ex hx, hr.ex hl, Instr.sliceAt, Instr.slice, Instr.sliceBounds, run_underlying ht, size_str, run_bound h1, bytes_extract, e]
theorem ops_scuth {x hi t p k2} {h : Nat} (hx : s.get x = .str p) (hh : s.get hi = .v (.int k2 (h : Nat))) (h2 : h ≤ p.length) (ht : P.underlying t = some .string) :
    OpS P ⟨d, .slice t x none (some hi) none, ty, pos, after, g⟩ s ⟨sput d (.str (p.take h)) s.fr, s.O⟩ :=
  ops_exact fun _ a w _ _ _ hr => by
    simp [execOp, hr.ex hx, hr.ex hh, Instr.sliceAt, Instr.slice, Instr.sliceBounds, run_underlying ht, size_str, run_bound h2, bytes_extract]
theorem FE.sh_inv2 {w F els y} (h : FE w F 1 [.sh els] [y]) : (els = [] ∧ ∃ a cap, y = .slice a 0 cap) ∨ ∃ a cap k cells, y = .slice (some a) els.length cap ∧ 0 < k ∧ F a.block ∧ els.length ≤ maxLen ∧ els.length ≤ cap ∧ CellsAt w a cells ∧ FE w F k els cells := by
  cases h with
  | shnil a cap _ => exact .inl ⟨rfl, a, cap, rfl⟩
  | sh a cap k hk hF hm hcc h1 _ => exact .inr ⟨a, cap, k, _, rfl, hk, hF, hm.1, hm.2, hcc, h1⟩
theorem SV.sh_inv2 {w F ρ els y} (h : SV w F ρ (.sh els) y []) : (els = [] ∧ ∃ a cap, y = .slice a 0 cap) ∨ ∃ a cap k cells, y = .slice (some a) els.length cap ∧ 0 < k ∧ F a.block ∧ els.length ≤ maxLen ∧ els.length ≤ cap ∧ CellsAt w a cells ∧ FE w F k els cells := by
  have h1 := h.cell rfl (by simp) (by simp) (by simp) (by simp)
  rcases h1.single rfl with ⟨h2, _⟩ | ⟨_, _, _, _, _, _, _, e, _⟩ | ⟨_, _, _, e, _⟩ | ⟨_, _, _, e, _⟩ | ⟨_, e, _⟩
  · exact h2.sh_inv2
  all_goals cases e
theorem addr_block (a : Addr) (n : Nat) : (a.add n).block = a.block := by unfold Addr.add; split <;> rfl
theorem cells_drop {w : World} {a : Addr} {cells : List Value} (h : CellsAt w a cells) (n m : Nat) : CellsAt w (a.add n) ((cells.drop n).take m) := by
  intro j y hj
  rw [List.getElem?_take] at hj
  split at hj
  · rw [List.getElem?_drop] at hj
    rw [Addr.add_add]
    exact h _ _ hj
  · cases hj
theorem cut_sh {w : World} {F : Nat → Prop} {ρ : Places} {els : List RV} {y : Value} {l h kk : Nat} (hy : SV w F ρ (.sh els) y []) (h1 : l ≤ h) (h2 : h ≤ els.length) (hwd : ∀ e ∈ els, e.width = kk) :
    ∃ a cap, y = .slice a els.length cap ∧ els.length ≤ cap ∧ SV w F ρ (.sh ((els.drop l).take (h - l))) (.slice (if cap = l then a else a.map (·.add (l * kk))) (h - l) (cap - l)) [] := by
  have mk : ∀ {r y}, r.isAgg = false → FE w F 1 [r] [y] → SV w F ρ r y [] := fun ha h => .one (.cell ha (OE.of_FE h))
  rcases hy.sh_inv2 with ⟨rfl, a, cap, rfl⟩ | ⟨a, cap, k, cells, rfl, hk, hF, hm, hcap, hca, hfe⟩
  · have hl0 : l = 0 := by simp at h2; omega
    have hh0 : h = 0 := by simpa using h2
    subst hl0; subst hh0
    exact ⟨a, cap, by simp, by simp, mk rfl (by simpa using FE.shnil _ _ (.nil _))⟩
  · refine ⟨some a, cap, rfl, hcap, mk rfl ?_⟩
    by_cases hlh : l = h
    · subst hlh
      simpa using FE.shnil _ _ (.nil _)
    · have hcl : ¬ cap = l := by omega
      rw [if_neg hcl]
      have hpos : l < els.length := by omega
      have hkk : k = kk := by
        have := (hfe.at l hpos).width
        rw [← this]
        exact hwd _ (List.getElem_mem _)
      subst hkk
      have hlen : ((els.drop l).take (h - l)).length = h - l := by simp; omega
      have h3 := ((hfe.take_drop l (by omega)).2.take_drop (h - l) (by simp; omega)).1
      have := FE.sh (w := w) (F := F) (a.add (l * k)) (cap - l) k hk (by rw [addr_block]; exact hF) (by rw [hlen]; omega) (cells_drop hca (l * k) ((h - l) * k)) h3 (.nil 1)
      rw [hlen] at this
      exact this
theorem run_size {e : TypeId} {kk : Nat} (hw : P.cellsOf e = kk) (hk : 0 < kk) (w : World) : (sizeOf e).run P w = .ok kk w := run_sizeOf hw hk w
theorem ops_cut {x lo hi t k1 k2 els kk} {l h : Nat} (hx : s.get x = .sh els) (hl : s.get lo = .v (.int k1 (l : Nat))) (hh : s.get hi = .v (.int k2 (h : Nat))) (h1 : l ≤ h) (h2 : h ≤ els.length) (ht : P.underlying t = some (.slice (P.elem t))) (hw : P.cellsOf (P.elem t) = kk) (hk : 0 < kk) (hwd : ∀ e ∈ els, e.width = kk) :
    OpS P ⟨d, .slice t x (some lo) (some hi) none, ty, pos, after, g⟩ s ⟨sput d (.sh ((els.drop l).take (h - l))) s.fr, s.O⟩ :=
  ops_val fun _ a w F ρ _ hr => by
    have h3 := hr.get x
    rw [hx] at h3
    obtain ⟨b, cap, e, hcap, hsv⟩ := cut_sh h3 h1 h2 hwd
    refine ⟨_, ?_, hsv⟩
    have h4 : h ≤ cap := by omega
    simp [execOp, e, hr.ex hl, hr.ex hh, Instr.sliceAt, Instr.slice, Instr.sliceBounds, run_underlying ht, run_bound h1, run_bound h4, run_size hw hk]
theorem ops_cutl {x lo t k1 els kk} {l : Nat} (hx : s.get x = .sh els) (hl : s.get lo = .v (.int k1 (l : Nat))) (h1 : l ≤ els.length) (ht : P.underlying t = some (.slice (P.elem t))) (hw : P.cellsOf (P.elem t) = kk) (hk : 0 < kk) (hwd : ∀ e ∈ els, e.width = kk) :
    OpS P ⟨d, .slice t x (some lo) none none, ty, pos, after, g⟩ s ⟨sput d (.sh (els.drop l)) s.fr, s.O⟩ :=
  ops_val fun _ a w F ρ _ hr => by
    have h3 := hr.get x
    rw [hx] at h3
    obtain ⟨b, cap, e, hcap, hsv⟩ := cut_sh h3 h1 (Nat.le_refl _) hwd
    have e2 : (els.drop l).take (els.length - l) = els.drop l := List.take_of_length_le (by simp)
    rw [e2] at hsv
    refine ⟨_, ?_, hsv⟩
    simp [execOp, e, hr.ex hl, Instr.sliceAt, Instr.slice, Instr.sliceBounds, run_underlying ht, run_bound h1, run_size hw hk]
theorem ops_cuth {x hi t k2 els kk} {h : Nat} (hx : s.get x = .sh els) (hh : s.get hi = .v (.int k2 (h : Nat))) (h2 : h ≤ els.length) (ht : P.underlying t = some (.slice (P.elem t))) (hw : P.cellsOf (P.elem t) = kk) (hk : 0 < kk) (hwd : ∀ e ∈ els, e.width = kk) :
    OpS P ⟨d, .slice t x none (some hi) none, ty, pos, after, g⟩ s ⟨sput d (.sh (els.take h)) s.fr, s.O⟩ :=
  ops_val fun _ a w F ρ _ hr => by
    have h3 := hr.get x
    rw [hx] at h3
    obtain ⟨b, cap, e, hcap, hsv⟩ := cut_sh h3 (Nat.zero_le h) h2 hwd
    have e2 : (els.drop 0).take (h - 0) = els.take h := by simp
    rw [e2] at hsv
    have e3 : (if cap = 0 then b else b.map (·.add (0 * kk))) = b := by
      split
      · rfl
      · cases b <;> simp [Addr.add]
    rw [e3] at hsv
    refine ⟨_, ?_, hsv⟩
    have h4 : h ≤ cap := by omega
    simp [execOp, e, hr.ex hh, Instr.sliceAt, Instr.slice, Instr.sliceBounds, run_underlying ht, run_bound h4, run_size hw hk]
    cases b <;> simp [Addr.add]
theorem wd_map {α : Type} {f : α → RV} {l : List α} {k : Nat} (h : ∀ x, (f x).width = k) : ∀ e ∈ l.map f, e.width = k := by
  intro e he
  obtain ⟨x, _, rfl⟩ := List.mem_map.1 he
  exact h x
end
end Eng
end Go.Proofs.YtmfbcipjknjicaaGreatDoor
