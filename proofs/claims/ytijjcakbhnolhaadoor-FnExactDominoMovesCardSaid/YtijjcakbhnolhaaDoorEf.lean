/- The engine, part Ef: blocks under other names, calls that are handed blocks which lead to each other, function values, addresses that are looked at, whole numbers of 64 bits without sign. No condition. -/
import Derived.Test.YtijjcakbhnolhaaDoorEe
namespace Go.Proofs.YtijjcakbhnolhaaDoor
namespace Eng
open Go.RowKit
set_option linter.unusedSimpArgs false

mutual
def RV.ren (σ : Nat → Nat) : RV → RV
  | .ref m a b => .ref (σ m) a b
  | .ptr m a b => .ptr (σ m) a b
  | .agg l => .agg (RV.renL σ l)
  | .fn f l => .fn f (RV.renL σ l)
  | .tup l => .tup (RV.renL σ l)
  | .v x => .v x
  | .any => .any
  | .sh l => .sh l
  | .ow k l => .ow k l
  | .psh e => .psh e
def RV.renL (σ : Nat → Nat) : List RV → List RV
  | [] => []
  | e :: es => e.ren σ :: RV.renL σ es
end
theorem FE.renL {w F k es cs} (σ : Nat → Nat) (h : FE w F k es cs) : RV.renL σ es = es := by
  induction h with
  | nil => simp [RV.renL]
  | v _ _ _ ih => simp [RV.renL, RV.ren, ih]
  | any _ _ _ ih => simp [RV.renL, RV.ren, ih]
  | shnil _ _ _ ih => simp [RV.renL, RV.ren, ih]
  | sh _ _ _ _ _ _ _ _ _ _ ih => simp [RV.renL, RV.ren, ih]
  | psh _ _ _ _ _ _ _ _ ih => simp [RV.renL, RV.ren, ih]
  | agg _ _ _ ih1 ih2 => simp [RV.renL, RV.ren, ih1, ih2]
theorem OE.ren {w F ρ ρ' k es cs fp} (σ : Nat → Nat) (h : OE w F ρ k es cs fp) (hn : ∀ n ∈ RV.namesL es, ρ' (σ n) = ρ n) : OE w F ρ' k (RV.renL σ es) cs fp := by
  induction h with
  | nil => exact .nil _ _
  | fz h1 _ ih =>
    have e := h1.renL σ
    simp only [RV.renL, List.cons.injEq, and_true] at e ⊢
    rw [e]
    exact .fz h1 (ih fun n hx => hn n (by simp [RV.namesL, hx]))
  | ow b cap ty c hk hb hs hl hm hc hnn h1 _ _ ih2 => simp only [RV.renL, RV.ren]; exact .ow b cap ty c hk hb hs hl hm hc hnn h1 (ih2 fun n hx => hn n (by simp [RV.namesL, hx]))
  | ownil k hk _ ih => simp only [RV.renL, RV.ren]; exact .ownil k hk (ih fun n hx => hn n (by simp [RV.namesL, hx]))
  | ref n off len hr _ ih =>
    simp only [RV.renL, RV.ren]
    have e := hn n (by simp [RV.namesL, RV.names])
    rw [← e]
    exact .ref (σ n) off len (by rw [e]; exact hr) (ih fun n hx => hn n (by simp [RV.namesL, hx]))
  | ptr n i j hr _ ih =>
    simp only [RV.renL, RV.ren]
    have e := hn n (by simp [RV.namesL, RV.names])
    rw [← e]
    exact .ptr (σ n) i j (by rw [e]; exact hr) (ih fun n hx => hn n (by simp [RV.namesL, hx]))
  | agg _ hk _ ih1 ih2 => simp only [RV.renL, RV.ren]; exact .agg (ih1 fun n hx => hn n (by simp [RV.namesL, RV.names, hx])) hk (ih2 fun n hx => hn n (by simp [RV.namesL, hx]))
  | fn f _ _ ih1 ih2 => simp only [RV.renL, RV.ren]; exact .fn f (ih1 fun n hx => hn n (by simp [RV.namesL, RV.names, hx])) (ih2 fun n hx => hn n (by simp [RV.namesL, hx]))
theorem S1.ren {w F ρ ρ' e y fp} (σ : Nat → Nat) (h : S1 w F ρ e y fp) (hn : ∀ n ∈ e.names, ρ' (σ n) = ρ n) : S1 w F ρ' (e.ren σ) y fp := by
  cases h with
  | any => simp only [RV.ren]; exact .any _
  | v => simp only [RV.ren]; exact .v _
  | cell ha h =>
    have := h.ren σ (fun n hx => hn n (by simpa [RV.namesL] using hx))
    simp only [RV.renL] at this
    refine .cell ?_ this
    cases e <;> simp [RV.ren, RV.isAgg] at ha ⊢
  | agg h => simp only [RV.ren]; exact .agg (h.ren σ fun n hx => hn n (by simpa [RV.names] using hx))
  | fn h => simp only [RV.ren]; exact .fn (h.ren σ fun n hx => hn n (by simpa [RV.names] using hx))
theorem SL.ren {w F ρ ρ' es ys fp} (σ : Nat → Nat) (h : SL w F ρ es ys fp) (hn : ∀ n ∈ RV.namesL es, ρ' (σ n) = ρ n) : SL w F ρ' (RV.renL σ es) ys fp := by
  induction h with
  | nil => simp only [RV.renL]; exact .nil
  | cons h1 _ ih => simp only [RV.renL]; exact .cons (h1.ren σ fun n hx => hn n (by simp [RV.namesL, hx])) (ih fun n hx => hn n (by simp [RV.namesL, hx]))
theorem SV.ren {w F ρ ρ' e y fp} (σ : Nat → Nat) (h : SV w F ρ e y fp) (hn : ∀ n ∈ e.names, ρ' (σ n) = ρ n) : SV w F ρ' (e.ren σ) y fp := by
  cases h with
  | one h => exact .one (h.ren σ hn)
  | tup h => simp only [RV.ren]; exact .tup (h.ren σ fun n hx => hn n (by simpa [RV.names] using hx))
def renO (σ : Nat → Nat) : List Bk → List Bk
  | [] => []
  | (n, k, els) :: O => (σ n, k, RV.renL σ els) :: renO σ O
theorem length_renL (σ : Nat → Nat) (l : List RV) : (RV.renL σ l).length = l.length := by
  induction l with
  | nil => simp [RV.renL]
  | cons x xs ih => simp [RV.renL, ih]
theorem mapEls_ren (σ : Nat → Nat) (b : Nat) (m : List (Value × Value)) : RV.renL σ (mapEls b m) = mapEls b m := by
  unfold mapEls
  simp only [RV.renL, RV.ren, List.cons.injEq, true_and]
  induction m with
  | nil => rfl
  | cons x xs ih => simp [RV.renL, RV.ren, ih]
theorem KObj.ren {w : World} {b els} (σ : Nat → Nat) (h : KObj w b els) : RV.renL σ els = els := by
  cases h with
  | map => exact mapEls_ren _ _ _
  | iter => simp [itEls, RV.renL, RV.ren]
  | byt => simp [byEls, RV.renL, RV.ren]
theorem OL.ren {w F ρ ρ' O fp} (σ : Nat → Nat) (h : OL w F ρ O fp) (hn : ∀ n ∈ onames O, ρ' (σ n) = ρ n) : OL w F ρ' (renO σ O) fp := by
  induction h with
  | nil hg => exact .nil hg
  | @nilb n k O fp hk hρ h ih =>
    simp only [renO, RV.renL]
    exact .nilb hk ((hn n (by simp [onames])).trans hρ) (ih fun n hx => hn n (by simp [onames, hx]))
  | @map n b els O fp hρ hb h ih =>
    simp only [renO, hb.ren]
    exact .map (by rw [hn n (by simp [onames])]; exact hρ) hb (ih fun n hx => hn n (by simp [onames, hx]))
  | @cons n b k els ty c cells O fp1 fp2 hk hρ hρb hb hs hl hm hc he h ih =>
    simp only [renO]
    have e := hn n (by simp [onames])
    exact .cons hk (by rw [e]; exact hρ) (by rw [e]; exact hρb) hb (by rw [e]; exact hs) (by rw [e, length_renL]; exact hl) (by rw [e]; exact hm) (by rw [length_renL]; exact hc) (he.ren σ fun n hx => hn n (by simp [onames, hx])) (ih fun n hx => hn n (by simp [onames, hx]))

def unpin (M : List Bk) (n : Nat) : Nat := match M[n - 1000000000000]? with | some b => b.1 | none => n
def killLs : List Nat → List RV → List RV
  | [], fr => fr
  | n :: ns, fr => killLs ns (RV.killL n fr)
theorem RelX.killLs {E a w F ρ fp} : ∀ (ns : List Nat) {s : St}, RelX E s a w F ρ fp → RelX E ⟨Eng.killLs ns s.fr, s.O⟩ a w F ρ fp
  | [], _, h => h
  | n :: ns, s, h => by
    have h1 : RelX E ⟨RV.killL n s.fr, s.O⟩ a w F ρ fp :=
      { h with size := by simpa using h.size, fr := fun i => by rw [lget_killL]; exact (h.fr i).kill n (fun _ _ => rfl) }
    exact RelX.killLs ns h1

section
variable {P : Program} {s : St} {d : Tmp} {ty : TypeId} {pos : String} {after : Array Edge} {g : Option (Nat × Bool)}
theorem SV.fn_inv {w F ρ f l y fp} (h : SV w F ρ (.fn f l) y fp) : ∃ c, y = mkF f c ∧ OE w F ρ 1 l c fp := by
  cases h with
  | one h =>
    cases h with
    | cell ha h =>
      obtain ⟨c, h1, h2, rfl⟩ := h.fn_inv
      exact ⟨c, h1, h2⟩
    | fn h => exact ⟨_, rfl, h⟩
end
section
variable {P : Program} {s : St} {d : Option Tmp} {ty : TypeId} {pos : String} {after : Array Edge} {g : Option (Nat × Bool)}
theorem ops_nilCheck {x n i j k els} (hx : s.get x = .ptr n i j) (ho : olook n s.O = some (k, els)) (hne : els ≠ []) : OpS P ⟨d, .nilCheck x, ty, pos, after, g⟩ s ⟨sput d (.ptr n i j) s.fr, s.O⟩ :=
  ops_val fun _ a w F ρ fp hr => by
    have h1 := hr.get x
    rw [hx] at h1
    obtain ⟨fp', hr'⟩ := hr.front ho
    obtain ⟨b, ty, c, fp1, fp2, hk, hρ, hρb, _⟩ := hr'.O.head hne h1.ptr_pos
    have h2 := h1.ptr_inv
    have h3 := h2
    simp only [hρb, Option.map_some] at h2
    exact ⟨a.eval x, by simp [execOp, h2], h1⟩
theorem fs_nilCheck {RO x n i j k els} (hx : s.get x = .ptr n i j) (hro : RO n = true) (ho : olook n s.O = some (k, els)) (hne : els ≠ []) : Fs P RO ⟨d, .nilCheck x, ty, pos, after, g⟩ s (.ptr n i j) := fun s2 hs hO =>
  ops_nilCheck ((hs _ (by simp [Op.operands])).trans hx) ((hO _ hro).trans ho) hne
def addW (m n : Nat) : Nat := (m + n) % 18446744073709551616
def mulW (m n : Nat) : Nat := (m * n) % 18446744073709551616
def shrW (m n : Nat) : Nat := m / 2 ^ n
def andW (m n : Nat) : Nat := m &&& n
attribute [irreducible] addW mulW shrW andW
theorem le_ren {fr fr' : List RV} {O O' : List Bk} (n m : Nat) (hn : n < 1000000000000) (hm : m < 1000000000000) (h1 : m ∉ RV.namesL fr) (h2 : m ∉ onames O) (e1 : RV.renL (fun q => if q = n then m else q) fr = fr') (e2 : renO (fun q => if q = n then m else q) O = O') : LE ⟨fr, O⟩ ⟨fr', O'⟩ := by
  subst e1; subst e2
  refine ⟨?_⟩
  rintro E a w ⟨F, ρ, fp, h⟩
  have hρ : ∀ q, q ≠ m → (fun q => if q = m then ρ n else ρ q) (if q = n then m else q) = ρ q := by
    intro q hq
    by_cases hqn : q = n
    · subst hqn; simp
    · simp [hqn, hq]
  have hlg : ∀ (l : List RV) (i : Nat), lget (RV.renL (fun q => if q = n then m else q) l) i = (lget l i).ren (fun q => if q = n then m else q) := by
    intro l
    induction l with
    | nil => intro i; simp [RV.renL, lget, RV.ren]
    | cons x xs ih => intro i; cases i <;> simp [RV.renL, lget, ih]
  refine ⟨F, fun q => if q = m then ρ n else ρ q, fp, { h with size := by rw [length_renL]; exact h.size, fr := fun i => ?_, O := ?_, pin := fun q hq => ?_ }⟩
  · rw [hlg]
    exact (h.fr i).ren _ fun q hq => hρ q fun e => h1 (e ▸ names_lget _ _ _ hq)
  · exact h.O.ren _ fun q hq => hρ q fun e => h2 (e ▸ hq)
  · rw [if_neg (by omega)]; exact h.pin q hq
theorem ng : (∀ σ : Nat → Nat, RV.renL σ [] = []) ∧ (∀ (σ : Nat → Nat) e l, RV.renL σ (e :: l) = e.ren σ :: RV.renL σ l) ∧ (∀ (σ : Nat → Nat) x, (RV.v x).ren σ = .v x) ∧ (∀ σ : Nat → Nat, RV.any.ren σ = .any) ∧ (∀ (σ : Nat → Nat) l, (RV.sh l).ren σ = .sh l) ∧ (∀ (σ : Nat → Nat) k l, (RV.ow k l).ren σ = .ow k l) ∧ (∀ (σ : Nat → Nat) e, (RV.psh e).ren σ = .psh e) ∧
    (∀ (σ : Nat → Nat) n a b, (RV.ref n a b).ren σ = .ref (σ n) a b) ∧ (∀ (σ : Nat → Nat) n a b, (RV.ptr n a b).ren σ = .ptr (σ n) a b) ∧ (∀ (σ : Nat → Nat) l, (RV.agg l).ren σ = .agg (RV.renL σ l)) ∧ (∀ (σ : Nat → Nat) l, (RV.tup l).ren σ = .tup (RV.renL σ l)) ∧ (∀ (σ : Nat → Nat) f l, (RV.fn f l).ren σ = .fn f (RV.renL σ l)) ∧
    (∀ σ : Nat → Nat, renO σ [] = []) ∧ (∀ (σ : Nat → Nat) n k els O, renO σ ((n, k, els) :: O) = (σ n, k, RV.renL σ els) :: renO σ O) := by
  simp [RV.renL, RV.ren, renO]
theorem renL_map0 {α : Type} (σ : Nat → Nat) (f : α → RV) (l : List α) (h : ∀ x, (f x).ren σ = f x) : RV.renL σ (l.map f) = l.map f := by
  induction l with
  | nil => simp [RV.renL]
  | cons x xs ih => simp [RV.renL, h, ih]
end
theorem RelX.alias {E fr n m k els Or a w F ρ fp} (h : RelX E ⟨fr, (n, k, els) :: Or⟩ a w F ρ fp) (hm : m < 1000000000000) (h1 : m ∉ RV.namesL fr) (h2 : m ∉ onames ((n, k, els) :: Or)) : RelX E ⟨fr, (m, k, els) :: Or⟩ a w F (fun q => if q = m then ρ n else ρ q) fp := by
  have hρ : ∀ q, q ≠ m → (fun q => if q = m then ρ n else ρ q) q = ρ q := fun q hq => by simp [hq]
  have hO := h.O
  simp only [onames, List.mem_cons, List.mem_append, not_or] at h2
  refine { h with fr := fun i => (h.fr i).places fun q hq => hρ q fun e => h1 (e ▸ names_lget _ _ _ hq), O := ?_, pin := fun q hq => ?_ }
  · cases hO with
    | map hn hb hO => exact .map (by simpa using hn) hb (hO.places fun q hq => hρ q fun e => h2.2.2 (e ▸ hq))
    | nilb hk hn hO => exact .nilb hk (by simpa using hn) (hO.places fun q hq => hρ q fun e => h2.2.2 (e ▸ hq))
    | cons hk h3 h4 hb hs hl hmx hc he hO =>
      exact .cons hk (by simpa using h3) (by simpa using h4) hb (by simpa using hs) (by simpa using hl) (by simpa using hmx) hc (he.places fun q hq => hρ q fun e => h2.2.1 (e ▸ hq)) (hO.places fun q hq => hρ q fun e => h2.2.2 (e ▸ hq))
  · simpa [show ¬ q = m by omega] using h.pin q hq
theorem onames_oerase2 {n m q : Nat} {O : List Bk} (h : m ∉ onames O) : m ∉ onames (oerase n (oerase q O)) := fun hx => h (onames_oerase (onames_oerase hx))
theorem killL_id {n : Nat} : ∀ {l : List RV}, n ∉ RV.namesL l → RV.killL n l = l
  | [], _ => by simp [RV.killL]
  | e :: es, h => by
    simp only [RV.namesL, List.mem_append, not_or] at h
    simp only [RV.killL, killL_id h.2]
    congr 1
    exact kill_id h.1
where kill_id {n : Nat} : ∀ {e : RV}, n ∉ e.names → e.kill n = e
  | .ref m a b, h => by simp only [RV.names, List.mem_singleton] at h; simp only [RV.kill]; rw [if_neg (fun e => h e.symm)]
  | .ptr m a b, h => by simp only [RV.names, List.mem_singleton] at h; simp only [RV.kill]; rw [if_neg (fun e => h e.symm)]
  | .agg l, h => by simp only [RV.names] at h; simp only [RV.kill, killL_id h]
  | .fn f l, h => by simp only [RV.names] at h; simp only [RV.kill, killL_id h]
  | .tup l, h => by simp only [RV.names] at h; simp only [RV.kill, killL_id h]
  | .v x, _ => by simp [RV.kill]
  | .any, _ => by simp [RV.kill]
  | .sh l, _ => by simp [RV.kill]
  | .ow k l, _ => by simp [RV.kill]
  | .psh e, _ => by simp [RV.kill]
section
variable {P : Program} {s : St} {d : Tmp} {ty : TypeId} {pos : String} {after : Array Edge} {g : Option (Nat × Bool)}
theorem ops_append_new {x y t n m q k els els2} (hx : s.get x = .ref n 0 els.length) (hy : s.get y = .ref q 0 els2.length) (ho : olook n s.O = some (k, els)) (ho2 : olook q s.O = some (k, els2)) (hne : n ≠ q) (h0 : els2 ≠ [])
    (hm : m < 1000000000000) (hm1 : m ∉ RV.namesL s.fr) (hm2 : m ∉ onames s.O)
    (ht : P.underlying t = some (.slice (P.elem t))) (hw : P.cellsOf (P.elem t) = k) (hz : (zeroOf P (P.elem t)).map (fun z => decide (z.cells.size = k)) = some true) (hb : (P.info? (P.elem t)).map (fun i => decide (i.bytes ≤ 64)) = some true) (hlen : els.length + els2.length ≤ 1099511627776) :
    OpS P ⟨some d, .call ⟨.builtin .append, #[x, y], #[t, t]⟩, ty, pos, after, g⟩ s ⟨lset s.fr d (.ref m 0 (els.length + els2.length)), (m, k, els ++ els2) :: oerase n (oerase q s.O)⟩ :=
  ops_of fun E a w F ρ fp hr => by
    have h1 := (show SV w F ρ (.ref n 0 els.length) (a.eval x) [] from hx ▸ hr.get x).ref_inv
    have h2 := (show SV w F ρ (.ref q 0 els2.length) (a.eval y) [] from hy ▸ hr.get y).ref_inv
    obtain ⟨fpm, hrm⟩ := hr.front ho2
    have ho' := olook_ne ho hne
    obtain ⟨b, tb, c, fp1, fpr, hk, hρ, hρb, hbb, hs, hl, hmx, hE, hO2, rfl⟩ := hrm.O.head h0 (show SV w F ρ (.ref q 0 els2.length) (a.eval y) [] from hy ▸ hr.get y).ref_pos
    obtain ⟨fpn, hOn, hpn⟩ := hO2.pull ho'
    have hnd := hrm.nodup
    have hrel : RelX E ⟨s.fr, (n, k, els) :: oerase n (oerase q s.O)⟩ a w F ρ fpn :=
      hrm.weakO hOn (hpn.nodup_iff.1 (hnd.sublist ((List.sublist_append_right _ _).cons _))) fun x hx => by simp [hpn.mem_iff.2 hx]
    have hnd2 : (fp1 ++ fpn).Nodup := ((List.Perm.refl fp1).append hpn).nodup_iff.1 (hnd.sublist (List.sublist_cons_self _ _))
    have hmn : m ∉ RV.namesL els := fun hx => hm2 (onames_olook ho (.inr hx))
    have hmq : m ∉ RV.namesL els2 := fun hx => hm2 (onames_olook ho2 (.inr hx))
    have hmr : m ∉ onames (oerase n (oerase q s.O)) := onames_oerase2 hm2
    have hmnn : m ≠ n := fun e => hm2 (onames_olook ho (.inl e))
    have hal := hrel.alias (m := m) hm hm1 (by simp only [onames, List.mem_cons, List.mem_append, not_or]; exact ⟨hmnn, hmn, hmr⟩)
    obtain ⟨yv, w', ρ', fp', hrun, hsv, hfin⟩ := hal.append (P := P) (cap2 := (ρ q).2.2 - 0) (OE.block hbb _) (hE.places (ρ' := fun z => if z = m then ρ n else ρ z) fun z hz => by have : z ≠ m := fun e => hmq (e ▸ hz); simp [this]) hE.one hnd2
      (fun z hz => ⟨hrm.fpF z (by simp [hz]), hrm.fpE z (by simp [hz])⟩) ⟨hm, hmn⟩ hmq hmr (t := t) (ty := ty) ht hw hz hb hlen (by simpa using (show SV w F ρ (.ref n 0 els.length) (a.eval x) [] from hx ▸ hr.get x).ref_pos)
    rw [killL_id hm1] at hfin
    refine ⟨yv, w', ?_, F, ρ', fp', hfin.put (some d) hsv⟩
    simp only [if_true] at hrun
    simp only [Nat.zero_mul, hρb, Option.map_some] at h1 h2
    simp only [Nat.sub_zero] at h1 h2 hrun
    simp [execOp, resolve, invoke, builtin, h1, h2, hrun]
end
section
variable {P : Program} {ops : Array Oper} {s : St} {d : Tmp} {ty : TypeId} {pos : String} {after : Array Edge}
theorem Ef.appendNew {x y t n q k els els2} (m : Nat) (hx : s.get x = .ref n 0 els.length) (hy : s.get y = .ref q 0 els2.length) (ho : olook n s.O = some (k, els)) (ho2 : olook q s.O = some (k, els2)) (hne : n ≠ q) (h0 : els2 ≠ [])
    (hm : m < 1000000000000) (hm2 : m ∉ onames s.O)
    (ht : P.underlying t = some (.slice (P.elem t))) (hw : P.cellsOf (P.elem t) = k) (hz : (zeroOf P (P.elem t)).map (fun z => decide (z.cells.size = k)) = some true) (hb : (P.info? (P.elem t)).map (fun i => decide (i.bytes ≤ 64)) = some true) (hlen : els.length + els2.length ≤ 1099511627776) :
    Ef P ops [m] ⟨some d, .call ⟨.builtin .append, #[x, y], #[t, t]⟩, ty, pos, after, none⟩ s (.ref m 0 (els.length + els2.length)) ((m, k, els ++ els2) :: oerase n (oerase q s.O)) := by
  refine Ef.plain fun s2 hs hO hn => ?_
  have e1 := hs x (by simp [Op.operands, Call.operands])
  have e2 := hs y (by simp [Op.operands, Call.operands])
  have := ops_append_new (P := P) (s := s2) (d := d) (ty := ty) (pos := pos) (after := after) (g := none) (t := t) (m := m) (e1.trans hx) (e2.trans hy) (hO ▸ ho) (hO ▸ ho2) hne h0 hm (hn m (by simp)) (hO ▸ hm2) ht hw hz hb hlen
  rw [hO] at this
  exact this
theorem Ef.buildSlice {t n} {parts : Array (Nat × Operand)} {els : List RV} {k : Nat} (hp : parts.toList.map Prod.fst = List.range n) (hels : parts.toList.map (fun p => s.get p.2) = els) (hst : els.all (fun r => (r.stores || r.isAgg) && r.width == k) = true) (hk : 0 < k) (hnk : n * k ≤ 16777216)
    (ht : P.underlying t = some (.slice (P.elem t))) (hw : P.cellsOf (P.elem t) = k) {z : Value} (hz : zeroOf P (P.elem t) = some z) (hd : d < 1000000000000) (hO : d ∉ onames s.O) (hn : d ∉ RV.namesL els) :
    Ef P ops [d] ⟨some d, .buildSlice t n parts, ty, pos, after, none⟩ s (.ref d 0 els.length) ((d, k, els) :: s.O) := by
  refine Ef.plain fun s2 hs hO2 hn2 => ?_
  have hels2 : parts.toList.map (fun p => s2.get p.2) = els := by
    rw [← hels]
    refine List.map_congr_left fun p hp => hs p.2 ?_
    simp only [Op.operands, Array.toList_map, List.mem_map]
    exact ⟨p, hp, rfl⟩
  have := ops_buildSlice (P := P) (s := s2) (d := d) (ty := ty) (pos := pos) (after := after) (g := none) hp hels2 hst hk hnk ht hw hz ⟨hd, hn2 d (by simp)⟩ (hO2 ▸ hO) hn
  rw [hO2] at this
  exact this
end
theorem renL_id {σ : Nat → Nat} : ∀ {l : List RV}, RV.namesL l = [] → RV.renL σ l = l
  | [], _ => by simp [RV.renL]
  | e :: es, h => by
    simp only [RV.namesL, List.append_eq_nil_iff] at h
    simp only [RV.renL, renL_id h.2]
    congr 1
    exact ren_id h.1
where ren_id {σ : Nat → Nat} : ∀ {e : RV}, e.names = [] → e.ren σ = e
  | .ref m a b, h => by simp [RV.names] at h
  | .ptr m a b, h => by simp [RV.names] at h
  | .agg l, h => by simp only [RV.names] at h; simp only [RV.ren, renL_id h]
  | .fn f l, h => by simp only [RV.names] at h; simp only [RV.ren, renL_id h]
  | .tup l, h => by simp only [RV.names] at h; simp only [RV.ren, renL_id h]
  | .v x, _ => by simp [RV.ren]
  | .any, _ => by simp [RV.ren]
  | .sh l, _ => by simp [RV.ren]
  | .ow k l, _ => by simp [RV.ren]
  | .psh e, _ => by simp [RV.ren]
section
variable {P : Program} {s : St} {d : Tmp} {ty : TypeId} {pos : String} {after : Array Edge} {g : Option (Nat × Bool)}
end
section
variable {P : Program} {s : St} {d : Tmp} {ty : TypeId} {pos : String} {after : Array Edge} {g : Option (Nat × Bool)}
theorem ops_append_newsh {x y t n m k els els2} (hx : s.get x = .ref n 0 els.length) (hy : s.get y = .sh els2) (ho : olook n s.O = some (k, els)) (hwd : els2.all (fun e => e.width == k) = true)
    (hm : m < 1000000000000) (hm1 : m ∉ RV.namesL s.fr) (hm2 : m ∉ onames s.O)
    (ht : P.underlying t = some (.slice (P.elem t))) (hw : P.cellsOf (P.elem t) = k) (hz : (zeroOf P (P.elem t)).map (fun z => decide (z.cells.size = k)) = some true) (hb : (P.info? (P.elem t)).map (fun i => decide (i.bytes ≤ 64)) = some true) (hlen : els.length + els2.length ≤ 1099511627776) :
    OpS P ⟨some d, .call ⟨.builtin .append, #[x, y], #[t, t]⟩, ty, pos, after, g⟩ s ⟨lset s.fr d (.ref m 0 (els.length + els2.length)), (m, k, els ++ els2) :: oerase n s.O⟩ :=
  ops_of fun E a w F ρ fp hr => by
    have h1 := (show SV w F ρ (.ref n 0 els.length) (a.eval x) [] from hx ▸ hr.get x).ref_inv
    have h2 := (show SV w F ρ (.sh els2) (a.eval y) [] from hy ▸ hr.get y).sh_inv
    have hpn := (show SV w F ρ (.ref n 0 els.length) (a.eval x) [] from hx ▸ hr.get x).ref_pos
    obtain ⟨fpn, hrn⟩ := hr.front ho
    have hmn : m ∉ RV.namesL els := fun hx => hm2 (onames_olook ho (.inr hx))
    have hmr : m ∉ onames (oerase n s.O) := fun hx => hm2 (onames_oerase hx)
    have hmnn : m ≠ n := fun e => hm2 (onames_olook ho (.inl e))
    have hal := hrn.alias (m := m) hm hm1 (by simp only [onames, List.mem_cons, List.mem_append, not_or]; exact ⟨hmnn, hmn, hmr⟩)
    have fin : ∀ (a2 : Addr) (cap2 : Nat) (cells : List Value), a.eval y = .slice (some a2) els2.length cap2 → CellsAt w a2 cells → FE w F k els2 cells → ∃ y_1 w', (execOp a.eval ⟨some d, .call ⟨.builtin .append, #[x, y], #[t, t]⟩, ty, pos, after, g⟩).run P w = .ok (.value y_1) w' ∧
        Rel E ⟨lset s.fr d (.ref m 0 (els.length + els2.length)), (m, k, els ++ els2) :: oerase n s.O⟩ (a.put (some d) y_1) w' := by
      intro a2 cap2 cells hey hc hf
      obtain ⟨yv, w', ρ', fp', hrun, hsv, hfin⟩ := hal.append (P := P) (cap2 := cap2) hc (OE.of_FE hf) hf.one (by simpa using hrn.nodup) (by simp) ⟨hm, hmn⟩ (by rw [hf.names]; simp) hmr (t := t) (ty := ty) ht hw hz hb hlen (by simpa using (show SV w F ρ (.ref n 0 els.length) (a.eval x) [] from hx ▸ hr.get x).ref_pos)
      rw [killL_id hm1] at hfin
      refine ⟨yv, w', ?_, F, ρ', fp', hfin.put (some d) hsv⟩
      simp only [if_true] at hrun
      simp only [Nat.zero_mul, Nat.sub_zero] at h1
      simp [execOp, resolve, invoke, builtin, h1, hey, hrun]
    rcases h2 with ⟨_, ⟨rfl, a2, cap, h2⟩ | ⟨a2, cap, k', cells, h2, hk', hF, hmx, hc, hf⟩⟩
    · have hsv : SV w F (fun q => if q = m then ρ n else ρ q) (.ref m 0 els.length) (a.eval x) [] := by
        have := h1
        rw [this]
        have h3 := SV.one (.cell rfl (OE.ref (w := w) (F := F) (ρ := fun q => if q = m then ρ n else ρ q) m 0 els.length (by simpa using (show SV w F ρ (.ref n 0 els.length) (a.eval x) [] from hx ▸ hr.get x).ref_pos) (.nil _ _)))
        simpa using h3
      refine ⟨a.eval x, w, ?_, F, (fun q => if q = m then ρ n else ρ q), fpn, ?_⟩
      · cases hi : P.info? (P.elem t) with
        | none => simp [hi] at hb
        | some i =>
          have hle : els.length ≤ (ρ n).2.2 := by
            cases hrn.O with
            | nilb _ hρ _ => simp
            | cons _ _ _ _ _ hl _ _ _ _ => exact hl
            | map hρ0 => exact absurd hρ0 hpn
          simp only [Nat.zero_mul, Nat.sub_zero] at h1
          cases hρb : (ρ n).1 with
          | none => cases a2 <;> simp [execOp, resolve, invoke, builtin, h1, h2, hρb, Builtin.append_, run_underlying ht, sizeOf, typeInfo, hi, Builtin.lenOf, Builtin.firstCells, loadCells, loadCellsFrom, hle]
          | some b => cases a2 <;> simp [execOp, resolve, invoke, builtin, h1, h2, hρb, Builtin.append_, run_underlying ht, sizeOf, typeInfo, hi, Builtin.lenOf, Builtin.firstCells, loadCells, loadCellsFrom, hle, storeCells]
      · have h5 := hal.put (some d) hsv
        simpa [sput] using h5
    · have hkk : k' = k ∨ els2 = [] := by
        cases els2 with
        | nil => exact .inr rfl
        | cons e es =>
          left
          obtain ⟨c1, c2, _, _, h3, _⟩ := hf.cons_inv
          simp only [List.all_cons, Bool.and_eq_true, beq_iff_eq] at hwd
          rw [← hwd.1, h3.width]
      rcases hkk with rfl | rfl
      · exact fin a2 cap cells h2 hc hf
      · cases hf; exact fin a2 cap [] h2 (fun j y hj => by simp at hj) (.nil _)
end
section
variable {P : Program} {ops : Array Oper} {s : St} {d : Tmp} {ty : TypeId} {pos : String} {after : Array Edge}
theorem Ef.appendNewsh {x y t n k els els2} (m : Nat) (hx : s.get x = .ref n 0 els.length) (hy : s.get y = .sh els2) (ho : olook n s.O = some (k, els)) (hwd : els2.all (fun e => e.width == k) = true)
    (hm : m < 1000000000000) (hm2 : m ∉ onames s.O)
    (ht : P.underlying t = some (.slice (P.elem t))) (hw : P.cellsOf (P.elem t) = k) (hz : (zeroOf P (P.elem t)).map (fun z => decide (z.cells.size = k)) = some true) (hb : (P.info? (P.elem t)).map (fun i => decide (i.bytes ≤ 64)) = some true) (hlen : els.length + els2.length ≤ 1099511627776) :
    Ef P ops [m] ⟨some d, .call ⟨.builtin .append, #[x, y], #[t, t]⟩, ty, pos, after, none⟩ s (.ref m 0 (els.length + els2.length)) ((m, k, els ++ els2) :: oerase n s.O) := by
  refine Ef.plain fun s2 hs hO hn => ?_
  have e1 := hs x (by simp [Op.operands, Call.operands])
  have e2 := hs y (by simp [Op.operands, Call.operands])
  have := ops_append_newsh (P := P) (s := s2) (d := d) (ty := ty) (pos := pos) (after := after) (g := none) (t := t) (m := m) (e1.trans hx) (e2.trans hy) (hO ▸ ho) hwd hm (hn m (by simp)) (hO ▸ hm2) ht hw hz hb hlen
  rw [hO] at this
  exact this
end
section
variable {P : Program} {ops : Array Oper} {s : St} {d : Tmp} {ty : TypeId} {pos : String} {after : Array Edge}
theorem Ef.apNew {x y t n m q k els els2 len len2} (hx : s.get x = .ref n 0 len) (hy : s.get y = .ref q 0 len2) (ho : olook n s.O = some (k, els)) (ho2 : olook q s.O = some (k, els2)) (hne : n ≠ q) (hl : len = els.length) (hl2 : len2 = els2.length) (h0 : els2 ≠ [])
    (hm : m < 1000000000000) (hm2 : m ∉ onames s.O) (ha : appOk P t k) (hlen : els.length + els2.length ≤ 1099511627776) :
    Ef P ops [m] ⟨some d, .call ⟨.builtin .append, #[x, y], #[t, t]⟩, ty, pos, after, none⟩ s (.ref m 0 (els ++ els2).length) ((m, k, els ++ els2) :: oerase n (oerase q s.O)) := by
  subst hl; subst hl2
  have := Ef.appendNew (P := P) (ops := ops) (d := d) (ty := ty) (pos := pos) (after := after) m hx hy ho ho2 hne h0 hm hm2 ha.1 ha.2.1 ha.2.2.1 ha.2.2.2 hlen
  rwa [← List.length_append] at this
theorem Ef.apNewsh {x y t n m k els els2 len} (hx : s.get x = .ref n 0 len) (hy : s.get y = .sh els2) (ho : olook n s.O = some (k, els)) (hl : len = els.length) (hwd : els2.all (fun e => e.width == k) = true)
    (hm : m < 1000000000000) (hm2 : m ∉ onames s.O) (ha : appOk P t k) (hlen : els.length + els2.length ≤ 1099511627776) :
    Ef P ops [m] ⟨some d, .call ⟨.builtin .append, #[x, y], #[t, t]⟩, ty, pos, after, none⟩ s (.ref m 0 (els ++ els2).length) ((m, k, els ++ els2) :: oerase n s.O) := by
  subst hl
  have := Ef.appendNewsh (P := P) (ops := ops) (d := d) (ty := ty) (pos := pos) (after := after) m hx hy ho hwd hm hm2 ha.1 ha.2.1 ha.2.2.1 ha.2.2.2 hlen
  rwa [← List.length_append] at this
end
section
variable {P : Program} {s : St} {d : Option Tmp} {ty : TypeId} {pos : String} {after : Array Edge} {g : Option (Nat × Bool)}
theorem ops_buildSlice_fz {t n} {parts : Array (Nat × Operand)} {els : List RV} {k : Nat} (hp : parts.toList.map Prod.fst = List.range n) (hels : parts.toList.map (fun p => s.get p.2) = els) (hst : els.all (fun r => (r.stores || r.isAgg) && r.width == k) = true) (hk : 0 < k) (hnk : n * k ≤ 16777216)
    (ht : P.underlying t = some (.slice (P.elem t))) (hw : P.cellsOf (P.elem t) = k) {z : Value} (hz : zeroOf P (P.elem t) = some z) :
    OpS P ⟨d, .buildSlice t n parts, ty, pos, after, g⟩ s ⟨sput d (.sh (RV.fzL els)) s.fr, s.O⟩ :=
  ops_of fun E a w F ρ fp hr => by
    have hlen : els.length = n := by rw [← hels, List.length_map, ← List.length_map (f := Prod.fst), hp]; simp
    have hys : ∀ (l : List (Nat × Operand)), (l.map (fun p => s.get p.2)).all (fun r => (r.stores || r.isAgg) && r.width == k) = true → OE w F ρ k (l.map fun p => s.get p.2) ((l.map fun p => a.eval p.2).flatMap fun v => v.cells.toList) [] ∧ ∀ v ∈ l.map (fun p => a.eval p.2), v.cells.size = k := by
      intro l
      induction l with
      | nil => intro _; exact ⟨.nil _ _, by simp⟩
      | cons p l ih =>
        intro hall
        simp only [List.map_cons, List.all_cons, Bool.and_eq_true, Bool.or_eq_true, beq_iff_eq] at hall
        obtain ⟨h1, h2⟩ := ih (by simpa using hall.2)
        obtain ⟨h3, h4⟩ := (hr.get p.2).elem hall.1.1 hall.1.2
        refine ⟨by simpa using OE.cons h3 h1, ?_⟩
        intro v hv
        rcases List.mem_cons.1 hv with rfl | hv
        · exact h4
        · exact h2 v hv
    obtain ⟨hE, hsz⟩ := hys parts.toList (by rw [hels]; exact hst)
    rw [hels] at hE
    have hfl := hE.length
    have hrunV : (execOp a.eval ⟨d, .buildSlice t n parts, ty, pos, after, g⟩).run P w = .ok (.value (.slice (some ⟨w.heap.size, 0, none⟩) n n)) (w.alloc (.cells ((parts.toList.map fun p => a.eval p.2).flatMap fun v => v.cells.toList).toArray (P.elem t))) := by
      have hparts : (parts.map fun (i, x) => (i, a.eval x)).toList = ((parts.toList.map fun p => a.eval p.2).zipIdx 0).map fun p => (p.2, p.1) := by
        apply List.ext_getElem
        · simp
        · intro i h1 h2
          have h3 : i < parts.toList.length := by simpa using h1
          have h6 : (parts.toList.map Prod.fst)[i]'(by simpa using h3) = i := by simp [hp]
          simp only [List.getElem_map] at h6
          simp [List.getElem_zipIdx]
          simpa using h6
      have hf := fill_all k (parts.toList.map fun p => a.eval p.2) 0 ((Array.range (n * k)).map (z.cells[· % z.cells.size]!)) hsz (by
        have : parts.toList.length = n := by rw [← List.length_map (f := Prod.fst), hp]; simp
        simp only [Array.length_toList] at this
        simp [this])
      simp only [Nat.zero_mul, List.take_zero, List.nil_append] at hf
      have hnk' : ¬ (n * k > 2 ^ 24) := by omega
      by_cases h0 : n * k = 0
      · have hn0 : n = 0 := by rcases Nat.mul_eq_zero.1 h0 with h | h <;> omega
        subst hn0
        have hpn : parts.toList = [] := by have := congrArg List.length hp; simpa using this
        have hpa : parts = #[] := by apply Array.ext'; simpa using hpn
        subst hpa
        simp [execOp, Instr.buildSlice, run_underlying ht, run_sizeOf hw hk, Instr.fill, newRow, Array.range_zero']
      · simp only [execOp, Instr.buildSlice, Sem.run_bind, run_underlying ht, Result.andThen_ok, run_sizeOf hw hk, if_neg hnk', if_neg h0, run_zeroValue hz, Sem.run_pure, hparts]
        rw [hf]
        simp [newRow]
    have hFE : FE w F k (RV.fzL els) ((parts.toList.map fun p => a.eval p.2).flatMap fun v => v.cells.toList) := hE.fz_ (fun _ h => h) (fun _ h => nomatch h)
    have hnew := _root_.Go.heap_alloc_new w (.cells ((parts.toList.map fun p => a.eval p.2).flatMap fun v => v.cells.toList).toArray (P.elem t))
    have hold : ∀ b, b < w.heap.size → (w.alloc (.cells ((parts.toList.map fun p => a.eval p.2).flatMap fun v => v.cells.toList).toArray (P.elem t))).heap[b]? = w.heap[b]? := fun b hb => _root_.Go.heap_alloc_old w _ hb
    have hFE2 := hFE.mono (w' := w.alloc (.cells ((parts.toList.map fun p => a.eval p.2).flatMap fun v => v.cells.toList).toArray (P.elem t))) (F' := fun b => F b ∨ b = w.heap.size) fun b hb => ⟨.inl hb, hold b (hr.Fs b hb)⟩
    refine ⟨_, _, hrunV, fun b => F b ∨ b = w.heap.size, ρ, fp, ?_⟩
    have hw2 := hr.world (w' := w.alloc (.cells ((parts.toList.map fun p => a.eval p.2).flatMap fun v => v.cells.toList).toArray (P.elem t))) (F' := fun b => F b ∨ b = w.heap.size) (fun _ h => .inl h)
      (fun b hb => by
        rcases hb with hb | rfl
        · exact ⟨.inl hb, by have := hr.Fs b hb; simp; omega⟩
        · exact ⟨.inr (Nat.le_refl _), by simp⟩) hold (by simp) rfl ⟨rfl, .inl (Nat.le_refl _)⟩ rfl
    have hl2 : (RV.fzL els).length = n := by rw [fzL_eq]; simpa using hlen
    refine hw2.put d (.one (.cell rfl ?_))
    by_cases h0 : n = 0
    · subst h0
      rw [List.eq_nil_of_length_eq_zero hl2]
      exact OE.of_FE (.shnil _ _ (.nil _))
    · have := FE.sh (w := w.alloc (.cells ((parts.toList.map fun p => a.eval p.2).flatMap fun v => v.cells.toList).toArray (P.elem t))) (F := fun b => F b ∨ b = w.heap.size) ⟨w.heap.size, 0, none⟩ n k (els := RV.fzL els) hk (.inr rfl)
        (by rw [hl2]; refine ⟨?_, Nat.le_refl _⟩; simp only [maxLen]; have := Nat.le_mul_of_pos_right n hk; omega) (by have h9 := OE.block hnew ((parts.toList.map fun p => a.eval p.2).flatMap fun v => v.cells.toList).length; rwa [List.take_length] at h9) hFE2 (.nil 1)
      rw [hl2] at this
      exact OE.of_FE this
theorem fs_buildSlice {RO t n} {parts : Array (Nat × Operand)} {els : List RV} {k : Nat} (hp : parts.toList.map Prod.fst = List.range n) (hels : parts.toList.map (fun p => s.get p.2) = els) (hst : els.all (fun r => (r.stores || r.isAgg) && r.width == k) = true) (hk : 0 < k) (hnk : n * k ≤ 16777216)
    (ht : P.underlying t = some (.slice (P.elem t))) (hw : P.cellsOf (P.elem t) = k) {z : Value} (hz : zeroOf P (P.elem t) = some z) {r : List RV} (hr : RV.fzL els = r) :
    Fs P RO ⟨d, .buildSlice t n parts, ty, pos, after, g⟩ s (.sh r) := fun s2 hs hO => by
  subst hr
  refine ops_buildSlice_fz hp ?_ hst hk hnk ht hw hz
  rw [← hels]
  refine List.map_congr_left fun p hp => hs p.2 ?_
  simp only [Op.operands, Array.toList_map, List.mem_map]
  exact ⟨p, hp, rfl⟩
end
section
variable {P : Program} {s : St} {d : Option Tmp} {ty : TypeId} {pos : String} {after : Array Edge} {g : Option (Nat × Bool)}
theorem ops_cutm {α : Type} {f : α → RV} {v : List α} {x lo hi t k1 k2 kk} {l h : Nat} (hx : s.get x = .sh (v.map f)) (hl : s.get lo = .v (.int k1 (l : Nat))) (hh : s.get hi = .v (.int k2 (h : Nat))) (h1 : l ≤ h) (h2 : h ≤ v.length) (ht : P.underlying t = some (.slice (P.elem t))) (hw : P.cellsOf (P.elem t) = kk) (hk : 0 < kk) (hwd : ∀ e, (f e).width = kk) :
    OpS P ⟨d, .slice t x (some lo) (some hi) none, ty, pos, after, g⟩ s ⟨sput d (.sh (((v.drop l).take (h - l)).map f)) s.fr, s.O⟩ := by
  rw [List.map_take, List.map_drop]
  exact ops_cut hx hl hh h1 (by simpa using h2) ht hw hk (fun e he => by obtain ⟨y, _, rfl⟩ := List.mem_map.1 he; exact hwd y)
theorem ops_cutlm {α : Type} {f : α → RV} {v : List α} {x lo t k1 kk} {l : Nat} (hx : s.get x = .sh (v.map f)) (hl : s.get lo = .v (.int k1 (l : Nat))) (h1 : l ≤ v.length) (ht : P.underlying t = some (.slice (P.elem t))) (hw : P.cellsOf (P.elem t) = kk) (hk : 0 < kk) (hwd : ∀ e, (f e).width = kk) :
    OpS P ⟨d, .slice t x (some lo) none none, ty, pos, after, g⟩ s ⟨sput d (.sh ((v.drop l).map f)) s.fr, s.O⟩ := by
  rw [List.map_drop]
  exact ops_cutl hx hl (by simpa using h1) ht hw hk (fun e he => by obtain ⟨y, _, rfl⟩ := List.mem_map.1 he; exact hwd y)
theorem ops_cuthm {α : Type} {f : α → RV} {v : List α} {x hi t k2 kk} {h : Nat} (hx : s.get x = .sh (v.map f)) (hh : s.get hi = .v (.int k2 (h : Nat))) (h2 : h ≤ v.length) (ht : P.underlying t = some (.slice (P.elem t))) (hw : P.cellsOf (P.elem t) = kk) (hk : 0 < kk) (hwd : ∀ e, (f e).width = kk) :
    OpS P ⟨d, .slice t x none (some hi) none, ty, pos, after, g⟩ s ⟨sput d (.sh ((v.take h).map f)) s.fr, s.O⟩ := by
  rw [List.map_take]
  exact ops_cuth hx hh (by simpa using h2) ht hw hk (fun e he => by obtain ⟨y, _, rfl⟩ := List.mem_map.1 he; exact hwd y)
theorem fs_cutm {RO} {α : Type} {f : α → RV} {v : List α} {x lo hi t k1 k2 kk} {l h : Nat} (hx : s.get x = .sh (v.map f)) (hl : s.get lo = .v (.int k1 (l : Nat))) (hh : s.get hi = .v (.int k2 (h : Nat))) (h1 : l ≤ h) (h2 : h ≤ v.length) (ht : P.underlying t = some (.slice (P.elem t))) (hw : P.cellsOf (P.elem t) = kk) (hk : 0 < kk) (hwd : ∀ e, (f e).width = kk) :
    Fs P RO ⟨d, .slice t x (some lo) (some hi) none, ty, pos, after, g⟩ s (.sh (((v.drop l).take (h - l)).map f)) := fun s2 hsx hO => ops_cutm ((hsx _ (by simp [Op.operands, Call.operands])).trans hx) ((hsx _ (by simp [Op.operands, Call.operands])).trans hl) ((hsx _ (by simp [Op.operands, Call.operands])).trans hh) h1 h2 ht hw hk hwd
theorem fs_cutlm {RO} {α : Type} {f : α → RV} {v : List α} {x lo t k1 kk} {l : Nat} (hx : s.get x = .sh (v.map f)) (hl : s.get lo = .v (.int k1 (l : Nat))) (h1 : l ≤ v.length) (ht : P.underlying t = some (.slice (P.elem t))) (hw : P.cellsOf (P.elem t) = kk) (hk : 0 < kk) (hwd : ∀ e, (f e).width = kk) :
    Fs P RO ⟨d, .slice t x (some lo) none none, ty, pos, after, g⟩ s (.sh ((v.drop l).map f)) := fun s2 hsx hO => ops_cutlm ((hsx _ (by simp [Op.operands, Call.operands])).trans hx) ((hsx _ (by simp [Op.operands, Call.operands])).trans hl) h1 ht hw hk hwd
theorem fs_cuthm {RO} {α : Type} {f : α → RV} {v : List α} {x hi t k2 kk} {h : Nat} (hx : s.get x = .sh (v.map f)) (hh : s.get hi = .v (.int k2 (h : Nat))) (h2 : h ≤ v.length) (ht : P.underlying t = some (.slice (P.elem t))) (hw : P.cellsOf (P.elem t) = kk) (hk : 0 < kk) (hwd : ∀ e, (f e).width = kk) :
    Fs P RO ⟨d, .slice t x none (some hi) none, ty, pos, after, g⟩ s (.sh ((v.take h).map f)) := fun s2 hsx hO => ops_cuthm ((hsx _ (by simp [Op.operands, Call.operands])).trans hx) ((hsx _ (by simp [Op.operands, Call.operands])).trans hh) h2 ht hw hk hwd
end
section
variable {P : Program} {RO : Nat → Bool} {s : St} {d : Option Tmp} {ty : TypeId} {pos : String} {after : Array Edge} {g : Option (Nat × Bool)}
theorem fs_move {x} : Fs P RO ⟨d, .move x, ty, pos, after, g⟩ s (s.get x) := fun s2 hs _ => by
  have h := ops_move (P := P) (d := d) (ty := ty) (pos := pos) (after := after) (g := g) (s := s2) (x := x)
  rwa [hs x (by simp [Op.operands])] at h
theorem fs_assign {x} : Fs P RO ⟨d, .assign x, ty, pos, after, g⟩ s (s.get x) := fun s2 hs _ => by
  have h := ops_assign (P := P) (d := d) (ty := ty) (pos := pos) (after := after) (g := g) (s := s2) (x := x)
  rwa [hs x (by simp [Op.operands])] at h
end
theorem nq : (∀ fr, killLs [] fr = fr) ∧ (∀ n ns fr, killLs (n :: ns) fr = killLs ns (RV.killL n fr)) ∧ (∀ (b : Bk) M, unpin (b :: M) 1000000000000 = b.1) ∧ (∀ (a b : Bk) M, unpin (a :: b :: M) 1000000000001 = b.1) ∧ (∀ (a0 a1 b : Bk) M, unpin (a0 :: a1 :: b :: M) 1000000000002 = b.1) ∧
    (∀ (a0 a1 a2 b : Bk) M, unpin (a0 :: a1 :: a2 :: b :: M) 1000000000003 = b.1) ∧ (∀ (a0 a1 a2 a3 b : Bk) M, unpin (a0 :: a1 :: a2 :: a3 :: b :: M) 1000000000004 = b.1) ∧ (∀ (a0 a1 a2 a3 a4 b : Bk) M, unpin (a0 :: a1 :: a2 :: a3 :: a4 :: b :: M) 1000000000005 = b.1) ∧
    (∀ (A : List Bk), ([] : List Bk) ++ A = A) ∧ (∀ (a : Bk) (A B : List Bk), (a :: A) ++ B = a :: (A ++ B)) := by
  simp [killLs, unpin]

/-! Regions that draw their order, where what is looked at is told of each operation. -/
def DS (P : Program) (ops : Array Oper) (rd : Nat → List Nat) (sw : Nat → Nat → Bool) (eff : Nat → Bool) (ALL : List Nat) (R : St → Prop) : List Nat → List (List Nat) → St → Prop
  | [], _, s => R s
  | i :: rest, news, s => ∃ o r, ops[i]? = some o ∧
    if eff i then ∃ new news' O', news = new :: news' ∧ (∀ m ∈ r.names, m ∉ news'.flatten) ∧ (∀ k, sw k i = true → ∀ n ∈ rd k, olook n O' = olook n s.O) ∧ Ef P ops new o s r O' ∧ DS P ops rd sw eff ALL R rest news' ⟨sput o.dst r s.fr, O'⟩
    else (∀ m ∈ r.names, m ∉ ALL) ∧ Fl P ops (fun n => (rd i).contains n) o s r ∧ DS P ops rd sw eff ALL R rest news ⟨sput o.dst r s.fr, s.O⟩

section
variable {P : Program} {ops : Array Oper} {rd : Nat → List Nat} {sw : Nat → Nat → Bool} {eff : Nat → Bool} {ALL : List Nat} {R : St → Prop}

theorem DS.swap {k i : Nat} {rest : List Nat} {news : List (List Nat)} {s : St} (h : DS P ops rd sw eff ALL R (k :: i :: rest) news s) (hi : indepB ops eff k i = true) (hs : sw k i = true) (hs2 : sw i k = true) : DS P ops rd sw eff ALL R (i :: k :: rest) news s := by
  obtain ⟨ok, rk, hok, h⟩ := h
  unfold indepB at hi
  simp only [hok] at hi
  cases hoi : ops[i]? with
  | none => simp [hoi] at hi
  | some oi =>
    simp only [hoi, Bool.and_eq_true, Bool.not_eq_true', Bool.or_eq_true, bne_iff_ne, Option.isNone_iff_eq_none] at hi
    obtain ⟨⟨⟨hi1, hi2⟩, hi3⟩, hi4⟩ := hi
    cases hek : eff k with
    | false =>
      simp only [hek, Bool.false_eq_true, if_false] at h
      obtain ⟨hn, hf, oi', ri, hoi', h⟩ := h
      rw [hoi] at hoi'; cases hoi'
      have hfk : ∀ (O' : List Bk), (∀ n ∈ rd k, olook n O' = olook n s.O) → Fl P ops (fun n => (rd k).contains n) ok ⟨sput oi.dst ri s.fr, O'⟩ rk := fun O' hO' s2 ha hO =>
        hf s2 ((agree_put hi2 s.fr ri s.O O').1.trans ha) fun n hn => (hO n hn).trans (hO' n (by simpa using hn))
      cases hei : eff i with
      | false =>
        simp only [hei, Bool.false_eq_true, if_false] at h
        obtain ⟨hn2, hf2, h⟩ := h
        refine ⟨oi, ri, hoi, ?_⟩
        simp only [hei, Bool.false_eq_true, if_false]
        refine ⟨hn2, fun s2 ha hO => hf2 s2 ((agree_put hi1 s.fr rk s.O s.O).2.trans ha) hO, ok, rk, hok, ?_⟩
        simp only [hek, Bool.false_eq_true, if_false]
        refine ⟨hn, hfk s.O fun _ _ => rfl, ?_⟩
        simp only [sput_comm s.fr hi3]
        exact h
      | true =>
        simp only [hei, if_true] at h
        obtain ⟨new, news', O', rfl, hn2, hro, hf2, h⟩ := h
        refine ⟨oi, ri, hoi, ?_⟩
        simp only [hei, if_true]
        refine ⟨new, news', O', rfl, hn2, hro, fun s2 ha hO hnew => hf2 s2 ((agree_put hi1 s.fr rk s.O s.O).2.trans ha) hO hnew, ok, rk, hok, ?_⟩
        simp only [hek, Bool.false_eq_true, if_false]
        refine ⟨hn, hfk O' (hro k hs), ?_⟩
        simp only [sput_comm s.fr hi3]
        exact h
    | true =>
      simp only [hek, if_true] at h
      obtain ⟨new, news', O', rfl, hn, hro, hf, oi', ri, hoi', h⟩ := h
      rw [hoi] at hoi'; cases hoi'
      cases hei : eff i with
      | true => simp [hek, hei] at hi4
      | false =>
        simp only [hei, Bool.false_eq_true, if_false] at h
        obtain ⟨hn2, hf2, h⟩ := h
        refine ⟨oi, ri, hoi, ?_⟩
        simp only [hei, Bool.false_eq_true, if_false]
        refine ⟨hn2, fun s2 ha hO => hf2 s2 ((agree_put hi1 s.fr rk s.O O').2.trans ha) fun n hn => (hO n hn).trans (hro i hs2 n (by simpa using hn)).symm, ok, rk, hok, ?_⟩
        simp only [hek, if_true]
        refine ⟨new, news', O', rfl, hn, hro, fun s2 ha hO hnew => hf s2 ((agree_put hi2 s.fr ri s.O s.O).1.trans ha) hO hnew, ?_⟩
        simp only [sput_comm s.fr hi3]
        exact h

theorem DS.tail_mono {i : Nat} {l l' : List Nat} {news s} (hl : ∀ news s, DS P ops rd sw eff ALL R l news s → DS P ops rd sw eff ALL R l' news s) (h : DS P ops rd sw eff ALL R (i :: l) news s) : DS P ops rd sw eff ALL R (i :: l') news s := by
  obtain ⟨o, r, ho, h⟩ := h
  refine ⟨o, r, ho, ?_⟩
  split
  · rename_i he
    rw [if_pos he] at h
    obtain ⟨new, news', O', h1, h2, h3, h4, h5⟩ := h
    exact ⟨new, news', O', h1, h2, h3, h4, hl _ _ h5⟩
  · rename_i he
    rw [if_neg he] at h
    exact ⟨h.1, h.2.1, hl _ _ h.2.2⟩

theorem DS.bubble {i : Nat} {L2 : List Nat} : ∀ (L1 : List Nat) {news s}, (∀ k ∈ L1, indepB ops eff k i = true ∧ sw k i = true ∧ sw i k = true) → DS P ops rd sw eff ALL R (L1 ++ i :: L2) news s → DS P ops rd sw eff ALL R (i :: (L1 ++ L2)) news s
  | [], _, _, _, h => h
  | k :: L1, news, s, hi, h => by
    have h1 : DS P ops rd sw eff ALL R (k :: i :: (L1 ++ L2)) news s := DS.tail_mono (fun news s h => DS.bubble L1 (fun k hk => hi k (by simp [hk])) h) h
    exact h1.swap (hi k (by simp)).1 (hi k (by simp)).2.1 (hi k (by simp)).2.2
end

structure D2 (P : Program) (ops : Array Oper) (rd : Nat → List Nat) (sw : Nat → Nat → Bool) (eff : Nat → Bool) (ALL : List Nat) (news : List (List Nat)) (k : Nat) (l : List Oper) (R : St → Prop) (s : St) : Prop where
  out : (∀ j, l[j]? = ops[k + j]?) → DS P ops rd sw eff ALL R (List.range' k l.length) news s

theorem seal_shuf {O : List Bk} (n i j m : Nat) {k k2 len : Nat} {els els2 : List RV} {e : RV} (ho : olook n O = some (k, els)) (he : els[i]? = some e) (hj : e.cellsL[j]? = some (.ref m 0 len)) (hm : olook m O = some (k2, els2)) (hlen : len = els2.length) (hn : RV.namesL els2 = []) (hne : n ≠ m) :
    Shuf O (oerase m (oset n (els.set i (e.setCell j (.ow k2 els2))) O)) := by
  subst hlen
  intro w F ρ fp hO0
  obtain ⟨fp', hO, hp⟩ := hO0.pull ho
  have hlt : i < els.length := (List.getElem?_eq_some_iff.1 he).1
  have hm' : olook m (oerase n O) = some (k2, els2) := by rw [olook_oerase (Ne.symm hne)]; exact hm
  have key : ∃ fpn, OL w F ρ ((n, k, els.set i (e.setCell j (.ow k2 els2))) :: oerase m (oerase n O)) fpn ∧ fpn.Perm fp' := by
    cases hO with
    | nilb _ _ _ => simp at hlt
    | map _ hb _ => obtain ⟨_, e0⟩ := hb.cell he hj; cases e0
    | @cons _ b _ _ ty c cells _ fp1 fp2 hk hρ hρb hb hs hl hmx hc hE hO2 =>
      obtain ⟨c1, ce, c2, f1, fe, f2, hcs, hc1, hce, rfl, hE1, hE2, hE3⟩ := hE.at he
      -- the block goes into the cell
      have h1 := hE2.cellsL
      obtain ⟨d1, d, d2, g1, gd, g2, hds, hd1, hd, hgs, h2, h4, h3⟩ := h1.at hj
      match d, hd with
      | [y], _ =>
        have := h4.plain_fp rfl
        subst this
        obtain ⟨q1, q2, hq1, hq2, hq3⟩ := SealL.cells (.own hm' hn .nil) h4 (by simp [RV.isAgg]) hO2
        obtain ⟨fe', hfe, hperm⟩ := hE2.setCell2 (r := .ow k2 els2) (fr := q1) hj rfl (fun y' hy' => by
          have e1 : y' = y := by
            rcases hy'.single rfl with ⟨h, _⟩ | ⟨_, _, _, _, _, _, _, e, _⟩ | ⟨_, _, _, e, rfl, _⟩ | ⟨_, _, _, e, _⟩ | ⟨_, e, _⟩
            · cases h
            · cases e
            · rcases h4.single rfl with ⟨h, _⟩ | ⟨_, _, _, _, _, _, _, e', _⟩ | ⟨_, _, _, e', rfl, _⟩ | ⟨_, _, _, e', _⟩ | ⟨_, e', _⟩
              · cases h
              · cases e'
              · cases e; cases e'; rfl
              · cases e'
              · cases e'
            · cases e
            · cases e
          rw [e1]; exact hq1)
        have hset : els.set i (e.setCell j (.ow k2 els2)) = els.take i ++ ([e.setCell j (.ow k2 els2)] ++ els.drop (i + 1)) := by
          rw [List.set_eq_take_append_cons_drop, if_pos hlt]; rfl
        have hEn : OE w F ρ k (els.set i (e.setCell j (.ow k2 els2))) cells (f1 ++ (fe' ++ f2)) := by
          rw [hset, hcs]; exact hE1.append (hfe.append hE3)
        refine ⟨_, .cons hk hρ hρb hb hs (by simpa using hl) hmx (by simpa using hc) hEn hq2, ?_⟩
        refine List.Perm.cons _ ?_
        have p1 : (f1 ++ (fe' ++ f2)).Perm (q1 ++ (f1 ++ (fe ++ f2))) := by
          refine ((List.Perm.refl f1).append (hperm.append (List.Perm.refl f2))).trans ?_
          simp only [List.append_assoc]
          exact List.perm_append_comm_assoc _ _ _
        have p2 : (f1 ++ (fe' ++ f2) ++ q2).Perm ((f1 ++ (fe ++ f2)) ++ (q1 ++ q2)) := by
          refine (p1.append (List.Perm.refl q2)).trans ?_
          simp only [List.append_assoc]
          have := List.perm_append_comm_assoc q1 (f1 ++ (fe ++ f2)) q2
          simpa only [List.append_assoc] using this
        exact p2.trans ((List.Perm.refl _).append hq3)
  obtain ⟨fpn, hOn, hpn⟩ := key
  have hcom : oerase n (oerase m (oset n (els.set i (e.setCell j (.ow k2 els2))) O)) = oerase m (oerase n O) := by
    rw [oerase_comm, oerase_oset]
  have hlook : olook n (oerase m (oset n (els.set i (e.setCell j (.ow k2 els2))) O)) = some (k, els.set i (e.setCell j (.ow k2 els2))) := by
    rw [olook_oerase hne]; exact olook_oset ho
  rw [← hcom] at hOn
  obtain ⟨fpz, hOz, hpz⟩ := hOn.push hlook
  have hperm : fpz.Perm fp := hpz.symm.trans (hpn.trans hp.symm)
  exact ⟨fpz, hOz, hperm.symm⟩
theorem le_kill {fr fr' : List RV} {O : List Bk} (n : Nat) (e : RV.killL n fr = fr') : LE ⟨fr, O⟩ ⟨fr', O⟩ := by
  subst e
  refine ⟨?_⟩
  rintro E a w ⟨F, ρ, fp, h⟩
  exact ⟨F, ρ, fp, h.killLs [n]⟩
section
variable {P : Program} {ops : Array Oper} {s : St} {d : Tmp} {ty : TypeId} {pos : String} {after : Array Edge}
theorem Ef.apSeal {x y t n m q z k3 els els3 len len0 len1} (hx : s.get x = .ref n 0 len0) (hy : s.get y = .ref q 0 len1) (ho : olook n s.O = some (1, els)) (ho2 : olook q s.O = some (1, [.ref z 0 len])) (ho3 : olook z s.O = some (k3, els3)) (hl0 : len0 = els.length) (hl1 : len1 = 1) (hlen3 : len = els3.length) (hn3 : RV.namesL els3 = [])
    (hne : n ≠ q) (hnz : n ≠ z) (hqz : q ≠ z) (hm : m < 1000000000000) (hm2 : m ∉ onames s.O) (ha : appOk P t 1) (hlen : els.length + 1 ≤ 1099511627776) :
    Ef P ops [m] ⟨some d, .call ⟨.builtin .append, #[x, y], #[t, t]⟩, ty, pos, after, none⟩ s (.ref m 0 (els ++ [RV.ow k3 els3]).length) ((m, 1, els ++ [.ow k3 els3]) :: oerase z (oerase n (oerase q s.O))) := by
  subst hl0; subst hl1
  have h := Ef.appendNew (P := P) (ops := ops) (d := d) (ty := ty) (pos := pos) (after := after) (els2 := [.ref z 0 len]) m hx hy ho ho2 hne (by simp) hm hm2 ha.1 ha.2.1 ha.2.2.1 ha.2.2.2 hlen
  have hmz : m ≠ z := fun e => hm2 (onames_olook ho3 (.inl e))
  have hS := seal_shuf (O := (m, 1, els ++ [RV.ref z 0 len]) :: oerase n (oerase q s.O)) m els.length 0 z (k := 1) (els := els ++ [RV.ref z 0 len]) (e := RV.ref z 0 len) (len := len) (by simp [olook]) (by simp) rfl (by
    simp only [olook]; rw [if_neg hmz, olook_oerase (Ne.symm hnz), olook_oerase (Ne.symm hqz)]; exact ho3) hlen3 hn3 hmz
  have e1 : oerase z (oset m ((els ++ [RV.ref z 0 len]).set els.length ((RV.ref z 0 len).setCell 0 (.ow k3 els3))) ((m, 1, els ++ [RV.ref z 0 len]) :: oerase n (oerase q s.O))) = (m, 1, els ++ [RV.ow k3 els3]) :: oerase z (oerase n (oerase q s.O)) := by
    have : (els ++ [RV.ref z 0 len]).set els.length ((RV.ref z 0 len).setCell 0 (.ow k3 els3)) = els ++ [RV.ow k3 els3] := by
      rw [List.set_append_right _ _ (Nat.le_refl _)]; simp [RV.setCell]
    rw [this]
    simp only [oset, if_true, oerase]
    rw [if_neg hmz]
  rw [e1] at hS
  have e2 : (els ++ [RV.ow k3 els3]).length = els.length + 1 := by simp
  rw [e2]
  intro s2 ha2 hO hn
  have h2 := h s2 ha2 hO hn
  intro E a w hr K Q hK
  exact h2 E a w hr K Q fun a' w' hr' => hK a' w' (hS.le E a' w' hr')
end
theorem nu : (∀ (σ : Nat → Nat) (l : List (List (List UInt8))), RV.renL σ (l.map RBd) = l.map RBd) ∧ (∀ (σ : Nat → Nat) (l : List (List (List UInt8))), RV.renL σ (l.map OBd) = l.map OBd) ∧ (∀ (σ : Nat → Nat) (l : List (List Bool)), RV.renL σ (l.map RBs) = l.map RBs) ∧ (∀ (σ : Nat → Nat) (l : List (List Bool)), RV.renL σ (l.map OBs) = l.map OBs) ∧ (∀ (σ : Nat → Nat) (l : List (List UInt8 × List UInt8)), RV.renL σ (l.map RRw) = l.map RRw) ∧ (∀ (σ : Nat → Nat) (l : List Int), RV.renL σ (l.map RVi) = l.map RVi) ∧ (∀ (σ : Nat → Nat) (l : List (List Int)), RV.renL σ (l.map RIs) = l.map RIs) ∧ (∀ (σ : Nat → Nat) (l : List (List Int)), RV.renL σ (l.map OIs) = l.map OIs) ∧ (∀ (σ : Nat → Nat) (l : List Nat), RV.renL σ (l.map RVn) = l.map RVn) ∧ (∀ (σ : Nat → Nat) (l : List (List Nat)), RV.renL σ (l.map RNs) = l.map RNs) ∧
    (∀ (σ : Nat → Nat) (l : List (List Nat)), RV.renL σ (l.map ONs) = l.map ONs) ∧ (∀ (σ : Nat → Nat) (l : List Bool), RV.renL σ (l.map RVb) = l.map RVb) ∧ (∀ (σ : Nat → Nat) (l : List UInt8), RV.renL σ (l.map RVy) = l.map RVy) ∧ (∀ (σ : Nat → Nat) (l : List (List UInt8)), RV.renL σ (l.map RV.str) = l.map RV.str) ∧ (∀ (σ : Nat → Nat) (l : List (Int × Int)), RV.renL σ (l.map RR) = l.map RR) ∧ (∀ (σ : Nat → Nat) (l : List (List Nat × List Nat)), RV.renL σ (l.map RNd) = l.map RNd) ∧ (∀ (σ : Nat → Nat) (l : List (List Nat × List Nat)), RV.renL σ (l.map ONd) = l.map ONd) ∧ (∀ (σ : Nat → Nat) (l : List (List Int × List Int)), RV.renL σ (l.map RNdI) = l.map RNdI) ∧ (∀ (σ : Nat → Nat) (l : List (List Int × List Int)), RV.renL σ (l.map ONdI) = l.map ONdI) := by
  refine ⟨?_, ?_, ?_, ?_, ?_, ?_, ?_, ?_, ?_, ?_, ?_, ?_, ?_, ?_, ?_, ?_, ?_, ?_, ?_⟩ <;> intro σ l <;> exact renL_map0 σ _ l fun x => by simp [RV.ren, RV.renL]
section
variable {P : Program} {s : St} {d : Option Tmp} {ty : TypeId} {pos : String} {after : Array Edge} {g : Option (Nat × Bool)}
theorem ops_rcuth {x hi t n len k2 kk els} {h : Nat} (hx : s.get x = .ref n 0 len) (hh : s.get hi = .v (.int k2 (h : Nat))) (ho : olook n s.O = some (kk, els)) (h2 : h ≤ els.length) (hne : els ≠ []) (ht : P.underlying t = some (.slice (P.elem t))) (hw : P.cellsOf (P.elem t) = kk) :
    OpS P ⟨d, .slice t x none (some hi) none, ty, pos, after, g⟩ s ⟨sput d (.ref n 0 h) s.fr, s.O⟩ :=
  ops_val fun _ a w F ρ _ hr => by
    have h1 := (show SV w F ρ (.ref n 0 len) (a.eval x) [] from hx ▸ hr.get x).ref_inv
    obtain ⟨fp', hr'⟩ := hr.front ho
    obtain ⟨b, tb, c, fp1, fp2, hk, hρ, hρb, hb, hs, hl, hm, _⟩ := hr'.O.head hne (show SV w F ρ (.ref n 0 len) (a.eval x) [] from hx ▸ hr.get x).ref_pos
    simp only [hρb, Option.map_some, hρ] at h1
    have hsv := SV.ref_mk (w := w) (F := F) (ρ := ρ) (n := n) (k := kk) (cap := (ρ n).2.2) (b := b) (by rw [← hρb, ← hρ]) 0 h
    refine ⟨_, ?_, hsv⟩
    have h4 : h ≤ (ρ n).2.2 := by omega
    simp [execOp, h1, hr.ex hh, Instr.sliceAt, Instr.slice, Instr.sliceBounds, run_underlying ht, run_bound h4, run_size hw hk]
    simp [Addr.add]
end
theorem nset {m i : Nat} {e : RV} : ∀ {l : List RV}, ¬ m ∈ RV.namesL l → ¬ m ∈ e.names → ¬ m ∈ RV.namesL (l.set i e) := by
  intro l
  induction l generalizing i with
  | nil => intro h _; simpa using h
  | cons x xs ih =>
    intro h1 h2
    simp only [RV.namesL, List.mem_append, not_or] at h1
    cases i with
    | zero => simp only [List.set_cons_zero, RV.namesL, List.mem_append, not_or]; exact ⟨h2, h1.2⟩
    | succ i => simp only [List.set_cons_succ, RV.namesL, List.mem_append, not_or]; exact ⟨h1.1, ih h1.2 h2⟩
section
variable {P : Program} {RO : Nat → Bool} {s s' : St} {r : RV} {d : Option Tmp} {ty : TypeId} {pos : String} {after : Array Edge} {g : Option (Nat × Bool)}
theorem k_bin {b t x y u} (h : OpS P ⟨d, .binOp b t x y u, ty, pos, after, g⟩ s s') : OpS P ⟨d, .binOp b t x y u, ty, pos, after, g⟩ s s' := h
theorem q_bin {b t x y u} (h : Fs P RO ⟨d, .binOp b t x y u, ty, pos, after, g⟩ s r) : Fs P RO ⟨d, .binOp b t x y u, ty, pos, after, g⟩ s r := h
theorem k_bui {b x y} (h : OpS P ⟨d, .call ⟨.builtin b, x, y⟩, ty, pos, after, g⟩ s s') : OpS P ⟨d, .call ⟨.builtin b, x, y⟩, ty, pos, after, g⟩ s s' := h
theorem q_bui {b x y} (h : Fs P RO ⟨d, .call ⟨.builtin b, x, y⟩, ty, pos, after, g⟩ s r) : Fs P RO ⟨d, .call ⟨.builtin b, x, y⟩, ty, pos, after, g⟩ s r := h
theorem fs_auto {o : Oper} (_ : Unit) (h : Fs P RO o s r := by first | (apply q_load; first | exact fs_load_psh rfl rfl (by decide +kernel) | exact fs_load_psha rfl (by decide +kernel) (by kernel_rfl) (by simp) | exact fs_load_map rfl rfl rfl (by omega) rfl (by decide +kernel) | exact fs_load_mapa rfl rfl rfl (by omega) rfl (by decide +kernel) (by kernel_rfl) | exact fs_load_mapj rfl rfl rfl (by omega) rfl rfl (by decide +kernel) | exact fs_load_ptr rfl rfl rfl rfl rfl rfl (by decide +kernel) | exact fs_load_ptra rfl rfl rfl rfl rfl (by decide +kernel) (by kernel_rfl) | fail) | (apply q_fieldAddr; first | exact fs_fld_psh (off := 0) rfl (by decide +kernel) rfl | exact fs_fld_psh (off := 1) rfl (by decide +kernel) rfl | exact fs_fld_psh (off := 2) rfl (by decide +kernel) rfl | exact fs_fld_psh (off := 3) rfl (by decide +kernel) rfl | exact fs_fld_ptr (off := 0) rfl (by decide +kernel) rfl rfl (by first | (simp; done) | (simp; omega) | fail) | exact fs_fld_ptr (off := 1) rfl (by decide +kernel) rfl rfl (by first | (simp; done) | (simp; omega) | fail) | exact fs_fld_ptr (off := 2) rfl (by decide +kernel) rfl rfl (by first | (simp; done) | (simp; omega) | fail) | exact fs_fld_ptr (off := 3) rfl (by decide +kernel) rfl rfl (by first | (simp; done) | (simp; omega) | fail) | exact fs_fld_map (off := 0) rfl (by decide +kernel) rfl rfl (by omega) | exact fs_fld_map (off := 1) rfl (by decide +kernel) rfl rfl (by omega) | exact fs_fld_map (off := 2) rfl (by decide +kernel) rfl rfl (by omega) | exact fs_fld_map (off := 3) rfl (by decide +kernel) rfl rfl (by omega) | fail) | (apply q_indexAddr; first | exact fs_idx_map rfl rfl (by omega) (by kernel_rfl) (by kernel_rfl) | exact fs_idx_refm rfl rfl (by omega) rfl rfl (by omega) (by kernel_rfl) (by kernel_rfl) | exact fs_idx_mapI rfl rfl (by omega) (by omega) (by kernel_rfl) (by kernel_rfl) | exact fs_idx_refmI rfl rfl (by omega) (by omega) rfl rfl (by omega) (by kernel_rfl) (by kernel_rfl) | exact fs_idx_ref rfl rfl (by omega) rfl rfl (by simp) (by kernel_rfl) (by kernel_rfl) | fail) | (apply q_pick; first | exact fs_pick_b rfl rfl rfl | exact fs_pick_i rfl rfl rfl | fail) | (apply q_not; first | exact fs_not rfl | fail) | (apply q_bin; first | (apply q_add; first | exact fs_inc rfl (by omega) | exact fs_add rfl rfl (by omega) (by omega) | exact fs_cat rfl rfl (by omega) | fail) | (apply q_sub; first | exact fs_sub rfl rfl (by omega) (by omega) | fail) | (apply q_lss; first | exact fs_lss rfl rfl | exact fs_lts rfl rfl | fail) | (apply q_leq; first | exact fs_leq rfl rfl | fail) | (apply q_gtr; first | exact fs_gtr rfl rfl | fail) | (apply q_geq; first | exact fs_geq rfl rfl | exact fs_ges rfl rfl | fail) | (apply q_eql; first | exact fs_eqi rfl rfl | exact fs_eqs rfl rfl | exact fs_eqb rfl rfl (by kernel_rfl) | fail) | (apply q_neq; first | exact fs_nei rfl rfl | exact fs_nes rfl rfl | exact fs_neb rfl rfl (by kernel_rfl) | fail) | (apply q_quo; first | exact fs_quon rfl rfl (by omega) (by omega) | exact fs_quo rfl rfl (by omega) (by omega) (by omega) | fail) | (apply q_rem; first | exact fs_remn rfl rfl (by omega) | exact fs_rem rfl rfl (by omega) | fail) | (apply q_and; first | exact fs_andn rfl rfl (by omega) (by omega) | fail) | (apply q_or; first | exact fs_orn rfl rfl (by omega) (by omega) | fail) | (apply q_xor; first | exact fs_xorn rfl rfl (by omega) (by omega) | fail) | fail) | (apply q_bui; first | (apply q_len; first | exact fs_len_sh rfl (by kernel_rfl) | exact fs_len_ref rfl (by kernel_rfl) | exact fs_len_nil rfl (by kernel_rfl) | exact fs_lens rfl (by kernel_rfl) | fail) | (apply q_max; first | exact fs_max rfl rfl | fail) | (apply q_min; first | exact fs_min rfl rfl | fail) | fail) | (apply q_extract; first | exact fs_extract rfl rfl | fail) | (apply q_nilCheck; first | exact fs_nilCheck rfl rfl rfl (by simp) | fail) | (apply q_index; first | exact fs_byte rfl rfl (List.getElem?_eq_getElem (by omega)) (by kernel_rfl) | fail) | (apply q_convert; first | exact fs_convb rfl (by kernel_rfl) (by kernel_rfl) | exact fs_conv64 rfl (by kernel_rfl) (by kernel_rfl) (by omega) (by omega) | exact fs_conv8 rfl (by kernel_rfl) (by kernel_rfl) (by omega) | fail) | (apply q_field; first | exact fs_field (off := 0) rfl rfl rfl (by decide +kernel) | exact fs_field (off := 1) rfl rfl rfl (by decide +kernel) | exact fs_field (off := 2) rfl rfl rfl (by decide +kernel) | exact fs_field (off := 3) rfl rfl rfl (by decide +kernel) | fail) | (apply q_build; first | exact fs_build (zs := [_, _]) rfl (by kernel_rfl) rfl rfl rfl | exact fs_build (zs := [_]) rfl (by kernel_rfl) rfl rfl rfl | exact fs_build (zs := [_, _, _]) rfl (by kernel_rfl) rfl rfl rfl | exact fs_build (zs := [_, _, _, _]) rfl (by kernel_rfl) rfl rfl rfl | fail) | (apply q_slice; first | exact fs_scut rfl rfl rfl (by omega) (by omega) (by kernel_rfl) | exact fs_scutl rfl rfl (by omega) (by kernel_rfl) | exact fs_scuth rfl rfl (by omega) (by kernel_rfl) | exact fs_cutm rfl rfl rfl (by omega) (by omega) (by kernel_rfl) (by kernel_rfl) (by decide) (fun _ => rfl) | exact fs_cutlm rfl rfl (by omega) (by kernel_rfl) (by kernel_rfl) (by decide) (fun _ => rfl) | exact fs_cuthm rfl rfl (by omega) (by kernel_rfl) (by kernel_rfl) (by decide) (fun _ => rfl) | exact fs_cut rfl rfl rfl (by simp; omega) (by simp; omega) (by kernel_rfl) (by kernel_rfl) (by decide) (wd_map fun _ => rfl) | exact fs_cutl rfl rfl (by simp; omega) (by kernel_rfl) (by kernel_rfl) (by decide) (wd_map fun _ => rfl) | exact fs_cuth rfl rfl (by simp; omega) (by kernel_rfl) (by kernel_rfl) (by decide) (wd_map fun _ => rfl) | fail) | (apply q_neg; first | exact fs_neg rfl (by omega) (by omega) | fail) | (apply q_buildSlice; first | exact fs_buildSlice (k := 1) rfl rfl rfl (by decide) (by decide) (by kernel_rfl) (by decide +kernel) rfl (by first | rfl | (simp only [nf, nr, nz]; rfl)) | exact fs_buildSlice (k := 2) rfl rfl rfl (by decide) (by decide) (by kernel_rfl) (by decide +kernel) rfl (by first | rfl | (simp only [nf, nr, nz]; rfl)) | fail) | fail) : Fs P RO o s r := h
end
end Eng
end Go.Proofs.YtijjcakbhnolhaaDoor
