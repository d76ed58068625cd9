/- The engine: a program logic over symbolic values. Part Ed. No condition. -/
import Derived.Laws.Tables
import Derived.JoinedOf
import Derived.Test.YtmfbcipjknjicaaGreatDoorEc

/- The engine, part Ff: further operations that only look, as a drawn region takes them. No condition. Printed by wip/bin/genfs2.py. -/
namespace Go.Proofs.YtmfbcipjknjicaaGreatDoor
set_option linter.unusedSectionVars false
variable [One Bool]
namespace Eng
open Go.RowKit
set_option linter.unusedSimpArgs false
section
variable {P : Program} {RO : Nat → Bool} {s : St} {d : Option Tmp} {ty : TypeId} {pos : String} {after : Array Edge} {g : Option (Nat × Bool)}

theorem fs_idx_mapI {α : Type} {f : α → RV} {l : List α} {x ix c k} {i : Int} (hx : s.get x = .sh (l.map f)) (hi : s.get ix = .v (.int k i)) (h0 : 0 ≤ i) (h : i.toNat < l.length) (ht : P.underlying c = some (.slice (P.elem c))) (hw : P.cellsOf (P.elem c) = (f l[i.toNat]).width) : Fs P RO ⟨d, .indexAddr c x ix, ty, pos, after, g⟩ s (.psh (f l[i.toNat])) := fun s2 hsx hO => ops_idx_mapI ((hsx _ (by simp [Op.operands, Call.operands])).trans hx) ((hsx _ (by simp [Op.operands, Call.operands])).trans hi) h0 h ht hw
theorem fs_idx_refm {α : Type} {f : α → RV} {l : List α} {x ix c n len k i kk} (hx : s.get x = .ref n 0 len) (hi : s.get ix = .v (.int k (i : Nat))) (hl : i < len) (hro : RO n = true) (ho : olook n s.O = some (kk, l.map f)) (hl2 : i < l.length) (ht : P.underlying c = some (.slice (P.elem c))) (hw : P.cellsOf (P.elem c) = kk) : Fs P RO ⟨d, .indexAddr c x ix, ty, pos, after, g⟩ s (.ptr n i 0) := fun s2 hsx hO => ops_idx_refm ((hsx _ (by simp [Op.operands, Call.operands])).trans hx) ((hsx _ (by simp [Op.operands, Call.operands])).trans hi) hl ((hO _ hro).trans ho) hl2 ht hw
theorem fs_idx_refmI {α : Type} {f : α → RV} {l : List α} {x ix c n len k} {i : Int} {kk} (hx : s.get x = .ref n 0 len) (hi : s.get ix = .v (.int k i)) (h0 : 0 ≤ i) (hl : i.toNat < len) (hro : RO n = true) (ho : olook n s.O = some (kk, l.map f)) (hl2 : i.toNat < l.length) (ht : P.underlying c = some (.slice (P.elem c))) (hw : P.cellsOf (P.elem c) = kk) : Fs P RO ⟨d, .indexAddr c x ix, ty, pos, after, g⟩ s (.ptr n i.toNat 0) := fun s2 hsx hO => ops_idx_refmI ((hsx _ (by simp [Op.operands, Call.operands])).trans hx) ((hsx _ (by simp [Op.operands, Call.operands])).trans hi) h0 hl ((hO _ hro).trans ho) hl2 ht hw
theorem fs_load_map {α : Type} {f : α → RV} {l : List α} {x t n i k} (hx : s.get x = .ptr n i 0) (hro : RO n = true) (ho : olook n s.O = some (k, l.map f)) (h : i < l.length) (hp : (f l[i]).plain = true) (ht : scalarT P t = true) : Fs P RO ⟨d, .load t x, ty, pos, after, g⟩ s (f l[i]) := fun s2 hsx hO => ops_load_map ((hsx _ (by simp [Op.operands, Call.operands])).trans hx) ((hO _ hro).trans ho) h hp ht
theorem fs_load_mapa {α : Type} {f : α → List RV} {l : List α} {x t n i k} (hx : s.get x = .ptr n i 0) (hro : RO n = true) (ho : olook n s.O = some (k, l.map fun a => .agg (f a))) (h : i < l.length) (hp : (f l[i]).all RV.plain = true) (ht : aggT P t = true) (hs2 : P.cellsOf t = (f l[i]).length) : Fs P RO ⟨d, .load t x, ty, pos, after, g⟩ s (.agg (f l[i])) := fun s2 hsx hO => ops_load_mapa ((hsx _ (by simp [Op.operands, Call.operands])).trans hx) ((hO _ hro).trans ho) h hp ht hs2
theorem fs_quo {x y t u} {m n : Int} (hx : s.get x = .v (.int .i64 m)) (hy : s.get y = .v (.int .i64 n)) (h0 : n ≠ 0) (h1 : -9223372036854775808 ≤ m.tdiv n) (h2 : m.tdiv n ≤ 9223372036854775807) : Fs P RO ⟨d, .binOp .quo t x y u, ty, pos, after, g⟩ s (.v (.int .i64 (m.tdiv n))) := fun s2 hsx hO => ops_quo ((hsx _ (by simp [Op.operands, Call.operands])).trans hx) ((hsx _ (by simp [Op.operands, Call.operands])).trans hy) h0 h1 h2
theorem fs_rem {x y t u k} {m n : Int} (hx : s.get x = .v (.int k m)) (hy : s.get y = .v (.int k n)) (h0 : n ≠ 0) : Fs P RO ⟨d, .binOp .rem t x y u, ty, pos, after, g⟩ s (.v (.int k (m.tmod n))) := fun s2 hsx hO => ops_rem ((hsx _ (by simp [Op.operands, Call.operands])).trans hx) ((hsx _ (by simp [Op.operands, Call.operands])).trans hy) h0
theorem fs_quon {x y t u} {m n : Nat} (hx : s.get x = .v (.int .i64 (m : Nat))) (hy : s.get y = .v (.int .i64 (n : Nat))) (h0 : 0 < n) (h2 : m ≤ 9223372036854775807) : Fs P RO ⟨d, .binOp .quo t x y u, ty, pos, after, g⟩ s (.v (.int .i64 ((m / n : Nat) : Int))) := fun s2 hsx hO => ops_quon ((hsx _ (by simp [Op.operands, Call.operands])).trans hx) ((hsx _ (by simp [Op.operands, Call.operands])).trans hy) h0 h2
theorem fs_remn {x y t u k} {m n : Nat} (hx : s.get x = .v (.int k (m : Nat))) (hy : s.get y = .v (.int k (n : Nat))) (h0 : 0 < n) : Fs P RO ⟨d, .binOp .rem t x y u, ty, pos, after, g⟩ s (.v (.int k ((m % n : Nat) : Int))) := fun s2 hsx hO => ops_remn ((hsx _ (by simp [Op.operands, Call.operands])).trans hx) ((hsx _ (by simp [Op.operands, Call.operands])).trans hy) h0
theorem fs_neg {x t} {m : Int} (hx : s.get x = .v (.int .i64 m)) (h1 : -9223372036854775807 ≤ m) (h2 : m ≤ 9223372036854775807) : Fs P RO ⟨d, .unOp .neg t x, ty, pos, after, g⟩ s (.v (.int .i64 (-m))) := fun s2 hsx hO => ops_neg ((hsx _ (by simp [Op.operands, Call.operands])).trans hx) h1 h2
theorem fs_pick_i {c x y b} {m n : Int} {k : IntKind} (hc : s.get c = .v (.bool b)) (hx : s.get x = .v (.int k m)) (hy : s.get y = .v (.int k n)) : Fs P RO ⟨d, .pick c x y, ty, pos, after, g⟩ s (.v (.int k (if b then m else n))) := fun s2 hsx hO => ops_pick_i ((hsx _ (by simp [Op.operands, Call.operands])).trans hc) ((hsx _ (by simp [Op.operands, Call.operands])).trans hx) ((hsx _ (by simp [Op.operands, Call.operands])).trans hy)
theorem fs_extract {x i l c} (hx : s.get x = .tup l) (hc : l[i]? = some c) : Fs P RO ⟨d, .extract x i, ty, pos, after, g⟩ s (c) := fun s2 hsx hO => ops_extract ((hsx _ (by simp [Op.operands, Call.operands])).trans hx) hc
theorem fs_field {x t f off l c} (hx : s.get x = .agg l) (hc : l[off]? = some c) (hp : c.plain = true) (hf : fldS P t f off = true) : Fs P RO ⟨d, .field t x f, ty, pos, after, g⟩ s (c) := fun s2 hsx hO => ops_field ((hsx _ (by simp [Op.operands, Call.operands])).trans hx) hc hp hf
theorem fs_xorn {x y t u} {m n : Nat} (hx : s.get x = .v (.int .i64 (m : Nat))) (hy : s.get y = .v (.int .i64 (n : Nat))) (h1 : m < 9223372036854775808) (h2 : n < 9223372036854775808) : Fs P RO ⟨d, .binOp .xor t x y u, ty, pos, after, g⟩ s (.v (.int .i64 ((m ^^^ n : Nat) : Int))) := fun s2 hsx hO => ops_xorn ((hsx _ (by simp [Op.operands, Call.operands])).trans hx) ((hsx _ (by simp [Op.operands, Call.operands])).trans hy) h1 h2
theorem fs_andn {x y t u} {m n : Nat} (hx : s.get x = .v (.int .i64 (m : Nat))) (hy : s.get y = .v (.int .i64 (n : Nat))) (h1 : m < 9223372036854775808) (h2 : n < 9223372036854775808) : Fs P RO ⟨d, .binOp .and t x y u, ty, pos, after, g⟩ s (.v (.int .i64 ((m &&& n : Nat) : Int))) := fun s2 hsx hO => ops_andn ((hsx _ (by simp [Op.operands, Call.operands])).trans hx) ((hsx _ (by simp [Op.operands, Call.operands])).trans hy) h1 h2
theorem fs_orn {x y t u} {m n : Nat} (hx : s.get x = .v (.int .i64 (m : Nat))) (hy : s.get y = .v (.int .i64 (n : Nat))) (h1 : m < 9223372036854775808) (h2 : n < 9223372036854775808) : Fs P RO ⟨d, .binOp .or t x y u, ty, pos, after, g⟩ s (.v (.int .i64 ((m ||| n : Nat) : Int))) := fun s2 hsx hO => ops_orn ((hsx _ (by simp [Op.operands, Call.operands])).trans hx) ((hsx _ (by simp [Op.operands, Call.operands])).trans hy) h1 h2
theorem fs_conv64 {x t u k0} {m : Int} (hx : s.get x = .v (.int k0 m)) (hs2 : (P.underlying t).isSome = true) (ht : P.underlying u = some (.int .i64)) (h1 : -9223372036854775808 ≤ m) (h2 : m ≤ 9223372036854775807) : Fs P RO ⟨d, .convert t u x, ty, pos, after, g⟩ s (.v (.int .i64 m)) := fun s2 hsx hO => ops_conv64 ((hsx _ (by simp [Op.operands, Call.operands])).trans hx) hs2 ht h1 h2
theorem fs_convb {x t u k0} {b : UInt8} (hx : s.get x = .v (.int k0 (b.toNat : Nat))) (hs2 : (P.underlying t).isSome = true) (ht : P.underlying u = some (.int .i64)) : Fs P RO ⟨d, .convert t u x, ty, pos, after, g⟩ s (.v (.int .i64 (b.toNat : Nat))) := fun s2 hsx hO => ops_convb ((hsx _ (by simp [Op.operands, Call.operands])).trans hx) hs2 ht
theorem fs_conv8 {x t u k0} {m : Nat} (hx : s.get x = .v (.int k0 (m : Nat))) (hs2 : (P.underlying t).isSome = true) (ht : P.underlying u = some (.int .u8)) (h2 : m < 256) : Fs P RO ⟨d, .convert t u x, ty, pos, after, g⟩ s (RVy (UInt8.ofNat m)) := fun s2 hsx hO => ops_conv8 ((hsx _ (by simp [Op.operands, Call.operands])).trans hx) hs2 ht h2
theorem fs_max {x y} {ts : Array TypeId} {k} {m n : Int} (hx : s.get x = .v (.int k m)) (hy : s.get y = .v (.int k n)) : Fs P RO ⟨d, .call ⟨.builtin .max, #[x, y], ts⟩, ty, pos, after, g⟩ s (.v (.int k (max m n))) := fun s2 hsx hO => ops_max ((hsx _ (by simp [Op.operands, Call.operands])).trans hx) ((hsx _ (by simp [Op.operands, Call.operands])).trans hy)
theorem fs_min {x y} {ts : Array TypeId} {k} {m n : Int} (hx : s.get x = .v (.int k m)) (hy : s.get y = .v (.int k n)) : Fs P RO ⟨d, .call ⟨.builtin .min, #[x, y], ts⟩, ty, pos, after, g⟩ s (.v (.int k (min m n))) := fun s2 hsx hO => ops_min ((hsx _ (by simp [Op.operands, Call.operands])).trans hx) ((hsx _ (by simp [Op.operands, Call.operands])).trans hy)
theorem fs_scut {x lo hi t p k1 k2} {l h : Nat} (hx : s.get x = .str p) (hl : s.get lo = .v (.int k1 (l : Nat))) (hh : s.get hi = .v (.int k2 (h : Nat))) (h1 : l ≤ h) (h2 : h ≤ p.length) (ht : P.underlying t = some .string) : Fs P RO ⟨d, .slice t x (some lo) (some hi) none, ty, pos, after, g⟩ s (.str ((p.drop l).take (h - l))) := fun s2 hsx hO => ops_scut ((hsx _ (by simp [Op.operands, Call.operands])).trans hx) ((hsx _ (by simp [Op.operands, Call.operands])).trans hl) ((hsx _ (by simp [Op.operands, Call.operands])).trans hh) h1 h2 ht
theorem fs_scutl {x lo t p k1} {l : Nat} (hx : s.get x = .str p) (hl : s.get lo = .v (.int k1 (l : Nat))) (h1 : l ≤ p.length) (ht : P.underlying t = some .string) : Fs P RO ⟨d, .slice t x (some lo) none none, ty, pos, after, g⟩ s (.str (p.drop l)) := fun s2 hsx hO => ops_scutl ((hsx _ (by simp [Op.operands, Call.operands])).trans hx) ((hsx _ (by simp [Op.operands, Call.operands])).trans hl) h1 ht
theorem fs_scuth {x hi t p k2} {h : Nat} (hx : s.get x = .str p) (hh : s.get hi = .v (.int k2 (h : Nat))) (h2 : h ≤ p.length) (ht : P.underlying t = some .string) : Fs P RO ⟨d, .slice t x none (some hi) none, ty, pos, after, g⟩ s (.str (p.take h)) := fun s2 hsx hO => ops_scuth ((hsx _ (by simp [Op.operands, Call.operands])).trans hx) ((hsx _ (by simp [Op.operands, Call.operands])).trans hh) h2 ht
theorem fs_cut {x lo hi t k1 k2 els kk} {l h : Nat} (hx : s.get x = .sh els) (hl : s.get lo = .v (.int k1 (l : Nat))) (hh : s.get hi = .v (.int k2 (h : Nat))) (h1 : l ≤ h) (h2 : h ≤ els.length) (ht : P.underlying t = some (.slice (P.elem t))) (hw : P.cellsOf (P.elem t) = kk) (hk : 0 < kk) (hwd : ∀ e ∈ els, e.width = kk) : Fs P RO ⟨d, .slice t x (some lo) (some hi) none, ty, pos, after, g⟩ s (.sh ((els.drop l).take (h - l))) := fun s2 hsx hO => ops_cut ((hsx _ (by simp [Op.operands, Call.operands])).trans hx) ((hsx _ (by simp [Op.operands, Call.operands])).trans hl) ((hsx _ (by simp [Op.operands, Call.operands])).trans hh) h1 h2 ht hw hk hwd
theorem fs_cutl {x lo t k1 els kk} {l : Nat} (hx : s.get x = .sh els) (hl : s.get lo = .v (.int k1 (l : Nat))) (h1 : l ≤ els.length) (ht : P.underlying t = some (.slice (P.elem t))) (hw : P.cellsOf (P.elem t) = kk) (hk : 0 < kk) (hwd : ∀ e ∈ els, e.width = kk) : Fs P RO ⟨d, .slice t x (some lo) none none, ty, pos, after, g⟩ s (.sh (els.drop l)) := fun s2 hsx hO => ops_cutl ((hsx _ (by simp [Op.operands, Call.operands])).trans hx) ((hsx _ (by simp [Op.operands, Call.operands])).trans hl) h1 ht hw hk hwd
theorem fs_cuth {x hi t k2 els kk} {h : Nat} (hx : s.get x = .sh els) (hh : s.get hi = .v (.int k2 (h : Nat))) (h2 : h ≤ els.length) (ht : P.underlying t = some (.slice (P.elem t))) (hw : P.cellsOf (P.elem t) = kk) (hk : 0 < kk) (hwd : ∀ e ∈ els, e.width = kk) : Fs P RO ⟨d, .slice t x none (some hi) none, ty, pos, after, g⟩ s (.sh (els.take h)) := fun s2 hsx hO => ops_cuth ((hsx _ (by simp [Op.operands, Call.operands])).trans hx) ((hsx _ (by simp [Op.operands, Call.operands])).trans hh) h2 ht hw hk hwd
end

end Eng
end Go.Proofs.YtmfbcipjknjicaaGreatDoor

/- The engine, part Fg: a function's end, reckoned: what its result variables hold, what they own. No condition. -/
namespace Go.Proofs.YtmfbcipjknjicaaGreatDoor
set_option linter.unusedSectionVars false
variable [One Bool]
namespace Eng
open Go.RowKit

def rawL (s : St) : List ResultVar → Option (List RV)
  | [] => some []
  | .tmp t :: rs => match rawL s rs with | some cs => some (lget s.fr t :: cs) | none => none
  | .cell t _ :: rs => match lget s.fr t with
    | .ptr n 0 0 => match olook n s.O with
      | some (_, [.agg l]) => match rawL s rs with | some cs => some (.agg l :: cs) | none => none
      | _ => none
    | _ => none
def cellsOk (P : Program) (s : St) : List ResultVar → Bool
  | [] => true
  | .tmp t :: rs => (lget s.fr t).notTup && cellsOk P s rs
  | .cell t ty :: rs => (match lget s.fr t with
    | .ptr n 0 0 => match olook n s.O with
      | some (_, [.agg l]) => l.all RV.plain && aggT P ty && P.cellsOf ty == l.length
      | _ => false
    | _ => false) && cellsOk P s rs
theorem rawL_ok {P s} : ∀ {rs : List ResultVar} {cs : List RV}, rawL s rs = some cs → cellsOk P s rs = true → ResL P s rs cs
  | [], cs, h, _ => by simp [rawL] at h; subst h; exact .nil
  | .tmp t :: rs, cs, h, hc => by
    simp only [rawL] at h
    simp only [cellsOk, Bool.and_eq_true] at hc
    split at h
    · rename_i cs2 h2
      cases h
      exact .tmp rfl hc.1 (rawL_ok h2 hc.2)
    · cases h
  | .cell t ty :: rs, cs, h, hc => by
    simp only [rawL] at h
    simp only [cellsOk, Bool.and_eq_true] at hc
    split at h
    · rename_i n hn
      split at h
      · rename_i k l hl
        split at h
        · rename_i cs2 h2
          cases h
          have h3 := hc.1
          rw [hn] at h3
          simp only [hl, Bool.and_eq_true, beq_iff_eq] at h3
          exact .cell hn hl h3.1.1 h3.1.2 h3.2 (rawL_ok h2 hc.2)
        · cases h
      · cases h
    · cases h

def seal1 (O : List Bk) : RV → RV × List Bk
  | .ref n 0 len => match olook n O with
    | some (k, els) => (.ow k els, oerase n O)
    | none => (.ref n 0 len, O)
  | r => (r, O)
def seal1Ok (O : List Bk) : RV → Prop
  | .ref n 0 len => match olook n O with
    | some (_, els) => len = els.length ∧ RV.namesL els = []
    | none => True
  | _ => True
def sealF (O : List Bk) : List RV → List RV × List Bk
  | [] => ([], O)
  | r :: rs => ((seal1 O r).1 :: (sealF (seal1 O r).2 rs).1, (sealF (seal1 O r).2 rs).2)
def sealFOk (O : List Bk) : List RV → Prop
  | [] => True
  | r :: rs => seal1Ok O r ∧ sealFOk (seal1 O r).2 rs
def seal2 (O : List Bk) : RV → RV × List Bk
  | .agg l => (.agg (sealF O l).1, (sealF O l).2)
  | r => seal1 O r
def seal2Ok (O : List Bk) : RV → Prop
  | .agg l => sealFOk O l
  | r => seal1Ok O r
def sealG (O : List Bk) : List RV → List RV × List Bk
  | [] => ([], O)
  | r :: rs => ((seal2 O r).1 :: (sealG (seal2 O r).2 rs).1, (sealG (seal2 O r).2 rs).2)
def sealGOk (O : List Bk) : List RV → Prop
  | [] => True
  | r :: rs => seal2Ok O r ∧ sealGOk (seal2 O r).2 rs
theorem seal1_other {O : List Bk} {r : RV} (hne : ∀ n len, r ≠ .ref n 0 len) : seal1 O r = (r, O) := by
  unfold seal1
  split
  · exact absurd rfl (hne _ _)
  · rfl
theorem seal1_ok {O : List Bk} {r : RV} (h : seal1Ok O r) {rs rs' O'} (hs : SealL (seal1 O r).2 rs rs' O') : SealL O (r :: rs) ((seal1 O r).1 :: rs') O' := by
  by_cases hr : ∃ n len, r = .ref n 0 len
  · obtain ⟨n, len, rfl⟩ := hr
    cases hl : olook n O with
    | none =>
      simp only [seal1, hl] at hs ⊢
      exact .keep hs
    | some x =>
      obtain ⟨k, els⟩ := x
      simp only [seal1, seal1Ok, hl] at hs h ⊢
      exact sealL_own hl h.1 h.2 hs
  · have e := seal1_other (O := O) (r := r) fun n len he => hr ⟨n, len, he⟩
    rw [e] at hs ⊢
    exact .keep hs
theorem sealF_ok : ∀ {rs : List RV} {O : List Bk}, sealFOk O rs → SealL O rs (sealF O rs).1 (sealF O rs).2
  | [], _, _ => .nil
  | _ :: _, _, h => seal1_ok h.1 (sealF_ok h.2)
theorem sealG_ok : ∀ {rs : List RV} {O : List Bk}, sealGOk O rs → SealL O rs (sealG O rs).1 (sealG O rs).2
  | [], _, _ => .nil
  | r :: rs, O, h => by
    have h2 := sealG_ok h.2
    cases r with
    | agg l => exact .agg (sealF_ok h.1) h2
    | v x => exact seal1_ok (O := O) (r := .v x) h.1 h2
    | any => exact seal1_ok (O := O) (r := .any) h.1 h2
    | sh l => exact seal1_ok (O := O) (r := .sh l) h.1 h2
    | ow k l => exact seal1_ok (O := O) (r := .ow k l) h.1 h2
    | ref n a b => exact seal1_ok (O := O) (r := .ref n a b) h.1 h2
    | ptr n a b => exact seal1_ok (O := O) (r := .ptr n a b) h.1 h2
    | psh e => exact seal1_ok (O := O) (r := .psh e) h.1 h2
    | tup l => exact seal1_ok (O := O) (r := .tup l) h.1 h2
    | fn f l => exact seal1_ok (O := O) (r := .fn f l) h.1 h2
theorem en_end {P fn s rs cs r e} (he : e = Exit.ret ∨ e = Exit.normal := by first | exact .inl rfl | exact .inr rfl) (hf : fn.results = rs.toArray) (h4 : rs.length ≤ 4 := by decide) (h : rawL s rs = some cs := by rfl) (hc : cellsOk P s rs = true := by kernel_rfl) (hag : noAgg2 cs = true := by rfl) (hs : sealGOk s.O cs := by simp [ne, nm, lget, -List.map_take, -List.map_drop, -List.map_set] <;> omega) (hr : packR (sealG s.O cs).1 = r) : EN P fn (fun rv O => rv = r ∧ O = []) e s :=
  en_of he hf h4 (rawL_ok h hc) (noAgg2_ok hag) (sealG_ok hs) hr
theorem en_endm {P fn s rs cs r e Oout} (junk : List Bk) (he : e = Exit.ret ∨ e = Exit.normal := by first | exact .inl rfl | exact .inr rfl) (hf : fn.results = rs.toArray) (h4 : rs.length ≤ 4 := by decide) (h : rawL s rs = some cs := by rfl) (hc : cellsOk P s rs = true := by kernel_rfl) (hag : noAgg2 cs = true := by rfl) (hs : sealGOk s.O cs := by simp [ne, nm, lget, -List.map_take, -List.map_drop, -List.map_set] <;> omega) (hO : (sealG s.O cs).2 = junk ++ Oout) (hr : packR (sealG s.O cs).1 = r) : EN P fn (fun rv O => rv = r ∧ O = Oout) e s :=
  ends_m he hf h4 (rawL_ok h hc) (noAgg2_ok hag) (hO ▸ sealG_ok hs) hr
theorem ne : (∀ O, sealG O [] = ([], O)) ∧ (∀ O r rs, sealG O (r :: rs) = ((seal2 O r).1 :: (sealG (seal2 O r).2 rs).1, (sealG (seal2 O r).2 rs).2)) ∧ (∀ O, sealF O [] = ([], O)) ∧ (∀ O r rs, sealF O (r :: rs) = ((seal1 O r).1 :: (sealF (seal1 O r).2 rs).1, (sealF (seal1 O r).2 rs).2)) ∧
    (∀ O l, seal2 O (.agg l) = (.agg (sealF O l).1, (sealF O l).2)) ∧ (∀ O x, seal2 O (.v x) = (.v x, O)) ∧ (∀ O l, seal2 O (.sh l) = (.sh l, O)) ∧ (∀ O, seal2 O .any = (.any, O)) ∧ (∀ O n a b, seal2 O (.ref n a b) = seal1 O (.ref n a b)) ∧ (∀ O n a b, seal2 O (.ptr n a b) = (.ptr n a b, O)) ∧
    (∀ O x, seal1 O (.v x) = (.v x, O)) ∧ (∀ O l, seal1 O (.sh l) = (.sh l, O)) ∧ (∀ O, seal1 O .any = (.any, O)) ∧ (∀ O n a b, seal1 O (.ptr n a b) = (.ptr n a b, O)) ∧
    (∀ n k els O len, seal1 ((n, k, els) :: O) (.ref n 0 len) = (.ow k els, O)) ∧ (∀ n m k els O len, m ≠ n → seal1 ((m, k, els) :: O) (.ref n 0 len) = ((seal1 O (.ref n 0 len)).1, (m, k, els) :: (seal1 O (.ref n 0 len)).2)) ∧
    (∀ O, sealGOk O [] = True) ∧ (∀ O r rs, sealGOk O (r :: rs) = (seal2Ok O r ∧ sealGOk (seal2 O r).2 rs)) ∧ (∀ O, sealFOk O [] = True) ∧ (∀ O r rs, sealFOk O (r :: rs) = (seal1Ok O r ∧ sealFOk (seal1 O r).2 rs)) ∧
    (∀ O l, seal2Ok O (.agg l) = sealFOk O l) ∧ (∀ O x, seal2Ok O (.v x) = True) ∧ (∀ O l, seal2Ok O (.sh l) = True) ∧ (∀ O, seal2Ok O .any = True) ∧ (∀ O n a b, seal2Ok O (.ref n a b) = seal1Ok O (.ref n a b)) ∧ (∀ O n a b, seal2Ok O (.ptr n a b) = True) ∧
    (∀ O x, seal1Ok O (.v x) = True) ∧ (∀ O l, seal1Ok O (.sh l) = True) ∧ (∀ O, seal1Ok O .any = True) ∧ (∀ O n a b, seal1Ok O (.ptr n a b) = True) ∧
    (∀ n k els O len, seal1Ok ((n, k, els) :: O) (.ref n 0 len) = (len = els.length ∧ RV.namesL els = [])) ∧ (∀ n m k els O len, m ≠ n → seal1Ok ((m, k, els) :: O) (.ref n 0 len) = seal1Ok O (.ref n 0 len)) ∧
    (∀ x, packR [x] = x) ∧ (∀ x y l, packR (x :: y :: l) = .tup (x :: y :: l)) ∧ packR [] = .tup [] := by
  refine ⟨fun _ => rfl, fun _ _ _ => rfl, fun _ => rfl, fun _ _ _ => rfl, fun _ _ => rfl, fun _ _ => rfl, fun _ _ => rfl, fun _ => rfl, fun _ _ _ _ => rfl, fun _ _ _ _ => rfl, fun _ _ => rfl, fun _ _ => rfl, fun _ => rfl, fun _ _ _ _ => rfl, ?_, ?_, fun _ => rfl, fun _ _ _ => rfl, fun _ => rfl, fun _ _ _ => rfl, fun _ _ => rfl, fun _ _ => rfl, fun _ _ => rfl, fun _ => rfl, fun _ _ _ _ => rfl, fun _ _ _ _ => rfl, fun _ _ => rfl, fun _ _ => rfl, fun _ => rfl, fun _ _ _ _ => rfl, ?_, ?_, fun _ => rfl, fun _ _ _ => rfl, rfl⟩
  · intro n k els O len; simp [seal1, olook, oerase]
  · intro n m k els O len h
    simp only [seal1, olook, oerase, if_neg h]
    cases olook n O <;> rfl
  · intro n k els O len; simp [seal1Ok, olook]
  · intro n m k els O len h; simp [seal1Ok, olook, if_neg h]
end Eng
end Go.Proofs.YtmfbcipjknjicaaGreatDoor

/- The engine, part Fh: stores and appends that take a whole block in; nil slices lengthened, filled; slices of structs made; struct values. No condition. -/
namespace Go.Proofs.YtmfbcipjknjicaaGreatDoor
set_option linter.unusedSectionVars false
variable [One Bool]
namespace Eng
open Go.RowKit

theorem OpS.le {P o s s1 s2} (h : OpS P o s s1) (hl : LE s1 s2) : OpS P o s s2 :=
  fun E a w hr K Q hK => h E a w hr K Q fun a' w' hx => hK a' w' (hl.out E a' w' hx)
theorem OpS.pre {P o s s1 s2} (hl : LE s s1) (h : OpS P o s1 s2) : OpS P o s s2 :=
  fun E a w hr K Q hK => h E a w (hl.out E a w hr) K Q hK

theorem setCell_setCell {e : RV} {j : Nat} {r q : RV} (h : e.isAgg = false → r.isAgg = false) : (e.setCell j r).setCell j q = e.setCell j q := by
  cases e with
  | agg l => simp [RV.setCell]
  | _ => cases r <;> simp [RV.setCell, RV.isAgg] at h ⊢
theorem oset_oset (n : Nat) (a b : List RV) (O : List Bk) : oset n b (oset n a O) = oset n b O := by
  induction O with
  | nil => rfl
  | cons x O ih =>
    obtain ⟨q, k3, e3⟩ := x
    simp only [oset]
    by_cases h : q = n
    · simp [oset, h]
    · simp [oset, h, ih]
theorem cellsL_setCell {e : RV} {j : Nat} {r : RV} (hj : j < e.cellsL.length) (hr : r.isAgg = false) : (e.setCell j r).cellsL[j]? = some r := by
  cases e with
  | agg l => simp only [RV.setCell, RV.cellsL] at hj ⊢; exact List.getElem?_set_self hj
  | _ => simp [RV.cellsL] at hj; subst hj; cases r <;> simp [RV.setCell, RV.cellsL, RV.isAgg] at hr ⊢

section
variable {P : Program} {s : St} {ty : TypeId} {pos : String} {after : Array Edge} {g : Option (Nat × Bool)}
theorem ops_store_seal {x v t n i j k els e m k2 len els2} (hx : s.get x = .ptr n i j) (hv : s.get v = .ref m 0 len) (ho : olook n s.O = some (k, els)) (he : els[i]? = some e) (hj : j < e.cellsL.length) (ht : P.cellsOf t = 1) (hm : olook m s.O = some (k2, els2)) (hlen : len = els2.length) (hn : RV.namesL els2 = []) (hne : n ≠ m) :
    OpS P ⟨none, .store t x v, ty, pos, after, g⟩ s ⟨RV.killL m s.fr, oerase m (oset n (els.set i (e.setCell j (.ow k2 els2))) s.O)⟩ := by
  have hlt : i < els.length := (List.getElem?_eq_some_iff.1 he).1
  refine OpS.le (ops_store hx hv ho he hj rfl ht) (le_seal n i j m (olook_oset ho) (List.getElem?_set_self hlt) (cellsL_setCell hj rfl) (by rw [olook_oset_ne (Ne.symm hne)]; exact hm) hlen hn hne rfl ?_)
  rw [List.set_set, setCell_setCell fun _ => rfl]
  rw [oset_oset]
theorem ops_store_sealm {α : Type} {f : α → RV} {l : List α} {x v t n i k m k2 len els2} (hx : s.get x = .ptr n i 0) (hv : s.get v = .ref m 0 len) (ho : olook n s.O = some (k, l.map f)) (h : i < l.length) (ha : (f l[i]).isAgg = false) (ht : P.cellsOf t = 1) (hm : olook m s.O = some (k2, els2)) (hlen : len = els2.length) (hn : RV.namesL els2 = []) (hne : n ≠ m) :
    OpS P ⟨none, .store t x v, ty, pos, after, g⟩ s ⟨RV.killL m s.fr, oerase m (oset n ((l.map f).set i (.ow k2 els2)) s.O)⟩ := by
  have e : (f l[i]).setCell 0 (.ow k2 els2) = .ow k2 els2 := by
    cases hf : f l[i] <;> first | rfl | (rw [hf] at ha; cases ha)
  have := ops_store_seal (P := P) (ty := ty) (pos := pos) (after := after) (g := g) hx hv ho (by simp [h] : (l.map f)[i]? = some (f l[i])) (cellsL_pos ha) ht hm hlen hn hne
  rwa [e] at this
end

theorem madeCells_k {z : Value} {zs : List Value} (hz : z.cells = zs.toArray) (h0 : 0 < zs.length) (n : Nat) : madeCells z.cells (n * zs.length) = (List.replicate n zs).flatten.toArray := by
  apply Array.ext'
  apply List.ext_getElem
  · simp [madeCells]
  · intro i h1 h2
    simp only [madeCells, hz] at h1 ⊢
    simp only [Array.toList_map, Array.toList_range, List.getElem_map, List.getElem_range]
    have key : ∀ (n i : Nat) (h : i < (List.replicate n zs).flatten.length), (List.replicate n zs).flatten[i] = zs[i % zs.length]'(Nat.mod_lt _ h0) := by
      intro n
      induction n with
      | zero => intro i h; simp at h
      | succ n ih =>
        intro i h
        simp only [List.replicate_succ, List.flatten_cons]
        by_cases hi : i < zs.length
        · rw [List.getElem_append_left hi]
          simp [Nat.mod_eq_of_lt hi]
        · rw [List.getElem_append_right (by omega)]
          rw [ih]
          congr 1
          rw [Nat.mod_eq_sub_mod (by omega : zs.length ≤ i)]
    rw [key]
    have hlt : i % zs.toArray.size < zs.toArray.size := by simp; exact Nat.mod_lt _ h0
    rw [getElem!_pos zs.toArray _ hlt]
    simp

section
variable {P : Program} {s : St} {d : Tmp} {ty : TypeId} {pos : String} {after : Array Edge} {g : Option (Nat × Bool)}
theorem ops_makeSlicea {t l c} {kl kc : IntKind} {n : Nat} (hl : s.get l = .v (.int kl (n : Nat))) (hc : s.get c = .v (.int kc (n : Nat))) (ht : P.underlying t = some (.slice (P.elem t))) {zs : List Value} (hw : P.cellsOf (P.elem t) = zs.length) (hz : zeroOf P (P.elem t) = some (.agg zs.toArray)) (h0 : 0 < zs.length) (h1 : zs.all Value.oneCell' = true)
    (hb : (P.info? (P.elem t)).map (fun i => decide (i.bytes ≤ 64)) = some true) (hn : n ≤ 1099511627776) (hd : d < 1000000000000 ∧ d ∉ RV.namesL s.fr) (hO : d ∉ onames s.O) :
    OpS P ⟨some d, .makeSlice t l c, ty, pos, after, g⟩ s ⟨lset s.fr d (.ref d 0 n), (d, zs.length, List.replicate n (.agg (zs.map .v))) :: s.O⟩ :=
  ops_of fun E a w F ρ fp hr => by
    cases hi : P.info? (P.elem t) with
    | none => simp [hi] at hb
    | some i =>
      simp only [hi, Option.map_some, Option.some.injEq, decide_eq_true_eq] at hb
      have hz' : i.zero = some (.agg zs.toArray) := by simpa [zeroOf, hi] using hz
      have hw' : i.size = zs.length := by simpa [Program.cellsOf, hi] using hw
      have hrun := run_make (P := P) w t (P.elem t) i _ ht hi hz' kl kc n n (by omega) (by omega) (by
        have h2 : i.bytes * n ≤ 64 * n := Nat.mul_le_mul_right _ hb
        have h3 : ((i.bytes * n : Nat) : Int) ≤ 281474976710656 := by omega
        rwa [Int.natCast_mul] at h3) (by omega)
      simp only [Int.toNat_natCast, hw', madeCells_k (z := .agg zs.toArray) rfl h0] at hrun
      have hvs : ∀ zs : List Value, zs.all Value.oneCell' = true → FE w F 1 (zs.map .v) zs := by
        intro zs
        induction zs with
        | nil => intro _; exact .nil _
        | cons z zs ih => intro h; simp only [List.all_cons, Bool.and_eq_true] at h; exact .v z h.1 (ih h.2)
      have hE : OE w F ρ zs.length (List.replicate n (.agg (zs.map .v))) (List.replicate n zs).flatten [] := by
        have h5 : FE w F zs.length [.agg (zs.map .v)] zs := by simpa using FE.agg (hvs zs h1) rfl (.nil _)
        exact OE.replicate h5 n
      have hnm : (RV.agg (zs.map RV.v)).names = [] := by simp only [RV.names]; exact namesL_vs zs
      obtain ⟨ρ', h4, h5⟩ := hr.alloc d zs.length (List.replicate n (.agg (zs.map .v))) (P.elem t) (List.replicate n zs).flatten.toArray h0 (by simp) (by simp [maxLen]; omega) (by simpa using hE) hd hO (by rw [namesL_replicate _ hnm]; simp)
      refine ⟨.slice (some ⟨w.heap.size, 0, none⟩) n n, w.alloc (.cells (List.replicate n zs).flatten.toArray (P.elem t)), ?_, F, ρ', w.heap.size :: fp, ?_⟩
      rotate_left
      · have := h5.put (some d) (SV.ref_mk h4 0 n)
        simpa [sput] using this
      · simp [execOp, hr.ex hl, hr.ex hc, hrun]
end

theorem le_nil {fr fr' : List RV} {O : List Bk} (t n k : Nat) (hk : 0 < k) (h : lget fr t = .v (.slice none 0 0)) (hn : n < 1000000000000 ∧ n ∉ RV.namesL fr) (hO : n ∉ onames O) (e : lset fr t (.ref n 0 0) = fr') : LE ⟨fr, O⟩ ⟨fr', (n, k, []) :: O⟩ := by
  subst e
  refine ⟨?_⟩
  rintro E a w ⟨F, ρ, fp, hr⟩
  refine ⟨F, fun m => if m = n then (none, k, 0) else ρ m, fp, hr.defers, by simpa using hr.size, fun i => ?_, ?_, hr.nodup, hr.fpF, hr.fpE, hr.F0, hr.Fn, hr.Fs, hr.keep, hr.hsize, hr.os, hr.tape, hr.output, ?_⟩
  · show SV w F _ (lget (lset fr t (.ref n 0 0)) i) _ []
    rw [lget_lset]
    split
    · rename_i hi
      rw [hi.1]
      have h1 := hr.fr t
      have h2 : SV w F ρ (lget fr t) (a.tmps.getD t undef) [] := h1
      rw [h] at h2
      rw [h2.exact]
      have h3 := OE.ref (w := w) (F := F) (ρ := fun m => if m = n then (none, k, 0) else ρ m) n 0 0 (by simp; omega) (.nil _ 1)
      simp at h3
      exact .one (.cell rfl h3)
    · refine SV.places (hr.fr i) fun m hm => if_neg fun he => hn.2 ?_
      subst he
      exact names_lget _ _ _ hm
  · refine .nilb hk (by simp) (hr.O.places fun m hm => if_neg fun he => hO ?_)
    subst he; exact hm
  · intro m hm
    show (if m = n then _ else ρ m) = _
    rw [if_neg (by omega)]
    exact hr.pin m hm

theorem OE.nils {w F ρ} (k : Nat) (hk : 0 < k) {n : Nat} {cs fp} (h : OE w F ρ 1 (List.replicate n (.v (.slice none 0 0))) cs fp) : OE w F ρ 1 (List.replicate n (.ow k [])) cs fp := by
  induction n generalizing cs fp with
  | zero => exact h
  | succ n ih =>
    simp only [List.replicate_succ] at h ⊢
    obtain ⟨c1, c2, f1, f2, rfl, rfl, hc1, h1, h2⟩ := h.cons_inv
    match c1, hc1 with
    | [y], _ =>
      rcases h1.single rfl with ⟨h3, rfl⟩ | ⟨_, _, _, _, _, _, _, e, _⟩ | ⟨_, _, _, e, _⟩ | ⟨_, _, _, e, _⟩ | ⟨_, e, _⟩
      · cases h3
        exact OE.cons (fp1 := []) (.ownil k hk (.nil _ _)) (ih h2)
      all_goals cases e
theorem le_nils {fr : List RV} {O O' : List Bk} (n k m : Nat) (hk : 0 < k) (ho : olook n O = some (1, List.replicate m (.v (.slice none 0 0)))) (e : oset n (List.replicate m (.ow k [])) O = O') : LE ⟨fr, O⟩ ⟨fr, O'⟩ := by
  subst e
  refine ⟨?_⟩
  rintro E a w ⟨F, ρ, fp, hr⟩
  obtain ⟨fp', hO, hp⟩ := hr.O.pull ho
  have key : ∃ fpn, OL w F ρ ((n, 1, List.replicate m (.ow k [])) :: oerase n O) fpn ∧ fpn.Perm fp' := by
    generalize hels : List.replicate m (RV.v (.slice none 0 0)) = els at hO
    cases hO with
    | nilb h1 h2 h3 =>
      have : m = 0 := by cases m with | zero => rfl | succ m => simp [List.replicate_succ] at hels
      subst this
      exact ⟨_, .nilb h1 h2 h3, .refl _⟩
    | @cons _ b _ _ ty c cells _ fp1 fp2 h1 h2 h3 h4 h5 h6 h7 h8 h9 h10 =>
      subst hels
      refine ⟨_, .cons h1 h2 h3 h4 h5 (by simpa using h6) h7 (by simpa using h8) (h9.nils k hk) h10, .refl _⟩
  obtain ⟨fpn, hOn, hpn⟩ := key
  rw [← oerase_oset n (List.replicate m (.ow k [])) O] at hOn
  obtain ⟨fpz, hOz, hpz⟩ := hOn.push (olook_oset ho)
  have hperm : fpz.Perm fp := hpz.symm.trans (hpn.trans hp.symm)
  exact ⟨F, ρ, fpz, hr.defers, hr.size, hr.fr, hOz, hperm.nodup_iff.2 hr.nodup, fun b hb => hr.fpF b (hperm.mem_iff.1 hb), fun b hb => hr.fpE b (hperm.mem_iff.1 hb), hr.F0, hr.Fn, hr.Fs, hr.keep, hr.hsize, hr.os, hr.tape, hr.output, hr.pin⟩

section
variable {P : Program} {s : St} {d : Tmp} {ty : TypeId} {pos : String} {after : Array Edge} {g : Option (Nat × Bool)}
theorem ops_makeSlice_nil {t l c} {kl kc : IntKind} {n : Nat} (hl : s.get l = .v (.int kl (n : Nat))) (hc : s.get c = .v (.int kc (n : Nat))) (ht : P.underlying t = some (.slice (P.elem t))) (hw : P.cellsOf (P.elem t) = 1) (hz : zeroOf P (P.elem t) = some (.slice none 0 0))
    (hb : (P.info? (P.elem t)).map (fun i => decide (i.bytes ≤ 64)) = some true) (hn : n ≤ 1099511627776) (hd : d < 1000000000000 ∧ d ∉ RV.namesL s.fr) (hO : d ∉ onames s.O) :
    OpS P ⟨some d, .makeSlice t l c, ty, pos, after, g⟩ s ⟨lset s.fr d (.ref d 0 n), (d, 1, List.replicate n (.ow 1 [])) :: s.O⟩ :=
  OpS.le (ops_makeSlice hl hc ht hw hz rfl hb hn hd hO) (le_nils d 1 n (by omega) (by simp [olook]) (by simp [oset]))
theorem ops_append_nil {t0 y t m k els2} (hx : lget s.fr t0 = .v (.slice none 0 0)) (hy : (⟨lset s.fr t0 (.ref d 0 0), s.O⟩ : St).get y = .ref m 0 els2.length) (ho2 : olook m s.O = some (k, els2)) (hne : d ≠ m) (h0 : els2 ≠ []) (hk : 0 < k) (hlt : t0 < s.fr.length)
    (hd : d < 1000000000000 ∧ d ∉ RV.namesL s.fr) (hO : d ∉ onames s.O) (hO2 : d ∉ onames (oerase m s.O)) (hn2 : d ∉ RV.namesL els2)
    (ht : P.underlying t = some (.slice (P.elem t))) (hw : P.cellsOf (P.elem t) = k) (hz : (zeroOf P (P.elem t)).map (fun z => decide (z.cells.size = k)) = some true) (hb : (P.info? (P.elem t)).map (fun i => decide (i.bytes ≤ 64)) = some true) (hlen : els2.length ≤ 1099511627776) :
    OpS P ⟨some d, .call ⟨.builtin .append, #[.tmp t0, y], #[t, t]⟩, ty, pos, after, g⟩ s ⟨lset (RV.killL d (lset s.fr t0 (.ref d 0 0))) d (.ref d 0 els2.length), (d, k, els2) :: oerase m s.O⟩ := by
  have h1 := ops_append_own (P := P) (s := ⟨lset s.fr t0 (.ref d 0 0), (d, k, []) :: s.O⟩) (d := d) (ty := ty) (pos := pos) (after := after) (g := g) (x := .tmp t0) (y := y) (t := t) (n := d) (m := m) (k := k) (els := []) (els2 := els2)
    (by show lget (lset s.fr t0 (.ref d 0 0)) t0 = _; rw [lget_lset, if_pos ⟨rfl, hlt⟩]; rfl) (by cases y <;> exact hy) (by simp [olook]) (by simp [olook, hne]; exact ho2) hne h0 ⟨hd.1, by simp [RV.namesL]⟩ hn2 (by simp [oerase, hne]; exact hO2) ht hw hz hb (by simpa using hlen)
  refine OpS.pre (le_nil t0 d k hk hx hd hO rfl) ?_
  simpa [oset, oerase, hne] using h1
theorem ops_append_nilsh {t0 y t k els2} (hx : lget s.fr t0 = .v (.slice none 0 0)) (hy : (⟨lset s.fr t0 (.ref d 0 0), s.O⟩ : St).get y = .sh els2) (hk : 0 < k) (hlt : t0 < s.fr.length) (hwd : els2.all (fun e => e.width == k) = true)
    (hd : d < 1000000000000 ∧ d ∉ RV.namesL s.fr) (hO : d ∉ onames s.O)
    (ht : P.underlying t = some (.slice (P.elem t))) (hw : P.cellsOf (P.elem t) = k) (hz : (zeroOf P (P.elem t)).map (fun z => decide (z.cells.size = k)) = some true) (hb : (P.info? (P.elem t)).map (fun i => decide (i.bytes ≤ 64)) = some true) (hlen : els2.length ≤ 1099511627776) :
    OpS P ⟨some d, .call ⟨.builtin .append, #[.tmp t0, y], #[t, t]⟩, ty, pos, after, g⟩ s ⟨lset (RV.killL d (lset s.fr t0 (.ref d 0 0))) d (.ref d 0 els2.length), (d, k, els2) :: s.O⟩ := by
  have h1 := ops_append_sh (P := P) (s := ⟨lset s.fr t0 (.ref d 0 0), (d, k, []) :: s.O⟩) (d := d) (ty := ty) (pos := pos) (after := after) (g := g) (x := .tmp t0) (y := y) (t := t) (n := d) (k := k) (els := []) (els2 := els2)
    (by show lget (lset s.fr t0 (.ref d 0 0)) t0 = _; rw [lget_lset, if_pos ⟨rfl, hlt⟩]; rfl) (by cases y <;> exact hy) (by simp [olook]) hwd ⟨hd.1, by simp [RV.namesL]⟩ (by simp [oerase]; exact hO) ht hw hz hb (by simpa using hlen)
  refine OpS.pre (le_nil t0 d k hk hx hd hO rfl) ?_
  simpa [oset, oerase] using h1
theorem ops_append_seal {x y t n m q els k3 els3 len} (hx : s.get x = .ref n 0 els.length) (hy : s.get y = .ref m 0 1) (ho : olook n s.O = some (1, els)) (ho2 : olook m s.O = some (1, [.ref q 0 len])) (ho3 : olook q s.O = some (k3, els3)) (hlen3 : len = els3.length) (hn3' : RV.namesL els3 = []) (hne : n ≠ m) (hnq : n ≠ q) (hmq : m ≠ q)
    (hn1 : n < 1000000000000 ∧ n ∉ RV.namesL els) (hn3 : n ∉ onames (oerase n (oerase m s.O)))
    (ht : P.underlying t = some (.slice (P.elem t))) (hw : P.cellsOf (P.elem t) = 1) (hz : (zeroOf P (P.elem t)).map (fun z => decide (z.cells.size = 1)) = some true) (hb : (P.info? (P.elem t)).map (fun i => decide (i.bytes ≤ 64)) = some true) (hlen : els.length + 1 ≤ 1099511627776) :
    OpS P ⟨some d, .call ⟨.builtin .append, #[x, y], #[t, t]⟩, ty, pos, after, g⟩ s ⟨RV.killL q (lset (RV.killL n s.fr) d (.ref n 0 (els.length + 1))), oerase q (oset n (els ++ [.ow k3 els3]) (oerase m s.O))⟩ := by
  have h1 := ops_append_own (P := P) (s := s) (d := d) (ty := ty) (pos := pos) (after := after) (g := g) (x := x) (y := y) (t := t) (n := n) (m := m) (k := 1) (els := els) (els2 := [.ref q 0 len]) hx hy ho ho2 hne (by simp) hn1 (by simp [RV.namesL, RV.names]; exact hnq) hn3 ht hw hz hb hlen
  refine OpS.le h1 (le_seal n els.length 0 q (els := els ++ [.ref q 0 len]) (e := .ref q 0 len) (len := len) (k := 1) (k2 := k3) (els2 := els3) ?_ (by simp) (by simp [RV.cellsL]) ?_ hlen3 hn3' hnq (by simp) ?_)
  · exact olook_oset (by rw [olook_oerase hne]; exact ho)
  · rw [olook_oset_ne (Ne.symm hnq), olook_oerase (Ne.symm hmq)]; exact ho3
  · congr 1
    have : (els ++ [RV.ref q 0 len]).set els.length ((RV.ref q 0 len).setCell 0 (.ow k3 els3)) = els ++ [.ow k3 els3] := by
      rw [List.set_append_right _ _ (Nat.le_refl _)]; simp [RV.setCell]
    rw [this, oset_oset]
end
end Eng
end Go.Proofs.YtmfbcipjknjicaaGreatDoor

/- The engine, part Fi: appends at lengths that are told in other words. No condition. -/
namespace Go.Proofs.YtmfbcipjknjicaaGreatDoor
set_option linter.unusedSectionVars false
variable [One Bool]
namespace Eng
open Go.RowKit
section
variable {P : Program} {s : St} {d : Tmp} {ty : TypeId} {pos : String} {after : Array Edge} {g : Option (Nat × Bool)}
def appOk (P : Program) (t k : Nat) : Prop := P.underlying t = some (.slice (P.elem t)) ∧ P.cellsOf (P.elem t) = k ∧ (zeroOf P (P.elem t)).map (fun z => decide (z.cells.size = k)) = some true ∧ (P.info? (P.elem t)).map (fun i => decide (i.bytes ≤ 64)) = some true
theorem ap_own {x y t n m k els els2 len len2} (hx : s.get x = .ref n 0 len) (hy : s.get y = .ref m 0 len2) (ho : olook n s.O = some (k, els)) (ho2 : olook m s.O = some (k, els2)) (hne : n ≠ m) (hl : len = els.length) (hl2 : len2 = els2.length) (h0 : els2 ≠ [])
    (hn1 : n < 1000000000000 ∧ n ∉ RV.namesL els) (hn2 : n ∉ RV.namesL els2) (hn3 : n ∉ onames (oerase n (oerase m s.O))) (ha : appOk P t k) (hlen : els.length + els2.length ≤ 1099511627776) :
    OpS P ⟨some d, .call ⟨.builtin .append, #[x, y], #[t, t]⟩, ty, pos, after, g⟩ s ⟨lset (RV.killL n s.fr) d (.ref n 0 (els ++ els2).length), oset n (els ++ els2) (oerase m s.O)⟩ := by
  subst hl; subst hl2
  have := ops_append_own (P := P) (d := d) (ty := ty) (pos := pos) (after := after) (g := g) hx hy ho ho2 hne h0 hn1 hn2 hn3 ha.1 ha.2.1 ha.2.2.1 ha.2.2.2 hlen
  rwa [← List.length_append] at this
theorem ap_sh {x y t n k els els2 len} (hx : s.get x = .ref n 0 len) (hy : s.get y = .sh els2) (ho : olook n s.O = some (k, els)) (hl : len = els.length) (hwd : els2.all (fun e => e.width == k) = true) (hn1 : n < 1000000000000 ∧ n ∉ RV.namesL els) (hn3 : n ∉ onames (oerase n s.O)) (ha : appOk P t k) (hlen : els.length + els2.length ≤ 1099511627776) :
    OpS P ⟨some d, .call ⟨.builtin .append, #[x, y], #[t, t]⟩, ty, pos, after, g⟩ s ⟨lset (RV.killL n s.fr) d (.ref n 0 (els ++ els2).length), oset n (els ++ els2) s.O⟩ := by
  subst hl
  have := ops_append_sh (P := P) (d := d) (ty := ty) (pos := pos) (after := after) (g := g) hx hy ho hwd hn1 hn3 ha.1 ha.2.1 ha.2.2.1 ha.2.2.2 hlen
  rwa [← List.length_append] at this
theorem ap_seal {x y t n m q els k3 els3 len len0 len1} (hx : s.get x = .ref n 0 len0) (hy : s.get y = .ref m 0 len1) (ho : olook n s.O = some (1, els)) (ho2 : olook m s.O = some (1, [.ref q 0 len])) (ho3 : olook q s.O = some (k3, els3)) (hl0 : len0 = els.length) (hl1 : len1 = 1) (hlen3 : len = els3.length) (hn3' : RV.namesL els3 = []) (hne : n ≠ m) (hnq : n ≠ q) (hmq : m ≠ q)
    (hn1 : n < 1000000000000 ∧ n ∉ RV.namesL els) (hn3 : n ∉ onames (oerase n (oerase m s.O))) (ha : appOk P t 1) (hlen : els.length + 1 ≤ 1099511627776) :
    OpS P ⟨some d, .call ⟨.builtin .append, #[x, y], #[t, t]⟩, ty, pos, after, g⟩ s ⟨RV.killL q (lset (RV.killL n s.fr) d (.ref n 0 (els ++ [RV.ow k3 els3]).length)), oerase q (oset n (els ++ [RV.ow k3 els3]) (oerase m s.O))⟩ := by
  subst hl0; subst hl1
  have := ops_append_seal (P := P) (d := d) (ty := ty) (pos := pos) (after := after) (g := g) hx hy ho ho2 ho3 hlen3 hn3' hne hnq hmq hn1 hn3 ha.1 ha.2.1 ha.2.2.1 ha.2.2.2 hlen
  have e : (els ++ [RV.ow k3 els3]).length = els.length + 1 := by simp
  rwa [← e] at this
theorem ap_nil {t0 y t m k els2 len2} (hx : lget s.fr t0 = .v (.slice none 0 0)) (hy : (⟨lset s.fr t0 (.ref d 0 0), s.O⟩ : St).get y = .ref m 0 len2) (ho2 : olook m s.O = some (k, els2)) (hne : d ≠ m) (hl2 : len2 = els2.length) (h0 : els2 ≠ []) (hk : 0 < k) (hlt : t0 < s.fr.length)
    (hd : d < 1000000000000 ∧ d ∉ RV.namesL s.fr) (hO : d ∉ onames s.O) (hO2 : d ∉ onames (oerase m s.O)) (hn2 : d ∉ RV.namesL els2) (ha : appOk P t k) (hlen : els2.length ≤ 1099511627776) :
    OpS P ⟨some d, .call ⟨.builtin .append, #[.tmp t0, y], #[t, t]⟩, ty, pos, after, g⟩ s ⟨lset (RV.killL d (lset s.fr t0 (.ref d 0 0))) d (.ref d 0 els2.length), (d, k, els2) :: oerase m s.O⟩ := by
  subst hl2
  exact ops_append_nil hx hy ho2 hne h0 hk hlt hd hO hO2 hn2 ha.1 ha.2.1 ha.2.2.1 ha.2.2.2 hlen
theorem ap_nilsh {t0 y t k els2} (hx : lget s.fr t0 = .v (.slice none 0 0)) (hy : (⟨lset s.fr t0 (.ref d 0 0), s.O⟩ : St).get y = .sh els2) (hk : 0 < k) (hlt : t0 < s.fr.length) (hwd : els2.all (fun e => e.width == k) = true)
    (hd : d < 1000000000000 ∧ d ∉ RV.namesL s.fr) (hO : d ∉ onames s.O) (ha : appOk P t k) (hlen : els2.length ≤ 1099511627776) :
    OpS P ⟨some d, .call ⟨.builtin .append, #[.tmp t0, y], #[t, t]⟩, ty, pos, after, g⟩ s ⟨lset (RV.killL d (lset s.fr t0 (.ref d 0 0))) d (.ref d 0 els2.length), (d, k, els2) :: s.O⟩ :=
  ops_append_nilsh hx hy hk hlt hwd hd hO ha.1 ha.2.1 ha.2.2.1 ha.2.2.2 hlen
end
theorem nl : (∀ (l : List (List Int)) i x, (l.map OIs).set i (RV.ow 1 (x.map RVi)) = (l.set i x).map OIs) ∧ (∀ (l : List (List Int)) i x, (l.map RIs).set i (RV.sh (x.map RVi)) = (l.set i x).map RIs) ∧ (∀ (l : List (List Bool)) i x, (l.map OBs).set i (RV.ow 1 (x.map RVb)) = (l.set i x).map OBs) ∧
    (∀ n, List.replicate n (RV.ow 1 []) = (List.replicate n ([] : List Int)).map OIs) ∧ (∀ {α β : Type} (f : α → β) (l : List α), (l.map f).length = l.length) ∧ (∀ {α : Type} (a : α) l, (a :: l).length = l.length + 1) ∧ (∀ {α : Type}, ([] : List α).length = 0) := by
  refine ⟨fun l i x => ?_, fun l i x => ?_, fun l i x => ?_, fun n => ?_, fun f l => List.length_map .., fun _ _ => rfl, rfl⟩ <;> simp [List.map_set, List.map_replicate]
theorem wd_all {α : Type} {f : α → RV} {l : List α} {k : Nat} (h : ∀ x, (f x).width = k) : (l.map f).all (fun e => e.width == k) = true := by simp [h]
end Eng
end Go.Proofs.YtmfbcipjknjicaaGreatDoor

/- The engine, part Fj: an operation told by its kind, so that a step tries only what fits. No condition. Printed by wip/bin/genk.py. -/
namespace Go.Proofs.YtmfbcipjknjicaaGreatDoor
set_option linter.unusedSectionVars false
variable [One Bool]
namespace Eng
section
variable {P : Program} {RO : Nat → Bool} {s s' : St} {r : RV} {d : Option Tmp} {ty : TypeId} {pos : String} {after : Array Edge} {g : Option (Nat × Bool)}

theorem k_pick {x y z} (h : OpS P ⟨d, .pick x y z, ty, pos, after, g⟩ s s') : OpS P ⟨d, .pick x y z, ty, pos, after, g⟩ s s' := h
theorem q_pick {x y z} (h : Fs P RO ⟨d, .pick x y z, ty, pos, after, g⟩ s r) : Fs P RO ⟨d, .pick x y z, ty, pos, after, g⟩ s r := h
theorem k_not {t x} (h : OpS P ⟨d, .unOp .not t x, ty, pos, after, g⟩ s s') : OpS P ⟨d, .unOp .not t x, ty, pos, after, g⟩ s s' := h
theorem q_not {t x} (h : Fs P RO ⟨d, .unOp .not t x, ty, pos, after, g⟩ s r) : Fs P RO ⟨d, .unOp .not t x, ty, pos, after, g⟩ s r := h
theorem k_neg {t x} (h : OpS P ⟨d, .unOp .neg t x, ty, pos, after, g⟩ s s') : OpS P ⟨d, .unOp .neg t x, ty, pos, after, g⟩ s s' := h
theorem q_neg {t x} (h : Fs P RO ⟨d, .unOp .neg t x, ty, pos, after, g⟩ s r) : Fs P RO ⟨d, .unOp .neg t x, ty, pos, after, g⟩ s r := h
theorem k_len {x c} (h : OpS P ⟨d, .call ⟨.builtin .len, #[x], #[c]⟩, ty, pos, after, g⟩ s s') : OpS P ⟨d, .call ⟨.builtin .len, #[x], #[c]⟩, ty, pos, after, g⟩ s s' := h
theorem q_len {x c} (h : Fs P RO ⟨d, .call ⟨.builtin .len, #[x], #[c]⟩, ty, pos, after, g⟩ s r) : Fs P RO ⟨d, .call ⟨.builtin .len, #[x], #[c]⟩, ty, pos, after, g⟩ s r := h
theorem k_append {a b} (h : OpS P ⟨d, .call ⟨.builtin .append, a, b⟩, ty, pos, after, g⟩ s s') : OpS P ⟨d, .call ⟨.builtin .append, a, b⟩, ty, pos, after, g⟩ s s' := h
theorem k_callf {f a b} (h : OpS P ⟨d, .call ⟨.value (.func f), a, b⟩, ty, pos, after, g⟩ s s') : OpS P ⟨d, .call ⟨.value (.func f), a, b⟩, ty, pos, after, g⟩ s s' := h
theorem q_callf {f a b} (h : Fs P RO ⟨d, .call ⟨.value (.func f), a, b⟩, ty, pos, after, g⟩ s r) : Fs P RO ⟨d, .call ⟨.value (.func f), a, b⟩, ty, pos, after, g⟩ s r := h
theorem k_callt {f a b} (h : OpS P ⟨d, .call ⟨.value (.tmp f), a, b⟩, ty, pos, after, g⟩ s s') : OpS P ⟨d, .call ⟨.value (.tmp f), a, b⟩, ty, pos, after, g⟩ s s' := h
theorem q_callt {f a b} (h : Fs P RO ⟨d, .call ⟨.value (.tmp f), a, b⟩, ty, pos, after, g⟩ s r) : Fs P RO ⟨d, .call ⟨.value (.tmp f), a, b⟩, ty, pos, after, g⟩ s r := h
theorem k_load {t x} (h : OpS P ⟨d, .load t x, ty, pos, after, g⟩ s s') : OpS P ⟨d, .load t x, ty, pos, after, g⟩ s s' := h
theorem q_load {t x} (h : Fs P RO ⟨d, .load t x, ty, pos, after, g⟩ s r) : Fs P RO ⟨d, .load t x, ty, pos, after, g⟩ s r := h
theorem k_store {t x y} (h : OpS P ⟨d, .store t x y, ty, pos, after, g⟩ s s') : OpS P ⟨d, .store t x y, ty, pos, after, g⟩ s s' := h
theorem k_fieldAddr {t x f} (h : OpS P ⟨d, .fieldAddr t x f, ty, pos, after, g⟩ s s') : OpS P ⟨d, .fieldAddr t x f, ty, pos, after, g⟩ s s' := h
theorem q_fieldAddr {t x f} (h : Fs P RO ⟨d, .fieldAddr t x f, ty, pos, after, g⟩ s r) : Fs P RO ⟨d, .fieldAddr t x f, ty, pos, after, g⟩ s r := h
theorem k_field {t x f} (h : OpS P ⟨d, .field t x f, ty, pos, after, g⟩ s s') : OpS P ⟨d, .field t x f, ty, pos, after, g⟩ s s' := h
theorem q_field {t x f} (h : Fs P RO ⟨d, .field t x f, ty, pos, after, g⟩ s r) : Fs P RO ⟨d, .field t x f, ty, pos, after, g⟩ s r := h
theorem k_indexAddr {t x y} (h : OpS P ⟨d, .indexAddr t x y, ty, pos, after, g⟩ s s') : OpS P ⟨d, .indexAddr t x y, ty, pos, after, g⟩ s s' := h
theorem q_indexAddr {t x y} (h : Fs P RO ⟨d, .indexAddr t x y, ty, pos, after, g⟩ s r) : Fs P RO ⟨d, .indexAddr t x y, ty, pos, after, g⟩ s r := h
theorem k_index {t x y} (h : OpS P ⟨d, .index t x y, ty, pos, after, g⟩ s s') : OpS P ⟨d, .index t x y, ty, pos, after, g⟩ s s' := h
theorem q_index {t x y} (h : Fs P RO ⟨d, .index t x y, ty, pos, after, g⟩ s r) : Fs P RO ⟨d, .index t x y, ty, pos, after, g⟩ s r := h
theorem k_box {t x} (h : OpS P ⟨d, .box t x, ty, pos, after, g⟩ s s') : OpS P ⟨d, .box t x, ty, pos, after, g⟩ s s' := h
theorem k_alloc {t} (h : OpS P ⟨d, .alloc t, ty, pos, after, g⟩ s s') : OpS P ⟨d, .alloc t, ty, pos, after, g⟩ s s' := h
theorem k_makeSlice {t x y} (h : OpS P ⟨d, .makeSlice t x y, ty, pos, after, g⟩ s s') : OpS P ⟨d, .makeSlice t x y, ty, pos, after, g⟩ s s' := h
theorem k_buildSlice {t n p} (h : OpS P ⟨d, .buildSlice t n p, ty, pos, after, g⟩ s s') : OpS P ⟨d, .buildSlice t n p, ty, pos, after, g⟩ s s' := h
theorem q_buildSlice {t n p} (h : Fs P RO ⟨d, .buildSlice t n p, ty, pos, after, g⟩ s r) : Fs P RO ⟨d, .buildSlice t n p, ty, pos, after, g⟩ s r := h
theorem k_slice {t x a b c} (h : OpS P ⟨d, .slice t x a b c, ty, pos, after, g⟩ s s') : OpS P ⟨d, .slice t x a b c, ty, pos, after, g⟩ s s' := h
theorem q_slice {t x a b c} (h : Fs P RO ⟨d, .slice t x a b c, ty, pos, after, g⟩ s r) : Fs P RO ⟨d, .slice t x a b c, ty, pos, after, g⟩ s r := h
theorem k_build {t p} (h : OpS P ⟨d, .build t p, ty, pos, after, g⟩ s s') : OpS P ⟨d, .build t p, ty, pos, after, g⟩ s s' := h
theorem q_build {t p} (h : Fs P RO ⟨d, .build t p, ty, pos, after, g⟩ s r) : Fs P RO ⟨d, .build t p, ty, pos, after, g⟩ s r := h
theorem k_extract {x i} (h : OpS P ⟨d, .extract x i, ty, pos, after, g⟩ s s') : OpS P ⟨d, .extract x i, ty, pos, after, g⟩ s s' := h
theorem q_extract {x i} (h : Fs P RO ⟨d, .extract x i, ty, pos, after, g⟩ s r) : Fs P RO ⟨d, .extract x i, ty, pos, after, g⟩ s r := h
theorem k_convert {t u x} (h : OpS P ⟨d, .convert t u x, ty, pos, after, g⟩ s s') : OpS P ⟨d, .convert t u x, ty, pos, after, g⟩ s s' := h
theorem q_convert {t u x} (h : Fs P RO ⟨d, .convert t u x, ty, pos, after, g⟩ s r) : Fs P RO ⟨d, .convert t u x, ty, pos, after, g⟩ s r := h
theorem k_max {a b} (h : OpS P ⟨d, .call ⟨.builtin .max, a, b⟩, ty, pos, after, g⟩ s s') : OpS P ⟨d, .call ⟨.builtin .max, a, b⟩, ty, pos, after, g⟩ s s' := h
theorem q_max {a b} (h : Fs P RO ⟨d, .call ⟨.builtin .max, a, b⟩, ty, pos, after, g⟩ s r) : Fs P RO ⟨d, .call ⟨.builtin .max, a, b⟩, ty, pos, after, g⟩ s r := h
theorem k_min {a b} (h : OpS P ⟨d, .call ⟨.builtin .min, a, b⟩, ty, pos, after, g⟩ s s') : OpS P ⟨d, .call ⟨.builtin .min, a, b⟩, ty, pos, after, g⟩ s s' := h
theorem q_min {a b} (h : Fs P RO ⟨d, .call ⟨.builtin .min, a, b⟩, ty, pos, after, g⟩ s r) : Fs P RO ⟨d, .call ⟨.builtin .min, a, b⟩, ty, pos, after, g⟩ s r := h
theorem k_lookup {t x i c} (h : OpS P ⟨d, .lookup t x i c, ty, pos, after, g⟩ s s') : OpS P ⟨d, .lookup t x i c, ty, pos, after, g⟩ s s' := h
theorem q_lookup {t x i c} (h : Fs P RO ⟨d, .lookup t x i c, ty, pos, after, g⟩ s r) : Fs P RO ⟨d, .lookup t x i c, ty, pos, after, g⟩ s r := h
theorem k_mapUpdate {t x i c} (h : OpS P ⟨d, .mapUpdate t x i c, ty, pos, after, g⟩ s s') : OpS P ⟨d, .mapUpdate t x i c, ty, pos, after, g⟩ s s' := h
theorem q_mapUpdate {t x i c} (h : Fs P RO ⟨d, .mapUpdate t x i c, ty, pos, after, g⟩ s r) : Fs P RO ⟨d, .mapUpdate t x i c, ty, pos, after, g⟩ s r := h
theorem k_nilCheck {x} (h : OpS P ⟨d, .nilCheck x, ty, pos, after, g⟩ s s') : OpS P ⟨d, .nilCheck x, ty, pos, after, g⟩ s s' := h
theorem q_nilCheck {x} (h : Fs P RO ⟨d, .nilCheck x, ty, pos, after, g⟩ s r) : Fs P RO ⟨d, .nilCheck x, ty, pos, after, g⟩ s r := h
theorem k_clear {a b} (h : OpS P ⟨d, .call ⟨.builtin .clear, a, b⟩, ty, pos, after, g⟩ s s') : OpS P ⟨d, .call ⟨.builtin .clear, a, b⟩, ty, pos, after, g⟩ s s' := h
theorem k_lss {t x y u} (h : OpS P ⟨d, .binOp .lss t x y u, ty, pos, after, g⟩ s s') : OpS P ⟨d, .binOp .lss t x y u, ty, pos, after, g⟩ s s' := h
theorem q_lss {t x y u} (h : Fs P RO ⟨d, .binOp .lss t x y u, ty, pos, after, g⟩ s r) : Fs P RO ⟨d, .binOp .lss t x y u, ty, pos, after, g⟩ s r := h
theorem k_leq {t x y u} (h : OpS P ⟨d, .binOp .leq t x y u, ty, pos, after, g⟩ s s') : OpS P ⟨d, .binOp .leq t x y u, ty, pos, after, g⟩ s s' := h
theorem q_leq {t x y u} (h : Fs P RO ⟨d, .binOp .leq t x y u, ty, pos, after, g⟩ s r) : Fs P RO ⟨d, .binOp .leq t x y u, ty, pos, after, g⟩ s r := h
theorem k_gtr {t x y u} (h : OpS P ⟨d, .binOp .gtr t x y u, ty, pos, after, g⟩ s s') : OpS P ⟨d, .binOp .gtr t x y u, ty, pos, after, g⟩ s s' := h
theorem q_gtr {t x y u} (h : Fs P RO ⟨d, .binOp .gtr t x y u, ty, pos, after, g⟩ s r) : Fs P RO ⟨d, .binOp .gtr t x y u, ty, pos, after, g⟩ s r := h
theorem k_geq {t x y u} (h : OpS P ⟨d, .binOp .geq t x y u, ty, pos, after, g⟩ s s') : OpS P ⟨d, .binOp .geq t x y u, ty, pos, after, g⟩ s s' := h
theorem q_geq {t x y u} (h : Fs P RO ⟨d, .binOp .geq t x y u, ty, pos, after, g⟩ s r) : Fs P RO ⟨d, .binOp .geq t x y u, ty, pos, after, g⟩ s r := h
theorem k_eql {t x y u} (h : OpS P ⟨d, .binOp .eql t x y u, ty, pos, after, g⟩ s s') : OpS P ⟨d, .binOp .eql t x y u, ty, pos, after, g⟩ s s' := h
theorem q_eql {t x y u} (h : Fs P RO ⟨d, .binOp .eql t x y u, ty, pos, after, g⟩ s r) : Fs P RO ⟨d, .binOp .eql t x y u, ty, pos, after, g⟩ s r := h
theorem k_neq {t x y u} (h : OpS P ⟨d, .binOp .neq t x y u, ty, pos, after, g⟩ s s') : OpS P ⟨d, .binOp .neq t x y u, ty, pos, after, g⟩ s s' := h
theorem q_neq {t x y u} (h : Fs P RO ⟨d, .binOp .neq t x y u, ty, pos, after, g⟩ s r) : Fs P RO ⟨d, .binOp .neq t x y u, ty, pos, after, g⟩ s r := h
theorem k_add {t x y u} (h : OpS P ⟨d, .binOp .add t x y u, ty, pos, after, g⟩ s s') : OpS P ⟨d, .binOp .add t x y u, ty, pos, after, g⟩ s s' := h
theorem q_add {t x y u} (h : Fs P RO ⟨d, .binOp .add t x y u, ty, pos, after, g⟩ s r) : Fs P RO ⟨d, .binOp .add t x y u, ty, pos, after, g⟩ s r := h
theorem k_sub {t x y u} (h : OpS P ⟨d, .binOp .sub t x y u, ty, pos, after, g⟩ s s') : OpS P ⟨d, .binOp .sub t x y u, ty, pos, after, g⟩ s s' := h
theorem q_sub {t x y u} (h : Fs P RO ⟨d, .binOp .sub t x y u, ty, pos, after, g⟩ s r) : Fs P RO ⟨d, .binOp .sub t x y u, ty, pos, after, g⟩ s r := h
theorem k_mul {t x y u} (h : OpS P ⟨d, .binOp .mul t x y u, ty, pos, after, g⟩ s s') : OpS P ⟨d, .binOp .mul t x y u, ty, pos, after, g⟩ s s' := h
theorem q_mul {t x y u} (h : Fs P RO ⟨d, .binOp .mul t x y u, ty, pos, after, g⟩ s r) : Fs P RO ⟨d, .binOp .mul t x y u, ty, pos, after, g⟩ s r := h
theorem k_quo {t x y u} (h : OpS P ⟨d, .binOp .quo t x y u, ty, pos, after, g⟩ s s') : OpS P ⟨d, .binOp .quo t x y u, ty, pos, after, g⟩ s s' := h
theorem q_quo {t x y u} (h : Fs P RO ⟨d, .binOp .quo t x y u, ty, pos, after, g⟩ s r) : Fs P RO ⟨d, .binOp .quo t x y u, ty, pos, after, g⟩ s r := h
theorem k_rem {t x y u} (h : OpS P ⟨d, .binOp .rem t x y u, ty, pos, after, g⟩ s s') : OpS P ⟨d, .binOp .rem t x y u, ty, pos, after, g⟩ s s' := h
theorem q_rem {t x y u} (h : Fs P RO ⟨d, .binOp .rem t x y u, ty, pos, after, g⟩ s r) : Fs P RO ⟨d, .binOp .rem t x y u, ty, pos, after, g⟩ s r := h
theorem k_shr {t x y u} (h : OpS P ⟨d, .binOp .shr t x y u, ty, pos, after, g⟩ s s') : OpS P ⟨d, .binOp .shr t x y u, ty, pos, after, g⟩ s s' := h
theorem q_shr {t x y u} (h : Fs P RO ⟨d, .binOp .shr t x y u, ty, pos, after, g⟩ s r) : Fs P RO ⟨d, .binOp .shr t x y u, ty, pos, after, g⟩ s r := h
theorem k_and {t x y u} (h : OpS P ⟨d, .binOp .and t x y u, ty, pos, after, g⟩ s s') : OpS P ⟨d, .binOp .and t x y u, ty, pos, after, g⟩ s s' := h
theorem q_and {t x y u} (h : Fs P RO ⟨d, .binOp .and t x y u, ty, pos, after, g⟩ s r) : Fs P RO ⟨d, .binOp .and t x y u, ty, pos, after, g⟩ s r := h
theorem k_or {t x y u} (h : OpS P ⟨d, .binOp .or t x y u, ty, pos, after, g⟩ s s') : OpS P ⟨d, .binOp .or t x y u, ty, pos, after, g⟩ s s' := h
theorem q_or {t x y u} (h : Fs P RO ⟨d, .binOp .or t x y u, ty, pos, after, g⟩ s r) : Fs P RO ⟨d, .binOp .or t x y u, ty, pos, after, g⟩ s r := h
theorem k_xor {t x y u} (h : OpS P ⟨d, .binOp .xor t x y u, ty, pos, after, g⟩ s s') : OpS P ⟨d, .binOp .xor t x y u, ty, pos, after, g⟩ s s' := h
theorem q_xor {t x y u} (h : Fs P RO ⟨d, .binOp .xor t x y u, ty, pos, after, g⟩ s r) : Fs P RO ⟨d, .binOp .xor t x y u, ty, pos, after, g⟩ s r := h
theorem l_o {ops : Array Oper} {o : Oper} {rest : List Oper} {R : St → Prop} (h : L P ops (o :: rest) R s) : L P ops (o :: rest) R s := h
theorem d_o {ops : Array Oper} {o : Oper} {eff : Nat → Bool} {ALL : List Nat} {news : List (List Nat)} {k : Nat} {rest : List Oper} {R : St → Prop} (h : D P ops RO eff ALL news k (o :: rest) R s) : D P ops RO eff ALL news k (o :: rest) R s := h
theorem w_o {i : Nat} {l : Array Oper} {R : Exit → St → Prop} (h : W P (.region i l true) R s) : W P (.region i l true) R s := h
end
end Eng
end Go.Proofs.YtmfbcipjknjicaaGreatDoor

/- The engine, part Fk: ends under weaker states; a slice held against nil; struct values; stores in drawn regions. No condition. -/
namespace Go.Proofs.YtmfbcipjknjicaaGreatDoor
set_option linter.unusedSectionVars false
variable [One Bool]
namespace Eng
open Go.RowKit

theorem en_le {P fn Post e s} (s' : St) (hl : LE s s') (h : EN P fn Post e s') : EN P fn Post e s := by
  refine ⟨?_⟩
  have h1 := h.out
  cases e with
  | normal => intro E a w hr; exact h1 E a w (hl.out E a w hr)
  | ret => intro E a w hr; exact h1 E a w (hl.out E a w hr)
  | _ => exact h1

theorem SV.slice_of {w F ρ els y fp} (h : SV w F ρ (.sh els) y fp) : ∃ a cap, y = .slice a els.length cap ∧ (a = none → els = []) := by
  rcases h.sh_inv with ⟨_, ⟨rfl, a, cap, rfl⟩ | ⟨a, cap, k, cells, rfl, _⟩⟩
  · exact ⟨a, cap, rfl, fun _ => rfl⟩
  · exact ⟨some a, cap, rfl, fun h => by cases h⟩
theorem run_eq_nil {P : Program} {w : World} {t e : TypeId} {a : Option Addr} {n cap : Nat} (ht : P.underlying t = some (.slice e)) : (Op.equal t (.slice a n cap) (.slice none 0 0)).run P w = .ok a.isNone w := by
  unfold Op.equal
  rw [show Op.maxDepth = 9999 + 1 from rfl, Op.equalIn]
  cases a <;> simp [run_underlying ht]
theorem l_eqnil {P ops d x c ty pos after u rest R fr O els} {fr' : Bool → List RV} (hx : (⟨fr, O⟩ : St).get x = .sh els) (ht : P.underlying c = some (.slice (P.elem c))) (e' : ∀ b : Bool, lset fr d (.v (.bool b)) = fr' b) (hk : ∀ b : Bool, (b = true → els = []) → L P ops rest R ⟨fr' b, O⟩) :
    L P ops (⟨some d, .binOp .eql c x (.const (.slice none 0 0)) u, ty, pos, after, none⟩ :: rest) R ⟨fr, O⟩ := by
  refine ⟨?_⟩
  intro E a w hr Q hQ
  obtain ⟨F, ρ, fp, h⟩ := id hr
  have h1 := h.get x
  rw [hx] at h1
  obtain ⟨b, cap, e, hb⟩ := h1.slice_of
  have hrel : Rel E ⟨lset fr d (.v (.bool b.isNone)), O⟩ (a.put (some d) (.bool b.isNone)) w := ⟨F, ρ, fp, h.put (some d) (.one (.v _))⟩
  refine wpList_step fun K hK => ?_
  have hrun : (execOp a.eval ⟨some d, .binOp .eql c x (.const (.slice none 0 0)) u, ty, pos, after, none⟩).run P w = .ok (.value (.bool b.isNone)) w := by
    have ec : a.eval (.const (.slice none 0 0)) = .slice none 0 0 := rfl
    simp [execOp, e, ec, binOp, eqGuard, run_eq_nil ht]
  have hw : Region.wanted ⟨some d, .binOp .eql c x (.const (.slice none 0 0)) u, ty, pos, after, none⟩ (yielded ops a.tmps) = true := by simp [Region.wanted]
  rw [if_pos hw]
  simp only [Oper.wp, hrun, Oper.upon_value]
  rw [e'] at hrel
  exact hK _ _ ((hk b.isNone (fun hh => hb (by simpa using hh))).out E _ w hrel Q hQ)

/-! Struct values. -/
def placesOf (P : Program) (t : TypeId) : Option (List (Nat × Nat)) := match P.underlying t with
  | some (.struct fields) => fields.toList.mapM (fun f => (P.info? f.type).map fun i => (f.offset, i.size))
  | _ => none
def setParts : List RV → List (Nat × RV) → List RV
  | l, [] => l
  | l, (i, r) :: ps => setParts (l.set i r) ps
theorem fill_parts {w : World} {F : Nat → Prop} {ρ : Places} {n : Nat} : ∀ (ps : List (Nat × RV × Value)) (l : List RV) (cs : Array Value), cs.size = n → OE w F ρ 1 l cs.toList [] → (∀ p ∈ ps, p.1 < n ∧ p.2.1.stores = true ∧ SV w F ρ p.2.1 p.2.2 []) →
    ∃ cs', Instr.fill (((List.range n).map fun i => (i, 1)).toArray[·]?) cs (ps.map fun p => (p.1, p.2.2)) = some cs' ∧ OE w F ρ 1 (setParts l (ps.map fun p => (p.1, p.2.1))) cs'.toList []
  | [], l, cs, _, h, _ => ⟨cs, rfl, h⟩
  | (i, r, y) :: ps, l, cs, hn, h, hp => by
    obtain ⟨hi, hst, hsv⟩ := hp (i, r, y) (by simp)
    obtain ⟨h1, h2⟩ := hsv.to_cell hst
    have hc : y.cells = #[y] := by cases y <;> simp [Value.oneCell', Value.cells] at h2 ⊢
    have hll : l.length = n := by have := h.length; simp at this; omega
    have hset : OE w F ρ 1 (l.set i r) (cs.setIfInBounds i y).toList [] := by
      have h3 : OE w F ρ l.length [.agg l] cs.toList [] := by
        have := OE.agg (k := l.length) (es := []) (cs := []) (fp2 := []) h (by simp; omega) (.nil _ _)
        simpa using this
      obtain ⟨fe', h4, h5⟩ := h3.setCell (j := i) (by simp [RV.cellsL]; omega) h1
      have hfe : fe' = [] := by simpa using h5
      subst hfe
      have h6 := h4.cellsL
      simpa [RV.setCell, RV.cellsL] using h6
    obtain ⟨cs', h7, h8⟩ := fill_parts ps (l.set i r) (cs.setIfInBounds i y) (by simpa using hn) hset (fun p hp' => hp p (by simp [hp']))
    refine ⟨cs', ?_, h8⟩
    have hpl : ((List.range n).map fun i => (i, 1)).toArray[i]? = some (i, 1) := by simp [hi]
    simp only [List.map_cons, Instr.fill, hpl, hc]
    rw [if_neg (by simp; omega)]
    simpa using h7
section
variable {P : Program} {s : St} {d : Option Tmp} {ty : TypeId} {pos : String} {after : Array Edge} {g : Option (Nat × Bool)}
theorem ops_build {t} {parts : Array (Nat × Operand)} {zs : List Value} {ps : List (Nat × RV)} (hz : zeroOf P t = some (.agg zs.toArray)) (hpl : placesOf P t = some ((List.range zs.length).map fun i => (i, 1))) (h1 : zs.all Value.oneCell' = true)
    (hps : parts.toList.map (fun p => (p.1, s.get p.2)) = ps) (hst : ps.all (fun p => decide (p.1 < zs.length) && p.2.stores) = true) :
    OpS P ⟨d, .build t parts, ty, pos, after, g⟩ s ⟨sput d (.agg (setParts (zs.map .v) ps)) s.fr, s.O⟩ :=
  ops_val fun _ a w F ρ _ hr => by
    have hvs : ∀ zs : List Value, zs.all Value.oneCell' = true → FE w F 1 (zs.map .v) zs := by
      intro zs
      induction zs with
      | nil => intro _; exact .nil _
      | cons z zs ih => intro h; simp only [List.all_cons, Bool.and_eq_true] at h; exact .v z h.1 (ih h.2)
    obtain ⟨cs', h2, h3⟩ := fill_parts (w := w) (F := F) (ρ := ρ) (n := zs.length) (parts.toList.map fun p => (p.1, s.get p.2, a.eval p.2)) (zs.map .v) zs.toArray (by simp) (by simpa using OE.of_FE (hvs zs h1)) (by
      intro p hp
      obtain ⟨q, hq, rfl⟩ := List.mem_map.1 hp
      have h4 := List.all_eq_true.1 hst (q.1, s.get q.2) (by rw [← hps]; exact List.mem_map.2 ⟨q, hq, rfl⟩)
      simp only [Bool.and_eq_true, decide_eq_true_eq] at h4
      exact ⟨h4.1, h4.2, hr.get q.2⟩)
    have e1 : ((parts.toList.map fun p => (p.1, s.get p.2, a.eval p.2)).map fun p => (p.1, p.2.1)) = ps := by rw [← hps, List.map_map]; rfl
    have e2 : ((parts.toList.map fun p => (p.1, s.get p.2, a.eval p.2)).map fun p => (p.1, p.2.2)) = (parts.map fun (i, x) => (i, a.eval x)).toList := by rw [List.map_map, Array.toList_map]; rfl
    rw [e1] at h3
    rw [e2] at h2
    refine ⟨.agg cs', ?_, .one (.agg h3)⟩
    have hb : P.built t (parts.map fun (i, x) => (i, a.eval x)).toList = some cs' := by
      unfold placesOf at hpl
      split at hpl
      · rename_i fields hu
        cases hi : P.info? t with
        | none => simp [zeroOf, hi] at hz
        | some it =>
          have hz' : it.zero = some (.agg zs.toArray) := by simpa [zeroOf, hi] using hz
          simp only [Program.built, hi, hu, hz', hpl, Value.cells]
          exact h2
      · cases hpl
    simp only [execOp]
    rw [Sem.run_bind, run_build w t _ cs' hb]
    simp
end
theorem nb : (∀ l, setParts l [] = l) ∧ (∀ l i r ps, setParts l ((i, r) :: ps) = setParts (l.set i r) ps) := ⟨fun _ => rfl, fun _ _ _ _ => rfl⟩
section
variable {P : Program} {RO : Nat → Bool} {s : St} {d : Option Tmp} {ty : TypeId} {pos : String} {after : Array Edge} {g : Option (Nat × Bool)}
theorem fs_build {t} {parts : Array (Nat × Operand)} {zs : List Value} {ps : List (Nat × RV)} (hz : zeroOf P t = some (.agg zs.toArray)) (hpl : placesOf P t = some ((List.range zs.length).map fun i => (i, 1))) (h1 : zs.all Value.oneCell' = true)
    (hps : parts.toList.map (fun p => (p.1, s.get p.2)) = ps) (hst : ps.all (fun p => decide (p.1 < zs.length) && p.2.stores) = true) :
    Fs P RO ⟨d, .build t parts, ty, pos, after, g⟩ s (.agg (setParts (zs.map .v) ps)) := fun s2 hs _ =>
  ops_build hz hpl h1 (by
    rw [← hps]
    refine List.map_congr_left fun p hp => ?_
    rw [hs p.2 (by simp only [Op.operands]; exact List.mem_map.2 ⟨p, hp, rfl⟩)]) hst
end

theorem Ef.pure {P : Program} {ops : Array Oper} {d op ty pos after s r} (h : Fs P (fun _ => true) ⟨d, op, ty, pos, after, none⟩ s r) : Ef P ops [] ⟨d, op, ty, pos, after, none⟩ s r s.O :=
  Ef.plain fun s2 hs hO _ => by
    have := h s2 hs (fun n _ => by rw [hO])
    rwa [hO] at this
/-! Stores, new blocks in drawn regions. -/
section
variable {P : Program} {ops : Array Oper} {ty : TypeId} {pos : String} {after : Array Edge} {s : St} {r : RV}
theorem Ef.store {x v t n i j k els e q} (hx : s.get x = .ptr n i j) (hv : s.get v = q) (ho : olook n s.O = some (k, els)) (he : els[i]? = some e) (hj : j < e.cellsL.length) (hst : q.stores = true) (ht : P.cellsOf t = 1) :
    Ef P ops [] ⟨none, .store t x v, ty, pos, after, none⟩ s .any (oset n (els.set i (e.setCell j q)) s.O) := by
  refine Ef.plain fun s2 hs hO _ => ?_
  rw [← hO]
  exact ops_store ((hs x (by simp [Op.operands])).trans hx) ((hs v (by simp [Op.operands])).trans hv) (by rw [hO]; exact ho) he hj hst ht
theorem Ef.storea {x v t n i k els e l} (hx : s.get x = .ptr n i 0) (hv : s.get v = .agg l) (ho : olook n s.O = some (k, els)) (he : els[i]? = some e) (hl : l.length = k) (hst : l.all RV.stores = true) (ht : P.cellsOf t = l.length) :
    Ef P ops [] ⟨none, .store t x v, ty, pos, after, none⟩ s .any (oset n (els.set i (.agg l)) s.O) := by
  refine Ef.plain fun s2 hs hO _ => ?_
  rw [← hO]
  exact ops_storea ((hs x (by simp [Op.operands])).trans hx) ((hs v (by simp [Op.operands])).trans hv) (by rw [hO]; exact ho) he hl hst ht
end
end Eng
end Go.Proofs.YtmfbcipjknjicaaGreatDoor

/- The engine, part Fl: nil slices in results are empty slices of one's own, or frozen ones. No condition. -/
namespace Go.Proofs.YtmfbcipjknjicaaGreatDoor
set_option linter.unusedSectionVars false
variable [One Bool]
namespace Eng
open Go.RowKit

inductive Nw : List RV → List RV → Prop
  | nil : Nw [] []
  | keep {r es es'} (h : Nw es es') : Nw (r :: es) (r :: es')
  | now {k es es'} (hk : 0 < k) (h : Nw es es') : Nw (.v (.slice none 0 0) :: es) (.ow k [] :: es')
  | sh {es es'} (h : Nw es es') : Nw (.v (.slice none 0 0) :: es) (.sh [] :: es')
  | agg {l l' es es'} (h1 : Nw l l') (h : Nw es es') : Nw (.agg l :: es) (.agg l' :: es')

theorem OE.agg_inv {w F ρ k l cs fp} (h : OE w F ρ k [.agg l] cs fp) : OE w F ρ 1 l cs fp := by simpa [RV.cellsL] using h.cellsL
theorem Nw.len {es es'} (h : Nw es es') : es'.length = es.length := by
  induction h with
  | nil => rfl
  | keep _ ih => simp [ih]
  | now _ _ ih => simp [ih]
  | sh _ ih => simp [ih]
  | agg _ _ _ ih => simp [ih]
theorem OE.nil_one {w F ρ y fp} (h : OE w F ρ 1 [.v (.slice none 0 0)] [y] fp) : y = .slice none 0 0 ∧ fp = [] := by
  rcases h.single rfl with ⟨h3, rfl⟩ | ⟨_, _, _, _, _, _, _, e, _⟩ | ⟨_, _, _, e, _⟩ | ⟨_, _, _, e, _⟩ | ⟨_, e, _⟩
  · cases h3; exact ⟨rfl, rfl⟩
  all_goals cases e
theorem OE.nw {es es' : List RV} (hn : Nw es es') : ∀ {w F ρ k cs fp}, OE w F ρ k es cs fp → OE w F ρ k es' cs fp := by
  induction hn with
  | nil => exact fun h => h
  | keep _ ih =>
    intro w F ρ k cs fp h
    obtain ⟨c1, c2, f1, f2, rfl, rfl, _, h1, h2⟩ := h.cons_inv
    exact OE.cons h1 (ih h2)
  | now hk _ ih =>
    intro w F ρ k cs fp h
    obtain ⟨c1, c2, f1, f2, rfl, rfl, hc, h1, h2⟩ := h.cons_inv
    have hw := h1.width
    simp only [RV.width] at hw
    subst hw
    match c1, hc with
    | [y], _ =>
      obtain ⟨rfl, rfl⟩ := h1.nil_one
      exact OE.cons (.ownil _ hk (.nil _ _)) (ih h2)
  | sh _ ih =>
    intro w F ρ k cs fp h
    obtain ⟨c1, c2, f1, f2, rfl, rfl, hc, h1, h2⟩ := h.cons_inv
    have hw := h1.width
    simp only [RV.width] at hw
    subst hw
    match c1, hc with
    | [y], _ =>
      obtain ⟨rfl, rfl⟩ := h1.nil_one
      exact OE.cons (OE.fz (c := [_]) (.shnil none 0 (.nil _)) (.nil _ _)) (ih h2)
  | agg hl _ ih1 ih2 =>
    intro w F ρ k cs fp h
    obtain ⟨c1, c2, f1, f2, rfl, rfl, hc, h1, h2⟩ := h.cons_inv
    have hw := h1.width
    simp only [RV.width] at hw
    have h3 := ih1 h1.agg_inv
    have h4 : OE w F ρ k [.agg _] c1 f1 := OE.of_cellsL (e := .agg _) h3 (by simp only [RV.width]; rw [hl.len]; exact hw)
    exact OE.cons h4 (ih2 h2)
theorem S1.nw {r r' : RV} (hn : Nw [r] [r']) {w F ρ y fp} (h : S1 w F ρ r y fp) : S1 w F ρ r' y fp := by
  cases hn with
  | keep _ => exact h
  | now hk _ =>
    cases h with
    | v => exact .cell rfl (.ownil _ hk (.nil _ _))
    | cell _ h => obtain ⟨rfl, rfl⟩ := h.nil_one; exact .cell rfl (.ownil _ hk (.nil _ _))
  | sh _ =>
    have mk : S1 w F ρ (.sh []) (.slice none 0 0) [] := .cell rfl (OE.fz (c := [_]) (.shnil none 0 (.nil _)) (.nil _ _))
    cases h with
    | v => exact mk
    | cell _ h => obtain ⟨rfl, rfl⟩ := h.nil_one; exact mk
  | agg hl _ =>
    cases h with
    | cell ha _ => cases ha
    | agg h => exact .agg (h.nw hl)
theorem Nw.split {r : RV} {es es' : List RV} (h : Nw (r :: es) es') : ∃ r' t, es' = r' :: t ∧ Nw [r] [r'] ∧ Nw es t := by
  cases h with
  | keep h => exact ⟨_, _, rfl, .keep .nil, h⟩
  | now hk h => exact ⟨_, _, rfl, .now hk .nil, h⟩
  | sh h => exact ⟨_, _, rfl, .sh .nil, h⟩
  | agg h1 h => exact ⟨_, _, rfl, .agg h1 .nil, h⟩
theorem SL.nw {w F ρ} : ∀ {es es' : List RV} {ys fp}, Nw es es' → SL w F ρ es ys fp → SL w F ρ es' ys fp
  | [], _, _, _, hn, h => by cases hn; exact h
  | _ :: _, _, _, _, hn, h => by
    obtain ⟨r', t, rfl, h1, h2⟩ := hn.split
    cases h with
    | cons h3 h4 => exact .cons (h3.nw h1) (SL.nw h2 h4)
theorem SV.nwp {w F ρ cs cs' v fp} (hn : Nw cs cs') (h : SV w F ρ (packR cs) v fp) : SV w F ρ (packR cs') v fp := by
  have hl := hn.len
  match cs, cs', hl, hn with
  | [], [], _, _ => exact h
  | [c], [c'], _, hn =>
    simp only [packR] at h ⊢
    cases h with
    | one h => exact .one (h.nw hn)
    | tup h =>
      cases hn with
      | keep _ => exact .tup h
  | a :: b :: l, a' :: b' :: l', _, hn =>
    simp only [packR] at h ⊢
    obtain ⟨c, rfl, hsl⟩ := h.tup_inv
    exact .tup (hsl.nw hn)
theorem en_endn {P fn s rs cs r e} (out : List RV) (he : e = Exit.ret ∨ e = Exit.normal := by first | exact .inl rfl | exact .inr rfl) (hf : fn.results = rs.toArray) (h4 : rs.length ≤ 4 := by decide) (h : rawL s rs = some cs := by rfl) (hc : cellsOk P s rs = true := by kernel_rfl) (hag : noAgg2 cs = true := by rfl) (hs : sealGOk s.O cs := by simp [ne, nm, lget, -List.map_take, -List.map_drop, -List.map_set] <;> omega) (hn : Nw (sealG s.O cs).1 out := by simp only [ne, nf, nl, nr, lget, reduceIte, Nat.reduceEqDiff]; repeat' first | exact .nil | refine .now (by decide) ?_ | refine .sh ?_ | refine .agg ?_ ?_ | refine .keep ?_) (hr : packR out = r) : EN P fn (fun rv O => rv = r ∧ O = []) e s := by
  subst hr
  refine ⟨?_⟩
  have h1 := (en_end (P := P) (fn := fn) (s := s) (rs := rs) (cs := cs) he hf h4 h hc hag hs rfl).out
  rcases he with rfl | rfl
  all_goals
    intro E a w hr
    obtain ⟨v, rv, Oout, F, ρ, fp1, fp2, g1, ⟨rfl, g2⟩, g3, g4⟩ := h1 E a w hr
    exact ⟨v, packR out, Oout, F, ρ, fp1, fp2, g1, ⟨rfl, g2⟩, g3.nwp hn, g4⟩
end Eng
end Go.Proofs.YtmfbcipjknjicaaGreatDoor

/- The engine, part Fm: what is owned as a callee sees it, written out. No condition. -/
namespace Go.Proofs.YtmfbcipjknjicaaGreatDoor
set_option linter.unusedSectionVars false
variable [One Bool]
namespace Eng
open Go.RowKit
theorem vw : (∀ l : List Operand, l.toArray.toList = l) ∧ (∀ (f : Operand → RV), [].map f = []) ∧ (∀ (f : Operand → RV) x l, (x :: l).map f = f x :: l.map f) ∧
    (∀ O l, view1 O (.agg l) = .agg (l.map (viewC O))) ∧ (∀ O x, view1 O (.v x) = .v x) ∧ (∀ O l, view1 O (.sh l) = .sh l) ∧ (∀ O, view1 O .any = .any) ∧ (∀ O e, view1 O (.psh e) = .psh e) ∧ (∀ O a b c, view1 O (.ref a b c) = viewC O (.ref a b c)) ∧ (∀ O a b c, view1 O (.ptr a b c) = viewC O (.ptr a b c)) ∧ (∀ O f l, view1 O (.fn f l) = .any) ∧
    (∀ O x, viewC O (.v x) = .v x) ∧ (∀ O l, viewC O (.sh l) = .sh l) ∧ (∀ O, viewC O .any = .any) ∧ (∀ O e, viewC O (.psh e) = .psh e) ∧
    (∀ n m k els O a b, m ≠ n → viewC ((m, k, els) :: O) (.ref n a b) = viewC O (.ref n a b)) ∧ (∀ n m k els O a b, m ≠ n → viewC ((m, k, els) :: O) (.ptr n a b) = viewC O (.ptr n a b)) ∧
    (∀ n k (els : List RV) O, viewC ((n, k, els) :: O) (.ref n 0 els.length) = .sh (RV.fzL els)) ∧ (∀ {α : Type} n k (f : α → RV) (l : List α) O, viewC ((n, k, l.map f) :: O) (.ref n 0 l.length) = .sh (RV.fzL (l.map f))) ∧ (∀ n k O, viewC ((n, k, []) :: O) (.ref n 0 0) = .sh []) ∧ (∀ n k e O, viewC ((n, k, [e]) :: O) (.ref n 0 1) = .sh [e.fz]) ∧
    (∀ n k e O, viewC ((n, k, [e]) :: O) (.ptr n 0 0) = .psh e.fz) ∧ (∀ (f : RV → RV), [].map f = []) ∧ (∀ (f : RV → RV) x l, (x :: l).map f = f x :: l.map f) := by
  refine ⟨fun l => rfl, fun f => rfl, fun f x l => rfl, fun O l => rfl, fun O x => rfl, fun O l => rfl, fun O => rfl, fun O e => rfl, fun _ _ _ _ => rfl, fun _ _ _ _ => rfl, fun _ _ _ => rfl, fun _ _ => rfl, fun _ _ => rfl, fun _ => rfl, fun _ _ => rfl, fun n m k els O a b h => viewC_skip n m k els O a b h, fun n m k els O a b h => by simp [viewC, olook, h], viewC_full, viewC_fullm, ?_, ?_, ?_, fun _ => rfl, fun _ _ _ => rfl⟩
  · intro n k O; simp [viewC, olook, RV.fzL]
  · intro n k e O; simp [viewC, olook, RV.fzL]
  · intro n k e O; simp [viewC, olook]
end Eng
end Go.Proofs.YtmfbcipjknjicaaGreatDoor

/- The engine, part Fn: parameters of laws, read; laws of one to four parameters. No condition. -/
namespace Go.Proofs.YtmfbcipjknjicaaGreatDoor
set_option linter.unusedSectionVars false
variable [One Bool]
namespace Eng
open Go.ChangeShapes Go.WideShapes Go.ChangeAt Go.RowKit

theorem tac {H : Type} {enc : TypeId × Value → H} {P : Program} {w : World} {base : Nat} {spare : Nat → Bool} {held : Bool} {t : TypeId} {ts : List TypeId} {vs : List Value} {ds : List (DataW H)} {ps : List MemPlace} (h : DataW.TrodAll enc P w base spare held (t :: ts) vs ds ps) :
    ∃ v vs' d ds' p q, vs = v :: vs' ∧ ds = d :: ds' ∧ DataW.Trod enc P w base spare held t v d p ∧ DataW.TrodAll enc P w base spare held ts vs' ds' q := by
  match vs, ds, h with
  | v :: vs', d :: ds', ⟨p, q, h1, h2, _⟩ => exact ⟨v, vs', d, ds', p, q, rfl, rfl, h1, h2⟩
theorem tan {H : Type} {enc : TypeId × Value → H} {P : Program} {w : World} {base : Nat} {spare : Nat → Bool} {held : Bool} {vs : List Value} {ds : List (DataW H)} {ps : List MemPlace} (h : DataW.TrodAll enc P w base spare held [] vs ds ps) : vs = [] := by
  match vs, ds, h with
  | [], [], _ => rfl

def PRd (P : Program) (t : TypeId) {α : Type} (f : α → RV) (Q : α → Prop) : Prop :=
  ∀ {H : Type} (enc : TypeId × Value → H) (W : World) (base : Nat) (v : Value) (d : DataW H) (q : List MemPlace), Value.okWide P W .any base t v → DataW.Trod enc P W 0 (fun _ => true) true t v d q → ∃ x, S1 W (old W) (fun _ => (none, 0, 0)) (f x) v [] ∧ Q x
theorem prd_slice {P : Program} {t e : TypeId} {α : Type} {k : Nat} {f : α → RV} {Q : α → Prop} (ht : P.underlying t = some (.slice e)) (hk : P.cellsOf e = k) (h0 : 0 < k) (he : Reads P e k f Q) : PRd P t (fun l : List α => .sh (l.map f)) (fun l => l.length ≤ maxLen ∧ ∀ x ∈ l, Q x) := by
  intro H enc W base v d q hv ⟨fuel, h⟩
  obtain ⟨y, hy, hQ⟩ := reads_slice ht hk h0 he enc W _ _ _ _ h
  obtain ⟨a, n, c, rfl⟩ := okWide_slice ht hv
  exact ⟨y, s1_cell rfl rfl hy, hQ⟩
section
variable {P : Program} {f : FuncId} {ps : Array TypeId} {H : Type} {enc : TypeId × Value → H} {W : World} {base : Nat} {args : Array Value} {ds : List (DataW H)} {p : List MemPlace}
  {t0 t1 t2 t3 : TypeId} {α0 α1 α2 α3 : Type} {f0 : α0 → RV} {f1 : α1 → RV} {f2 : α2 → RV} {f3 : α3 → RV} {Q0 : α0 → Prop} {Q1 : α1 → Prop} {Q2 : α2 → Prop} {Q3 : α3 → Prop}
  (hv : ∀ (j : Nat) t v, ps[j]? = some t → args[j]? = some v → Value.okWide P W .any base t v) (hA : DataW.TrodAll enc P W 0 (fun _ => true) true ps.toList args.toList ds p)
include hv hA
theorem law_of1 (hp : ps = #[t0]) (h0 : PRd P t0 f0 Q0) (hl : ∀ a, Q0 a → FCr P f [f0 a] (RVb true)) : ∃ rvs, SL W (old W) (fun _ => (none, 0, 0)) rvs args.toList [] ∧ FCr P f rvs (.v (.bool true)) := by
  subst hp
  obtain ⟨v0, vs, d0, _, q0, _, ha, _, k0, hA⟩ := tac hA
  have := tan hA; subst this
  obtain ⟨a, s0, b0⟩ := h0 enc W base v0 d0 q0 (hv 0 _ v0 rfl (by have : args = #[v0] := Array.ext' (by simpa using ha); subst this; rfl)) k0
  rw [ha]
  exact ⟨_, SL.cons (fp1 := []) (fp2 := []) s0 .nil, hl a b0⟩
end
end Eng
end Go.Proofs.YtmfbcipjknjicaaGreatDoor

/- The engine, part Fo: a program that is a cut, told by its first words alone. No condition. -/
namespace Go.Proofs.YtmfbcipjknjicaaGreatDoor
set_option linter.unusedSectionVars false
variable [One Bool]
namespace Eng
theorem toList_of {s : String} (a : List Char) (h : s = String.ofList a) : s.toList = a := by rw [h, String.toList_ofList]
theorem head_cons {α : Type} {l : List α} {a : α} (h : l.head? = some a) : ∃ r, l = a :: r := by
  cases l with
  | nil => cases h
  | cons x xs => simp at h; subst h; exact ⟨xs, rfl⟩
theorem strip_none : ∀ (os : List String) (w : List Char) (ws : List (List Char)), os.all (fun o => !(w == o.toList)) = true → stripLifts os (w :: ws) = ([], w :: ws)
  | [], _, _, _ => rfl
  | o :: os, w, ws, h => by
    simp only [List.all_cons, Bool.and_eq_true, Bool.not_eq_true'] at h
    rw [stripLifts, if_neg (by simp [h.1])]
    exact strip_none os w ws h.2
theorem cut_lifts : liftWords.all (fun o => !("cut".toList == o.toList)) = true := by decide +kernel
section
variable {P : Program} (h : (behindMainWord (wordsSigns P.initOrder.toList)).head? = some "cut".toList)
include h
theorem cut_head : P.headLifts = [] := by
  obtain ⟨r, e⟩ := head_cons h
  unfold Program.headLifts
  rw [e, strip_none _ _ _ cut_lifts]
  simp
theorem cut_make : P.make = some .cut := by
  obtain ⟨r, e⟩ := head_cons h
  unfold Program.make
  rw [e]
  have h1 : ("cut".toList == "gc".toList || "cut".toList == "spec".toList) = false := by decide +kernel
  simp only [h1, Bool.false_eq_true, if_false]
  rw [if_pos (by simp)]
theorem cut_final : P.liftsFinal = false := by
  have hh := cut_head h
  obtain ⟨r, e⟩ := head_cons h
  unfold Program.liftsFinal
  rw [hh, e]
  have h1 : (("cut".toList :: r).head? == some "carried".toList) = false := by
    have : (some "cut".toList == some "carried".toList) = false := by decide +kernel
    exact this
  simp only [h1]
  rfl
theorem cut_enter (h1 : P.laysLater = false) (h2 : P.bearsReflect = false) (h3 : P.doorFits [] = true) : P.mayEnter = true := by
  obtain ⟨r, e⟩ := head_cons h
  unfold Program.mayEnter
  rw [e]
  simp only [strip_none _ _ _ cut_lifts]
  simp [h1, h2, h3]
end
end Eng
end Go.Proofs.YtmfbcipjknjicaaGreatDoor
