/- The engine, part Ee: blocks that hold lists of structs; whole numbers without sign. No condition. -/
import Derived.Test.YtmfbcipjknjicaaGreatDoorEd
namespace Go.Proofs.YtmfbcipjknjicaaGreatDoor
set_option linter.unusedSectionVars false
variable [One Bool]
namespace Eng
open Go.RowKit

abbrev RVn (n : Nat) : RV := RVi n
abbrev RNs (l : List Nat) : RV := .sh (l.map RVn)
abbrev ONs (l : List Nat) : RV := .ow 1 (l.map RVn)
abbrev RR (p : Int × Int) : RV := .agg [RVi p.1, RVi p.2]
theorem fz_RNs (l : List Nat) : RV.fzL (l.map RVn) = l.map RVn := by rw [fzL_map]; simp [RV.fz]
theorem fz_ONss (l : List (List Nat)) : RV.fzL (l.map ONs) = l.map RNs := by rw [fzL_map]; simp [RV.fz, fz_RNs]
theorem fz_RNss (l : List (List Nat)) : RV.fzL (l.map RNs) = l.map RNs := by rw [fzL_map]; simp [RV.fz]
theorem fz_RR (l : List (Int × Int)) : RV.fzL (l.map RR) = l.map RR := by rw [fzL_map]; simp [RV.fz, RV.fzL]
abbrev RRw (p : List UInt8 × List UInt8) : RV := .agg [.str p.1, .str p.2]
theorem fz_RRw (l : List (List UInt8 × List UInt8)) : RV.fzL (l.map RRw) = l.map RRw := by rw [fzL_map]; simp [RV.fz, RV.fzL]
abbrev RNd (p : List Nat × List Nat) : RV := .agg [RNs p.1, RNs p.2]
abbrev ONd (p : List Nat × List Nat) : RV := .agg [ONs p.1, ONs p.2]
abbrev RNdI (p : List Int × List Int) : RV := .agg [RIs p.1, RIs p.2]
abbrev ONdI (p : List Int × List Int) : RV := .agg [OIs p.1, OIs p.2]
theorem fz_RNd (l : List (List Nat × List Nat)) : RV.fzL (l.map RNd) = l.map RNd := by rw [fzL_map]; simp [RV.fz, RV.fzL]
theorem fz_ONd (l : List (List Nat × List Nat)) : RV.fzL (l.map ONd) = l.map RNd := by rw [fzL_map]; simp [RV.fz, RV.fzL, fz_RNs]
theorem fz_RNdI (l : List (List Int × List Int)) : RV.fzL (l.map RNdI) = l.map RNdI := by rw [fzL_map]; simp [RV.fz, RV.fzL]
theorem fz_ONdI (l : List (List Int × List Int)) : RV.fzL (l.map ONdI) = l.map RNdI := by rw [fzL_map]; simp [RV.fz, RV.fzL, fz_RIs]
theorem nr : (∀ l : List (List Nat × List Nat), RV.fzL (l.map RNd) = l.map RNd) ∧ (∀ l : List (List Nat × List Nat), RV.fzL (l.map ONd) = l.map RNd) ∧ (∀ l : List (List Int × List Int), RV.fzL (l.map RNdI) = l.map RNdI) ∧ (∀ l : List (List Int × List Int), RV.fzL (l.map ONdI) = l.map RNdI) ∧
    (∀ (l : List (List Nat × List Nat)) a b, l.map RNd ++ [RV.agg [RV.sh (a.map RVn), RV.sh (b.map RVn)]] = (l ++ [(a, b)]).map RNd) ∧ (∀ (l : List (List Nat × List Nat)) a b, l.map ONd ++ [RV.agg [RV.ow 1 (a.map RVn), RV.ow 1 (b.map RVn)]] = (l ++ [(a, b)]).map ONd) ∧
    (∀ (l : List (List Int × List Int)) a b, l.map RNdI ++ [RV.agg [RV.sh (a.map RVi), RV.sh (b.map RVi)]] = (l ++ [(a, b)]).map RNdI) ∧ (∀ (l : List (List Int × List Int)) a b, l.map ONdI ++ [RV.agg [RV.ow 1 (a.map RVi), RV.ow 1 (b.map RVi)]] = (l ++ [(a, b)]).map ONdI) ∧
    (∀ (l : List (List Int × List Int)) i a b, (l.map ONdI).set i (RV.agg [RV.ow 1 (a.map RVi), RV.ow 1 (b.map RVi)]) = (l.set i (a, b)).map ONdI) ∧
    (∀ l : List (List UInt8 × List UInt8), RV.fzL (l.map RRw) = l.map RRw) ∧ (∀ (l : List (List UInt8 × List UInt8)) a b, l.map RRw ++ [RV.agg [RV.str a, RV.str b]] = (l ++ [(a, b)]).map RRw) ∧ (∀ (l : List (List UInt8 × List UInt8)) i a b, (l.map RRw).set i (RV.agg [RV.str a, RV.str b]) = (l.set i (a, b)).map RRw) ∧ (∀ n a b, List.replicate n (RV.agg [RV.str a, RV.str b]) = (List.replicate n (a, b)).map RRw) ∧
    (∀ l : List Nat, RV.fzL (l.map RVn) = l.map RVn) ∧ (∀ l : List (List Nat), RV.fzL (l.map ONs) = l.map RNs) ∧ (∀ l : List (List Nat), RV.fzL (l.map RNs) = l.map RNs) ∧ (∀ l : List (Int × Int), RV.fzL (l.map RR) = l.map RR) ∧
    (∀ (l : List Nat) (x : Nat), l.map RVn ++ [RVi (x : Nat)] = (l ++ [x]).map RVn) ∧ (∀ (l : List (List Nat)) x, l.map RNs ++ [RV.sh (x.map RVn)] = (l ++ [x]).map RNs) ∧ (∀ (l : List (List Nat)) x, l.map ONs ++ [RV.ow 1 (x.map RVn)] = (l ++ [x]).map ONs) ∧
    (∀ (l : List (Int × Int)) a b, l.map RR ++ [RV.agg [RVi a, RVi b]] = (l ++ [(a, b)]).map RR) ∧ (∀ (l : List (Int × Int)) i a b, (l.map RR).set i (RV.agg [RVi a, RVi b]) = (l.set i (a, b)).map RR) ∧ (∀ (l : List Nat) i (x : Nat), (l.map RVn).set i (RVi (x : Nat)) = (l.set i x).map RVn) ∧
    (∀ n a b, List.replicate n (RV.agg [RVi a, RVi b]) = (List.replicate n (a, b)).map RR) ∧ (∀ n (x : Nat), List.replicate n (RVi (x : Nat)) = (List.replicate n x).map RVn) ∧ (∀ (f : Value → RV), [].map f = []) ∧ (∀ (f : Value → RV) x l, (x :: l).map f = f x :: l.map f) := by
  refine ⟨fz_RNd, fz_ONd, fz_RNdI, fz_ONdI, by simp, by simp, by simp, by simp, by simp [List.map_set], fz_RRw, by simp, by simp [List.map_set], by simp [List.map_replicate], fz_RNs, fz_ONss, fz_RNss, fz_RR, ?_⟩
  simp [List.map_set, List.map_replicate]
section
variable {P : Program} {s : St} {d : Option Tmp} {ty : TypeId} {pos : String} {after : Array Edge} {g : Option (Nat × Bool)}
theorem ops_fld_map {α : Type} {f : α → RV} {l : List α} {x t fi off n i} (hx : s.get x = .ptr n i 0) (hf : fldOk P t fi off = true) {k} (ho : olook n s.O = some (k, l.map f)) (hi : i < l.length) : OpS P ⟨d, .fieldAddr t x fi, ty, pos, after, g⟩ s ⟨sput d (.ptr n i off) s.fr, s.O⟩ :=
  ops_fld_ptr hx hf ho (by simpa using hi)
theorem ops_load_mapj {α : Type} {f : α → RV} {l : List α} {x t n i j k c} (hx : s.get x = .ptr n i j) (ho : olook n s.O = some (k, l.map f)) (h : i < l.length) (hc : (f l[i]).cellsL[j]? = some c) (hp : c.plain = true) (ht : scalarT P t = true) :
    OpS P ⟨d, .load t x, ty, pos, after, g⟩ s ⟨sput d c s.fr, s.O⟩ :=
  ops_load_ptr hx ho (by simp [h]) hc hp ht
end
section
variable {P : Program} {RO : Nat → Bool} {s : St} {d : Option Tmp} {ty : TypeId} {pos : String} {after : Array Edge} {g : Option (Nat × Bool)}
theorem fs_fld_map {α : Type} {f : α → RV} {l : List α} {x t fi off n i} (hx : s.get x = .ptr n i 0) (hf : fldOk P t fi off = true) {k} (hro : RO n = true) (ho : olook n s.O = some (k, l.map f)) (hi : i < l.length) : Fs P RO ⟨d, .fieldAddr t x fi, ty, pos, after, g⟩ s (.ptr n i off) := fun s2 hs hO =>
  ops_fld_map ((hs _ (by simp [Op.operands])).trans hx) hf ((hO _ hro).trans ho) hi
theorem fs_load_mapj {α : Type} {f : α → RV} {l : List α} {x t n i j k c} (hx : s.get x = .ptr n i j) (hro : RO n = true) (ho : olook n s.O = some (k, l.map f)) (h : i < l.length) (hc : (f l[i]).cellsL[j]? = some c) (hp : c.plain = true) (ht : scalarT P t = true) :
    Fs P RO ⟨d, .load t x, ty, pos, after, g⟩ s c := fun s2 hs hO =>
  ops_load_mapj ((hs _ (by simp [Op.operands])).trans hx) ((hO _ hro).trans ho) h hc hp ht
end
section
variable {P : Program} {s : St} {ty : TypeId} {pos : String} {after : Array Edge} {g : Option (Nat × Bool)}
theorem ops_storea_map {α : Type} {f : α → RV} {l : List α} {x v t n i k r} (hx : s.get x = .ptr n i 0) (hv : s.get v = .agg r) (ho : olook n s.O = some (k, l.map f)) (h : i < l.length) (hl : r.length = k) (hst : r.all RV.stores = true) (ht : P.cellsOf t = r.length) :
    OpS P ⟨none, .store t x v, ty, pos, after, g⟩ s ⟨s.fr, oset n ((l.map f).set i (.agg r)) s.O⟩ :=
  ops_storea hx hv ho (by simp [h] : (l.map f)[i]? = some (f l[i])) hl hst ht
end
section
variable {P : Program} {ops : Array Oper} {ty : TypeId} {pos : String} {after : Array Edge} {s : St}
theorem Ef.storea_map {α : Type} {f : α → RV} {l : List α} {x v t n i k r} (hx : s.get x = .ptr n i 0) (hv : s.get v = .agg r) (ho : olook n s.O = some (k, l.map f)) (h : i < l.length) (hl : r.length = k) (hst : r.all RV.stores = true) (ht : P.cellsOf t = r.length) :
    Ef P ops [] ⟨none, .store t x v, ty, pos, after, none⟩ s .any (oset n ((l.map f).set i (.agg r)) s.O) :=
  Ef.storea hx hv ho (by simp [h] : (l.map f)[i]? = some (f l[i])) hl hst ht
theorem Ef.store_map {α : Type} {f : α → RV} {l : List α} {x v t n i k q} (hx : s.get x = .ptr n i 0) (hv : s.get v = q) (ho : olook n s.O = some (k, l.map f)) (h : i < l.length) (ha : (f l[i]).isAgg = false) (hst : q.stores = true) (ht : P.cellsOf t = 1) :
    Ef P ops [] ⟨none, .store t x v, ty, pos, after, none⟩ s .any (oset n ((l.map f).set i q) s.O) := by
  have e : (f l[i]).setCell 0 q = q := by
    cases hf : f l[i] <;> first | rfl | (rw [hf] at ha; cases ha)
  have := Ef.store (P := P) (ops := ops) (ty := ty) (pos := pos) (after := after) hx hv ho (by simp [h] : (l.map f)[i]? = some (f l[i])) (cellsL_pos ha) hst ht
  rwa [e] at this
end
theorem le_dropd {fr fr' fr'' : List RV} {O O' O'' : List Bk} (m : Nat) (e1 : RV.killL m fr = fr') (e2 : oerase m O = O') (h : LE ⟨fr', O'⟩ ⟨fr'', O''⟩) : LE ⟨fr, O⟩ ⟨fr'', O''⟩ := le_trans (le_drop m e1 e2) h

inductive Fg : List RV → List RV → Prop
  | nil : Fg [] []
  | keep {r es es'} (h : Fg es es') : Fg (r :: es) (r :: es')
  | ref {n off len es es'} (h : Fg es es') : Fg (.ref n off len :: es) (.any :: es')
  | agg {l l' es es'} (h1 : Fg l l') (h : Fg es es') : Fg (.agg l :: es) (.agg l' :: es')
theorem Fg.len {es es'} (h : Fg es es') : es'.length = es.length := by
  induction h with
  | nil => rfl
  | keep _ ih => simp [ih]
  | ref _ ih => simp [ih]
  | agg _ _ _ ih => simp [ih]
section
variable {P : Program} {s : St} {d : Option Tmp} {ty : TypeId} {pos : String} {after : Array Edge} {g : Option (Nat × Bool)}
theorem ops_muln {x y t u} {a b : Nat} (hx : s.get x = .v (.int .i64 (a : Nat))) (hy : s.get y = .v (.int .i64 (b : Nat))) (h : a * b ≤ 9223372036854775807) : OpS P ⟨d, .binOp .mul t x y u, ty, pos, after, g⟩ s ⟨sput d (.v (.int .i64 ((a * b : Nat) : Int))) s.fr, s.O⟩ := by
  have e : ((a : Int) * b) = ((a * b : Nat) : Int) := (Int.natCast_mul a b).symm
  have := ops_mul (P := P) (d := d) (ty := ty) (pos := pos) (after := after) (g := g) (t := t) (u := u) (s := s) (x := x) (y := y) (m := a) (n := b) hx hy (by omega) (by omega)
  rwa [e] at this
theorem ops_subn {x y t u} {a b : Nat} (hx : s.get x = .v (.int .i64 (a : Nat))) (hy : s.get y = .v (.int .i64 (b : Nat))) (h : b ≤ a) (h2 : a ≤ 9223372036854775807) : OpS P ⟨d, .binOp .sub t x y u, ty, pos, after, g⟩ s ⟨sput d (.v (.int .i64 ((a - b : Nat) : Int))) s.fr, s.O⟩ := by
  have := ops_sub (P := P) (d := d) (ty := ty) (pos := pos) (after := after) (g := g) (t := t) (u := u) (s := s) (x := x) (y := y) (m := a) (n := b) hx hy (by omega) (by omega)
  rwa [show ((a : Int) - b) = ((a - b : Nat) : Int) by omega] at this
end
section
variable {P : Program} {RO : Nat → Bool} {s : St} {d : Option Tmp} {ty : TypeId} {pos : String} {after : Array Edge} {g : Option (Nat × Bool)}
theorem fs_muln {x y t u} {a b : Nat} (hx : s.get x = .v (.int .i64 (a : Nat))) (hy : s.get y = .v (.int .i64 (b : Nat))) (h : a * b ≤ 9223372036854775807) : Fs P RO ⟨d, .binOp .mul t x y u, ty, pos, after, g⟩ s (.v (.int .i64 ((a * b : Nat) : Int))) := fun s2 hs hO =>
  ops_muln ((hs _ (by simp [Op.operands])).trans hx) ((hs _ (by simp [Op.operands])).trans hy) h
end
end Eng
end Go.Proofs.YtmfbcipjknjicaaGreatDoor
