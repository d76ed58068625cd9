/- Further rules of the engine: calls that float, products of numbers, blocks made in drawn regions, bytes. No condition. -/
import Derived.Test.YtpcckakchpblcaaGreatDoorEf
import Derived.Test.YtpcckakchpblcaaGreatDoorJ6
namespace Go.Proofs.YtpcckakchpblcaaGreatDoor
open Eng

section
variable {P : Program} {RO : Nat → Bool} {ops : Array Oper} {ty : TypeId} {pos : String} {after : Array Edge} {s : St}
theorem fs_callf {d : Tmp} {g : Option (Nat × Bool)} {f : FuncId} {args : Array Operand} {ats : Array TypeId} {argsR : List RV} {r : RV} (hargs : args.toList.map s.get = argsR := by rfl) (hnt : argsR.all RV.notTup = true := by rfl) (hc : callable P f = true := by kernel_rfl) (hfc : FCr P f argsR r) : Fs P RO ⟨some d, .call ⟨.value (.func f), args, ats⟩, ty, pos, after, g⟩ s r.fzR := by
  intro s2 hs _
  have hg : ∀ x ∈ args.toList, s2.get x = s.get x := fun x hx => hs x (by simp only [Op.operands, Call.operands, Array.toList_append]; simp [hx])
  exact ops_callf (by rw [List.map_congr_left hg]; exact hargs) hnt hc hfc
theorem viewC_congr {O O' : List Bk} {r : RV} (h : ∀ n ∈ r.names, olook n O' = olook n O) : viewC O' r = viewC O r := by
  cases r with
  | ref n a b => have := h n (by simp [RV.names]); simp [viewC, this]
  | ptr n a b => have := h n (by simp [RV.names]); simp [viewC, this]
  | _ => rfl
theorem view1_congr {O O' : List Bk} {r : RV} (h : ∀ n ∈ r.names, olook n O' = olook n O) : view1 O' r = view1 O r := by
  cases r with
  | agg l =>
    simp only [view1]
    refine congrArg RV.agg (List.map_congr_left fun x hx => viewC_congr fun n hn => h n ?_)
    have key : ∀ (l : List RV), x ∈ l → n ∈ x.names → n ∈ RV.namesL l := by
      intro l
      induction l with
      | nil => intro h; cases h
      | cons y ys ih =>
        intro h h2
        rw [RV.namesL, List.mem_append]
        rcases List.mem_cons.1 h with rfl | h
        · exact .inl h2
        · exact .inr (ih h h2)
    rw [RV.names]; exact key l hx hn
  | ref n a b => exact viewC_congr h
  | ptr n a b => exact viewC_congr h
  | _ => rfl
/-- A call that looks at what is owned, as a floating operation of a drawn region. -/
theorem fs_callz {d : Tmp} {g : Option (Nat × Bool)} {f : FuncId} {args : Array Operand} {ats : Array TypeId} {argsR : List RV} {r : RV} (hargs : args.toList.map (fun x => view1 s.O (s.get x)) = argsR := by first | rfl | (simp only [nz, nf, vw, nr, reduceIte, Nat.reduceEqDiff, ne_eq, not_false_eq_true]; rfl) | (simp only [nz, nf, vw, nr, reduceIte, Nat.reduceEqDiff, ne_eq, not_false_eq_true]; done) | (simp [view1, viewC, olook, nv, nz, nf, *]; fail_if_success show _)) (hsee : (args.toList.map s.get).all RV.seeOk = true := by rfl) (hro : ∀ n ∈ RV.namesL (args.toList.map s.get), RO n = true := by simp [nm, nz, St.get, lget, rdP]) (hc : callable P f = true := by kernel_rfl) (hfc : FCr P f argsR r) (hns : r.noSh = true := by simp [ns]) : Fs P RO ⟨some d, .call ⟨.value (.func f), args, ats⟩, ty, pos, after, g⟩ s r.fzR := by
  intro s2 hs hO
  have hg : ∀ x ∈ args.toList, s2.get x = s.get x := fun x hx => hs x (by simp only [Op.operands, Call.operands, Array.toList_append]; simp [hx])
  have hmem : ∀ x ∈ args.toList, ∀ n ∈ (s.get x).names, n ∈ RV.namesL (args.toList.map s.get) := by
    intro x hx n hn
    have key : ∀ (l : List Operand), x ∈ l → n ∈ RV.namesL (l.map s.get) := by
      intro l
      induction l with
      | nil => intro h; cases h
      | cons y ys ih =>
        intro h
        rw [List.map_cons, RV.namesL, List.mem_append]
        rcases List.mem_cons.1 h with rfl | h
        · exact .inl hn
        · exact .inr (ih h)
    exact key _ hx
  refine ops_callz (hargs := ?_) (hsee := ?_) (hc := hc) (hfc := hfc) (hns := hns)
  · rw [← hargs]
    refine List.map_congr_left fun x hx => ?_
    rw [hg x hx]
    exact view1_congr fun n hn => hO n (hro n (hmem x hx n hn))
  · rw [List.map_congr_left hg]; exact hsee
theorem fs_muln {x y t u} {m n : Nat} {d : Option Tmp} {g : Option (Nat × Bool)} (hx : s.get x = .v (.int .i64 (m : Nat))) (hy : s.get y = .v (.int .i64 (n : Nat))) (h2 : m * n ≤ 9223372036854775807) : Fs P RO ⟨d, .binOp .mul t x y u, ty, pos, after, g⟩ s (.v (.int .i64 ((m * n : Nat) : Int))) := by
  have h := fs_mul (P := P) (RO := RO) (d := d) (ty := ty) (pos := pos) (after := after) (g := g) (t := t) (u := u) hx hy (by have := Int.natCast_nonneg (m * n); rw [Int.natCast_mul] at this; omega) (by rw [← Int.natCast_mul]; omega)
  rw [← Int.natCast_mul] at h; exact h
theorem ops_muln {x y t u} {m n : Nat} {d : Option Tmp} {g : Option (Nat × Bool)} (hx : s.get x = .v (.int .i64 (m : Nat))) (hy : s.get y = .v (.int .i64 (n : Nat))) (h2 : m * n ≤ 9223372036854775807) : OpS P ⟨d, .binOp .mul t x y u, ty, pos, after, g⟩ s ⟨sput d (.v (.int .i64 ((m * n : Nat) : Int))) s.fr, s.O⟩ := by
  have h := ops_mul (P := P) (d := d) (ty := ty) (pos := pos) (after := after) (g := g) (t := t) (u := u) hx hy (by have := Int.natCast_nonneg (m * n); rw [Int.natCast_mul] at this; omega) (by rw [← Int.natCast_mul]; omega)
  rw [← Int.natCast_mul] at h; exact h
theorem Eng.Ef.alloca {d : Tmp} {t zs} (hz : zeroOf P t = some (.agg (List.toArray zs))) (h0 : 0 < zs.length) (h1 : zs.all Value.oneCell' = true) (hd : d < 1000000000000) (hO : d ∉ onames s.O) : Ef P ops [d] ⟨some d, .alloc t, ty, pos, after, none⟩ s (.ptr d 0 0) ((d, zs.length, [.agg (zs.map .v)]) :: s.O) := by
  refine Ef.plain fun s2 hs hO2 hm => ?_
  rw [← hO2]
  exact ops_alloca hz h0 h1 ⟨hd, hm d (by simp)⟩ (by rw [hO2]; exact hO)
theorem ops_maxn {x y} {ts : Array TypeId} {m n : Nat} {d : Option Tmp} {g : Option (Nat × Bool)} (hx : s.get x = .v (.int .i64 (m : Nat))) (hy : s.get y = .v (.int .i64 (n : Nat))) : OpS P ⟨d, .call ⟨.builtin .max, #[x, y], ts⟩, ty, pos, after, g⟩ s ⟨sput d (RVn (max m n)) s.fr, s.O⟩ := by
  have h := ops_max (P := P) (d := d) (ty := ty) (pos := pos) (after := after) (g := g) (ts := ts) hx hy
  rwa [show max (m : Int) (n : Int) = ((max m n : Nat) : Int) by omega] at h
theorem fs_maxn {x y} {ts : Array TypeId} {m n : Nat} {d : Option Tmp} {g : Option (Nat × Bool)} (hx : s.get x = .v (.int .i64 (m : Nat))) (hy : s.get y = .v (.int .i64 (n : Nat))) : Fs P RO ⟨d, .call ⟨.builtin .max, #[x, y], ts⟩, ty, pos, after, g⟩ s (RVn (max m n)) := by
  have h := fs_max (P := P) (RO := RO) (d := d) (ty := ty) (pos := pos) (after := after) (g := g) (ts := ts) hx hy
  rwa [show max (m : Int) (n : Int) = ((max m n : Nat) : Int) by omega] at h
theorem ops_nilp {x e} {d : Option Tmp} {g : Option (Nat × Bool)} (hx : s.get x = .psh e) : OpS P ⟨d, .nilCheck x, ty, pos, after, g⟩ s ⟨sput d (.psh e) s.fr, s.O⟩ :=
  ops_val fun _ a w F ρ fp hr => by
    have h1 := hr.get x
    rw [hx] at h1
    obtain ⟨_, a', k, cells, h2, _⟩ := h1.psh_inv
    exact ⟨a.eval x, by simp [execOp, h2], h1⟩
theorem fs_nilp {x e} {d : Option Tmp} {g : Option (Nat × Bool)} (hx : s.get x = .psh e) : Fs P RO ⟨d, .nilCheck x, ty, pos, after, g⟩ s (.psh e) := fun s2 hs _ => ops_nilp ((hs _ (by simp [Op.operands])).trans hx)
theorem ops_pred {x t u} {a : Nat} {d : Option Tmp} {g : Option (Nat × Bool)} (hx : s.get x = .v (.int .i64 ((a + 1 : Nat) : Int))) (h : a + 1 ≤ 9223372036854775807) : OpS P ⟨d, .binOp .sub t x (.const (.int .i64 1)) u, ty, pos, after, g⟩ s ⟨sput d (RVn a) s.fr, s.O⟩ := by
  have := ops_sub (P := P) (d := d) (ty := ty) (pos := pos) (after := after) (g := g) (t := t) (u := u) (s := s) (x := x) (y := .const (.int .i64 1)) (m := ((a + 1 : Nat) : Int)) (n := 1) hx rfl (by omega) (by omega)
  rwa [show ((a + 1 : Nat) : Int) - 1 = (a : Int) by omega] at this
theorem fs_pred {x t u} {a : Nat} {d : Option Tmp} {g : Option (Nat × Bool)} (hx : s.get x = .v (.int .i64 ((a + 1 : Nat) : Int))) (h : a + 1 ≤ 9223372036854775807) : Fs P RO ⟨d, .binOp .sub t x (.const (.int .i64 1)) u, ty, pos, after, g⟩ s (RVn a) := fun s2 hs _ => ops_pred ((hs _ (by simp [Op.operands])).trans hx) h
end

end Go.Proofs.YtpcckakchpblcaaGreatDoor
