/- slices.Insert of one row ahead of the end, world by world: with room, and without. For all rows. -/
import Derived.Shelf.Spec.SlicesInsertGrow
import Derived.Test.YtdignmbeiohhiaaSlc
namespace Go.Proofs.Ytdignmbeiohhiaa
open Eng Go.Shelf Go.RowKit Go.Lib
set_option linter.unusedSimpArgs false
set_option linter.unusedVariables false
set_option maxHeartbeats 0
set_option maxRecDepth 100000

theorem run_copy_rowk {P : Program} (w : World) (dT sT ty elem : TypeId) (b o dLen dCap : Nat) (a : Addr) (sLen sCap k : Nat) (cs : List Value) (tb : TypeId) (c : Array Value)
    (hu : P.underlying dT = some (.slice elem)) (hs : (P.info? elem).map (·.size) = some k) (hn : cs.length = Nat.min sLen dLen * k) (hsrc : ∀ j v, cs[j]? = some v → w.cell? (a.add j) = some v)
    (hb : w.heap[b]? = some (.cells c tb (0, 0))) (hroom : o + cs.length ≤ c.size) (h1 : ∀ v ∈ cs, v.oneCell' = true) :
    (Builtin.copy_ #[dT, sT] ty #[.slice (some ⟨b, o, none⟩) dLen dCap, .slice (some a) sLen sCap]).run P w = .ok (goInt (Nat.min sLen dLen)) (w.setRow b (c.toList.take o ++ cs ++ c.toList.drop (o + cs.length)).toArray) := by
  have hl := run_loadCells_list (P := P) w a cs hsrc
  have hst := run_storeCells_at (P := P) b o tb cs 0 c w hb (by simpa using hroom) h1
  simp only [Nat.add_zero] at hst
  cases hq : P.info? elem with
  | none => simp [hq] at hs
  | some i =>
    have hi : i.size = k := by simpa [hq] using hs
    simp [Builtin.copy_, run_underlying hu, Builtin.lenOf, Builtin.firstCells, sizeOf, typeInfo, hq, hi, ← hn, hl, hst]
theorem ins_row {α : Type} {C cs vs : List α} {i n : Nat} (hi : i < n) (hcs : C.take (n * 2) = cs) (hC : (n + 1) * 2 ≤ C.length) :
    (C.take ((i + 1) * 2) ++ (cs.drop (i * 2) ++ C.drop ((i + 1) * 2 + (n - i) * 2))).take (i * 2) ++ (vs ++ (C.take ((i + 1) * 2) ++ (cs.drop (i * 2) ++ C.drop ((i + 1) * 2 + (n - i) * 2))).drop (i * 2 + 2)) =
      cs.take (i * 2) ++ vs ++ cs.drop (i * 2) ++ C.drop ((n + 1) * 2) := by
  have hl : (C.take ((i + 1) * 2)).length = i * 2 + 2 := by rw [List.length_take]; omega
  have e1 : cs.take (i * 2) = C.take (i * 2) := by rw [← hcs, List.take_take, Nat.min_eq_left (by omega)]
  rw [List.take_append_of_le_length (by omega), List.take_take, Nat.min_eq_left (by omega), List.drop_append_of_le_length (by omega), List.drop_eq_nil_of_le (by omega), List.nil_append, e1, show (i + 1) * 2 + (n - i) * 2 = (n + 1) * 2 by omega]
  simp only [List.append_assoc]
theorem insR_room (b n c i vb vc : Nat) (C VC : Array Value) (tb tv : TypeId) (cs vs : List Value) (w : World) (hi : i < n) (hroom : n + 1 ≤ c) (hc63 : c ≤ 9223372036854775807) (hvb : vb ≠ b)
    (hb : w.heap[b]? = some (.cells C tb (0, 0))) (hC : C.size = c * 2) (hcl : cs.length = n * 2) (hcs : C.toList.take (n * 2) = cs)
    (hv : w.heap[vb]? = some (.cells VC tv (0, 0))) (hvl : vs.length = 2) (hvs : VC.toList.take 2 = vs) (h1c : ∀ v ∈ cs, v.oneCell' = true) (h1v : ∀ v ∈ vs, v.oneCell' = true) :
    Calls Try.prog 73 #[.slice (some ⟨b, 0, none⟩) n c, .int .i64 i, .slice (some ⟨vb, 0, none⟩) 1 vc] w fun e w' =>
      e = .returned (.slice (some ⟨b, 0, none⟩) (n + 1) c) ∧ ∃ R : Array Value, R.toList = cs.take (i * 2) ++ vs ++ cs.drop (i * 2) ++ C.toList.drop ((n + 1) * 2) ∧ w' = w.drew.setRow b R := by
  have t0 := Try.underlying0; have a0 := Try.isAgg0; have z0 := Try.sizeOf0; have v0 := Try.zeroValue0
  have t3 := Try.underlying3; have a3 := Try.isAgg3; have z3 := Try.sizeOf3; have v3 := Try.zeroValue3
  have t4 := Try.underlying4; have a4 := Try.isAgg4; have z4 := Try.sizeOf4; have v4 := Try.zeroValue4
  have t9 := Try.underlying31; have a9 := Try.isAgg31; have z9 := Try.sizeOf31; have v9 := Try.zeroValue31
  have t24 := Try.underlying27; have a24 := Try.isAgg27; have z24 := Try.sizeOf27; have v24 := Try.zeroValue27
  have u0 := run_underlying t0; have u3 := run_underlying t3; have u4 := run_underlying t4; have u9 := run_underlying t9; have u24 := run_underlying t24
  have mixed : Try.prog.follows .mixedOrders = true := by kernel_rfl
  have hsz : (Try.prog.info? 31).map (·.size) = some 2 := by kernel_rfl
  have hz2 : ¬ ((i : Int) = (n : Int)) := by omega
  have hov : ∀ lb cb, (callFunc 119 #[.slice (some ⟨vb, 0, none⟩) 1 vc, .slice (some ⟨b, (i + 1) * 2, none⟩) lb cb]).run Try.prog w = .ok (.value (.bool false)) w := fun lb cb => by
    rw [run_callFunc_extern Try.func119 (by kernel_rfl) (by kernel_rfl) (by kernel_rfl) (e := Extern.SlicesOverlaps.overlaps #[27, 27] #[4]) (by kernel_rfl),
      Lib.run_overlaps_apart w 27 4 31 t24 2 z9 ⟨vb, 0, none⟩ ⟨b, (i + 1) * 2, none⟩ 1 vc lb cb hvb tv tb VC.size C.size (by simp [World.shape?, hv]) (by simp [World.shape?, hb]) (by omega) (by simp [World.frozen?, hv]) (by simp [World.frozen?, hv])]
    rfl
  have hdl : (cs.drop (i * 2)).length = (n - i) * 2 := by rw [List.length_drop, hcl]; omega
  obtain ⟨R1, hR1⟩ : ∃ R1 : Array Value, R1 = (C.toList.take ((i + 1) * 2) ++ cs.drop (i * 2) ++ C.toList.drop ((i + 1) * 2 + (cs.drop (i * 2)).length)).toArray := ⟨_, rfl⟩
  have hCl : C.toList.length = c * 2 := by simpa using hC
  have hR1s : R1.size = C.size := by
    have e : R1.size = R1.toList.length := by simp
    rw [e, hR1]
    simp only [List.length_append, List.length_take, List.length_drop, hCl, hdl]
    omega
  obtain ⟨R2, hR2⟩ : ∃ R2 : Array Value, R2 = (R1.toList.take (i * 2) ++ vs ++ R1.toList.drop (i * 2 + vs.length)).toArray := ⟨_, rfl⟩
  have hcp1 : ∀ ty dc sc, (Builtin.copy_ #[27, 27] ty #[.slice (some ⟨b, (i + 1) * 2, none⟩) (n - i) dc, .slice (some ⟨b, i * 2, none⟩) (n + 1 - i) sc]).run Try.prog w.drew = .ok (goInt (Nat.min (n + 1 - i) (n - i))) (w.drew.setRow b R1) := fun ty dc sc => by
    rw [hR1]
    exact run_copy_rowk w.drew _ _ ty 31 b ((i + 1) * 2) (n - i) dc ⟨b, i * 2, none⟩ (n + 1 - i) sc 2 (cs.drop (i * 2)) tb C t24 hsz (by rw [hdl]; simp only [Nat.min_def]; split <;> omega)
      (fun j v hj => by
        rw [Addr.add_lit, cell_of_row w.drew b _ C tb (0, 0) hb]
        rw [← hcs, List.getElem?_drop, List.getElem?_take] at hj
        split at hj
        · simpa using hj
        · cases hj) hb (by rw [hdl, hC]; omega) (fun v hv => h1c v (List.mem_of_mem_drop hv))
  have hbR : (w.drew.setRow b R1).heap[b]? = some (.cells R1 tb (0, 0)) := setRow_heap w.drew b C R1 tb (0, 0) hb
  have hcp2 : ∀ (W : World), W.heap = (w.drew.setRow b R1).heap → ∀ ty dc, (Builtin.copy_ #[27, 27] ty #[.slice (some ⟨b, i * 2, none⟩) (n + 1 - i) dc, .slice (some ⟨vb, 0, none⟩) 1 vc]).run Try.prog W = .ok (goInt (Nat.min 1 (n + 1 - i))) (W.setRow b R2) := fun W hW ty dc => by
    rw [hR2]
    exact run_copy_rowk W _ _ ty 31 b (i * 2) (n + 1 - i) dc ⟨vb, 0, none⟩ 1 vc 2 vs tb R1 t24 hsz (by rw [hvl]; simp only [Nat.min_def]; split <;> omega)
      (fun j v hj => by
        rw [Addr.add_lit, cell_of_row _ vb _ VC tv (0, 0) (by rw [hW, setRow_other _ _ _ _ hvb]; exact hv)]
        rw [← hvs, List.getElem?_take] at hj
        split at hj
        · simpa using hj
        · cases hj) (by rw [hW]; exact hbR) (by rw [hvl, hR1s, hC]; omega) h1v
  have hw1 : IntKind.i64.wrap ((i : Int) + 1) = (i : Int) + 1 := by rw [IntKind.wrap_i64]; omega
  have hb1 : (0 : Int) ≤ (i : Int) + 1 := by omega
  have hin : i ≤ n := by omega
  have htn : ((i : Int) + 1).toNat = i + 1 := by omega
  have hb2 : ¬ (c = i + 1) := by omega
  have hb3 : (i : Int) ≤ (n : Int) + 1 := by omega
  have hb4 : ¬ (c = i) := by omega
  go_enter Try.func73, Try.ntmps73
  go_wp2_with (simp only [hov])
  go_region_law_o (refine step_copy_runI rfl _ _ 27 27 rfl _ _ (by simp [Act.eval, Act.put]) (by simp [Act.eval, Act.put]) (hcp1 _ _ _) ?_)
  go_wp2_with (at_builtin; refine wpList_copy_runI _ rfl _ _ 27 27 rfl _ _ rfl rfl (hcp2 _ rfl _ _) ?_)
  go_ret
  exact ⟨rfl, _, ins_row hi hcs (by rw [hCl]; omega), setRow_setRow _ _ _ _⟩
theorem ins_grow {α : Type} {cs vs Z : List α} {i n : Nat} (hi : i < n) (hcl : cs.length = n * 2) (hvl : vs.length = 2) (hZ : 2 * (n + 1 - i) ≤ Z.length) :
    let A := (cs.take (i * 2) ++ Z).take (i * 2) ++ vs ++ (cs.take (i * 2) ++ Z).drop (i * 2 + vs.length)
    A.take ((i + 1) * 2) ++ cs.drop (i * 2) ++ A.drop ((i + 1) * 2 + (cs.drop (i * 2)).length) = cs.take (i * 2) ++ vs ++ cs.drop (i * 2) ++ Z.drop (2 * (n + 1 - i)) := by
  intro A
  have h1 : (cs.take (i * 2)).length = i * 2 := by rw [List.length_take]; omega
  have hA : A = cs.take (i * 2) ++ vs ++ Z.drop 2 := by
    show (cs.take (i * 2) ++ Z).take (i * 2) ++ vs ++ (cs.take (i * 2) ++ Z).drop (i * 2 + vs.length) = _
    rw [List.take_append_of_le_length (by omega), List.take_of_length_le (by omega), List.drop_append, List.drop_eq_nil_of_le (by omega), List.nil_append, h1, hvl, show i * 2 + 2 - i * 2 = 2 by omega]
  have h2 : (cs.take (i * 2) ++ vs).length = (i + 1) * 2 := by rw [List.length_append, h1, hvl]; omega
  have h3 : (cs.drop (i * 2)).length = n * 2 - i * 2 := by rw [List.length_drop, hcl]
  have h4 : (cs.take (i * 2) ++ vs).drop ((i + 1) * 2 + (cs.drop (i * 2)).length) = [] := List.drop_eq_nil_of_le (by omega)
  rw [hA, List.take_append_of_le_length (by omega), List.take_of_length_le (by omega), List.drop_append, h4, List.nil_append, h2, List.drop_drop, h3]
  rw [show 2 + ((i + 1) * 2 + (n * 2 - i * 2) - (i + 1) * 2) = 2 * (n + 1 - i) by omega]
theorem insR_grow (b n c i vb vc : Nat) (C VC : Array Value) (tb tv : TypeId) (cs vs : List Value) (w : World) (hi : i < n) (hnc : n ≤ c) (hroom : c < n + 1) (hn : n ≤ 1048576) (hvb : vb ≠ b)
    (hb : w.heap[b]? = some (.cells C tb (0, 0))) (hcl : cs.length = n * 2) (hcs : C.toList.take (n * 2) = cs)
    (hv : w.heap[vb]? = some (.cells VC tv (0, 0))) (hvl : vs.length = 2) (hvs : VC.toList.take 2 = vs) (h1c : ∀ v ∈ cs, v.oneCell' = true) (h1v : ∀ v ∈ vs, v.oneCell' = true) :
    Calls Try.prog 73 #[.slice (some ⟨b, 0, none⟩) n c, .int .i64 i, .slice (some ⟨vb, 0, none⟩) 1 vc] w fun e w' =>
      ∃ G, n + 1 ≤ G ∧ G ≤ maxLen ∧ e = .returned (.slice (some ⟨w.heap.size, 0, none⟩) (n + 1) G) ∧ ∃ (R : Array Value) (Z : List Value), R.toList = cs.take (i * 2) ++ vs ++ cs.drop (i * 2) ++ Z ∧ R.size = G * 2 ∧
        w'.heap[w.heap.size]? = some (.cells R 31 (0, 0)) ∧ (∀ k, k < w.heap.size → w'.heap[k]? = w.heap[k]?) ∧ w'.heap.size = w.heap.size + 1 ∧ w'.os = w.os ∧ w'.tape = w.tape ∧ w'.output = w.output := by
  have t0 := Try.underlying0; have a0 := Try.isAgg0; have z0 := Try.sizeOf0; have v0 := Try.zeroValue0
  have t3 := Try.underlying3; have a3 := Try.isAgg3; have z3 := Try.sizeOf3; have v3 := Try.zeroValue3
  have t4 := Try.underlying4; have a4 := Try.isAgg4; have z4 := Try.sizeOf4; have v4 := Try.zeroValue4
  have t9 := Try.underlying31; have a9 := Try.isAgg31; have z9 := Try.sizeOf31; have v9 := Try.zeroValue31
  have t24 := Try.underlying27; have a24 := Try.isAgg27; have z24 := Try.sizeOf27; have v24 := Try.zeroValue27
  have u0 := run_underlying t0; have u3 := run_underlying t3; have u4 := run_underlying t4; have u9 := run_underlying t9; have u24 := run_underlying t24
  have mixed : Try.prog.follows .mixedOrders = true := by kernel_rfl
  have hsz : (Try.prog.info? 31).map (·.size) = some 2 := by kernel_rfl
  have hby : (Try.prog.info? 31).map (fun i => decide (i.bytes ≤ 64)) = some true := by kernel_rfl
  have hzo : zeroOf Try.prog 31 = some (.agg #[.string ⟨#[]⟩, .string ⟨#[]⟩]) := by kernel_rfl
  obtain ⟨i0, hi0⟩ : ∃ i0, Try.prog.info? 31 = some i0 := by
    cases h : Try.prog.info? 31 with
    | none => rw [h] at hsz; cases hsz
    | some i0 => exact ⟨i0, rfl⟩
  have hzs : i0.size = 2 := by rw [hi0] at hsz; simpa using hsz
  have hzb : i0.bytes ≤ 64 := by rw [hi0] at hby; simpa using hby
  have hz0 : i0.zero = some (.agg #[.string ⟨#[]⟩, .string ⟨#[]⟩]) := by simpa [zeroOf, hi0] using hzo
  have hcn : c = n := by omega
  subst hcn
  have hz2 : ¬ ((i : Int) = (c : Int)) := by omega
  have hz3 : (c : Int) < (c : Int) + 1 := by omega
  have hkk : (c : Int) + 1 - (i : Int) = ((c + 1 - i : Nat) : Int) := by omega
  have hik : i + (c + 1 - i) = c + 1 := by omega
  have hbw : b < w.heap.size := (Array.getElem?_eq_some_iff.1 hb).1
  have hvw : vb < w.heap.size := (Array.getElem?_eq_some_iff.1 hv).1
  have hold : (Builtin.firstCells i0.size i (.slice (some ⟨b, 0, none⟩) i c)).run Try.prog w.drew = .ok (cs.take (i * 2)).toArray w.drew := by
    rw [hzs]
    exact run_firstCells_some w.drew 2 i ⟨b, 0, none⟩ i c (cs.take (i * 2)) (by rw [List.length_take]; omega) (fun j v hj => by
      rw [Addr.add_lit, cell_of_row w.drew b _ C tb (0, 0) hb]
      rw [← hcs, List.take_take, List.getElem?_take] at hj
      split at hj
      · simpa using hj
      · cases hj)
  obtain ⟨G, hG⟩ : ∃ G, G = grownCap w (c + 1) c 31 := ⟨_, rfl⟩
  have hG1 : c + 1 ≤ G := by rw [hG]; exact grownCap_ge w _ _ _
  have hG2 : G ≤ maxLen := by rw [hG]; exact grownCap_le_maxLen w (c + 1) c 31 (by unfold maxLen; omega)
  have hG63 : G ≤ 9223372036854775807 := by unfold maxLen at hG2; omega
  obtain ⟨Z, hZ⟩ : ∃ Z : Array Value, Z = Builtin.zeroCells (Value.agg #[.string ⟨#[]⟩, .string ⟨#[]⟩]).cells (c + 1 - i) ++ Builtin.zeroCells (Value.agg #[.string ⟨#[]⟩, .string ⟨#[]⟩]).cells (G - (c + 1)) := ⟨_, rfl⟩
  have hZl : Z.size = 2 * (G - i) := by rw [hZ]; simp [Builtin.zeroCells, Value.cells]; omega
  obtain ⟨ROW, hROW⟩ : ∃ ROW : Array Value, ROW = (cs.take (i * 2)).toArray ++ Z := ⟨_, rfl⟩
  have hRs : ROW.size = G * 2 := by rw [hROW]; simp [hZl]; omega
  have hrz : ∀ ty, (Builtin.append_ #[27, 3] ty #[.slice (some ⟨b, 0, none⟩) i c, .int .i64 ((c : Int) + 1 - (i : Int))]).run Try.prog w =
      .ok (.slice (some ⟨w.heap.size, 0, none⟩) (c + 1) G) (w.drew.alloc (.cells ROW 31)) := fun ty => by
    have h := Lib.run_append_grow_zeros w 27 3 ty 31 i0 _ .i64 .i64 t24 t3 hi0 hz0 (some ⟨b, 0, none⟩) i c (cs.take (i * 2)) hold (c + 1 - i) (by omega) (by omega) (by omega) (by omega)
      (by have : (c + 1 - i) * i0.bytes ≤ (c + 1 - i) * 64 := Nat.mul_le_mul_left _ hzb; omega)
      (by rw [hik]; exact growslice_fits hroom (by have : (c + 1) * i0.bytes ≤ (c + 1) * 64 := Nat.mul_le_mul_left _ hzb; omega))
    rw [hik] at h
    rw [hkk, hROW, hZ, hG, ← Array.append_assoc]
    exact h
  have hN0 : (w.drew.alloc (.cells ROW 31)).heap[w.heap.size]? = some (.cells ROW 31 (0, 0)) := _root_.Go.heap_alloc_new w.drew _
  have hold2 : ∀ k, k < w.heap.size → (w.drew.alloc (.cells ROW 31)).heap[k]? = w.heap[k]? := fun k hk => _root_.Go.heap_alloc_old w.drew _ hk
  have hdl : (cs.drop (i * 2)).length = (c - i) * 2 := by rw [List.length_drop, hcl]; omega
  obtain ⟨RA, hRA⟩ : ∃ RA : Array Value, RA = (ROW.toList.take (i * 2) ++ vs ++ ROW.toList.drop (i * 2 + vs.length)).toArray := ⟨_, rfl⟩
  have hRl : ROW.toList.length = G * 2 := by simpa using hRs
  have hRAs : RA.size = G * 2 := by
    have e : RA.size = RA.toList.length := by simp
    rw [e, hRA]
    simp only [List.length_append, List.length_take, List.length_drop, hRl, hvl]
    omega
  have hRAl : RA.toList.length = G * 2 := by simpa using hRAs
  obtain ⟨RB, hRB⟩ : ∃ RB : Array Value, RB = (RA.toList.take ((i + 1) * 2) ++ cs.drop (i * 2) ++ RA.toList.drop ((i + 1) * 2 + (cs.drop (i * 2)).length)).toArray := ⟨_, rfl⟩
  have hRBs : RB.size = G * 2 := by
    have e : RB.size = RB.toList.length := by simp
    rw [e, hRB]
    simp only [List.length_append, List.length_take, List.length_drop, hRAl, hdl]
    omega
  have hfinal : RB.toList = cs.take (i * 2) ++ vs ++ cs.drop (i * 2) ++ Z.toList.drop (2 * (c + 1 - i)) := by
    have hZll : Z.toList.length = 2 * (G - i) := by simpa using hZl
    have h := ins_grow (vs := vs) (Z := Z.toList) hi hcl hvl (by rw [hZll]; omega)
    have e : ROW.toList = cs.take (i * 2) ++ Z.toList := by rw [hROW]; simp
    simp only [hRB, hRA, e]
    exact h
  have hcpA : ∀ (W : World), W.heap = (w.drew.alloc (.cells ROW 31)).heap → ∀ ty dc, (Builtin.copy_ #[27, 27] ty #[.slice (some ⟨w.heap.size, i * 2, none⟩) (c + 1 - i) dc, .slice (some ⟨vb, 0, none⟩) 1 vc]).run Try.prog W = .ok (goInt (Nat.min 1 (c + 1 - i))) (W.setRow w.heap.size RA) := fun W hW ty dc => by
    rw [hRA]
    exact run_copy_rowk W _ _ ty 31 w.heap.size (i * 2) (c + 1 - i) dc ⟨vb, 0, none⟩ 1 vc 2 vs 31 ROW t24 hsz (by rw [hvl]; simp only [Nat.min_def]; split <;> omega)
      (fun j v hj => by
        rw [Addr.add_lit, cell_of_row _ vb _ VC tv (0, 0) (by rw [hW, hold2 vb hvw]; exact hv)]
        rw [← hvs, List.getElem?_take] at hj
        split at hj
        · simpa using hj
        · cases hj) (by rw [hW]; exact hN0) (by rw [hvl, hRs]; omega) h1v
  have hN1 : ((w.drew.alloc (.cells ROW 31)).setRow w.heap.size RA).heap[w.heap.size]? = some (.cells RA 31 (0, 0)) := setRow_heap _ _ _ _ _ _ hN0
  have hcpB : ∀ (W : World), W.heap = ((w.drew.alloc (.cells ROW 31)).setRow w.heap.size RA).heap → ∀ ty dc sc, (Builtin.copy_ #[27, 27] ty #[.slice (some ⟨w.heap.size, (i + 1) * 2, none⟩) (c - i) dc, .slice (some ⟨b, i * 2, none⟩) (c - i) sc]).run Try.prog W = .ok (goInt (Nat.min (c - i) (c - i))) (W.setRow w.heap.size RB) := fun W hW ty dc sc => by
    rw [hRB]
    exact run_copy_rowk W _ _ ty 31 w.heap.size ((i + 1) * 2) (c - i) dc ⟨b, i * 2, none⟩ (c - i) sc 2 (cs.drop (i * 2)) 31 RA t24 hsz (by rw [hdl]; simp only [Nat.min_def]; split <;> omega)
      (fun j v hj => by
        rw [Addr.add_lit, cell_of_row W b _ C tb (0, 0) (by rw [hW, setRow_other _ _ _ _ (by omega), hold2 b hbw]; exact hb)]
        rw [← hcs, List.getElem?_drop, List.getElem?_take] at hj
        split at hj
        · simpa using hj
        · cases hj) (by rw [hW]; exact hN1) (by rw [hdl, hRAs]; omega) (fun v hv => h1c v (List.mem_of_mem_drop hv))
  have hw1 : IntKind.i64.wrap ((i : Int) + 1) = (i : Int) + 1 := by rw [IntKind.wrap_i64]; omega
  have hb1 : (0 : Int) ≤ (i : Int) + 1 := by omega
  have hin : i ≤ c := by omega
  have htn : ((i : Int) + 1).toNat = i + 1 := by omega
  have hGi : ¬ (G = i) := by omega
  have hGim : ¬ (G = i + 1) := by omega
  have hci : ¬ (c = i) := by omega
  have hb3 : (i : Int) ≤ (c : Int) := by omega
  clear hkk hik hold hROW hZ hG hRl hRA hRB hRAl
  go_enter Try.func73, Try.ntmps73
  go_wp2_with (first
    | (at_builtin; refine Lib.wpList_append_run _ rfl _ _ _ _ rfl _ _ rfl rfl _ _ (hrz _) ?_))
  rw [hcpA _ (by rfl) _ _]
  go_wp2
  have hcpB' : ∀ ty dc sc, (Builtin.copy_ #[27, 27] ty #[.slice (some ⟨w.heap.size, (i + 1) * 2, none⟩) (c - i) dc, .slice (some ⟨b, i * 2, none⟩) (c - i) sc]).run Try.prog ((w.alloc (Obj.cells ROW 31)).drew.setRow w.heap.size RA).drew = .ok (goInt (Nat.min (c - i) (c - i))) (((w.alloc (Obj.cells ROW 31)).drew.setRow w.heap.size RA).drew.setRow w.heap.size RB) := hcpB _ rfl
  go_region_law_o (refine step_copy_runI rfl _ _ 27 27 rfl (.slice (some ⟨w.heap.size, (i + 1) * 2, none⟩) (c - i) (G - (i + 1))) (.slice (some ⟨b, i * 2, none⟩) (c - i) (c - i)) (by simp [Act.eval, Act.put]) (by simp [Act.eval, Act.put]) (hcpB' _ _ _) ?_)
  go_wp2
  go_ret
  refine ⟨G, hG1, hG2, rfl, RB, _, hfinal, hRBs, ?_, fun k hk => ?_, ?_, rfl, rfl, rfl⟩
  · exact setRow_heap _ _ _ _ _ _ hN1
  · rw [setRow_other _ _ _ _ (by omega)]
    show ((w.drew.alloc (.cells ROW 31)).setRow w.heap.size RA).heap[k]? = _
    rw [setRow_other _ _ _ _ (by omega)]
    exact hold2 k hk
  · simp
end Go.Proofs.Ytdignmbeiohhiaa
