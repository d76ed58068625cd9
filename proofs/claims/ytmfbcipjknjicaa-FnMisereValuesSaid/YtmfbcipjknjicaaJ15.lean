/- What the draws of the misere laws give: lists of at most 60 numbers. For all bytes. -/
import Derived.Test.YtmfbcipjknjicaaDrawM
import Derived.Test.YtmfbcipjknjicaaMisP
namespace Go.Proofs.Ytmfbcipjknjicaa
open Eng
attribute [local irreducible] OpS OpG FC FCr Rel Fl Ef DR Fs
attribute [local simp] RV.fzR_names
set_option linter.unusedSimpArgs false
set_option linter.unusedVariables false
set_option maxHeartbeats 0
set_option maxRecDepth 100000

theorem drawMR_ok (code : List UInt8) : FC Try.prog 25 [RYs code] [] (fun rv O => ∃ x : List Int × Int, (x.1.length ≤ 60 ∧ -1000 ≤ x.2 ∧ x.2 ≤ 1000) ∧ rv = .tup [OIs x.1, RVi x.2] ∧ O = []) := by
  have q1 := drawCode_ok ⟨code, 0, 0⟩ (by show (0 : Nat) ≤ _; omega)
  refine (fc_in Try.func25 rfl (by simp only [Try.ntmps25, anys, List.length_cons, List.length_nil, Nat.reduceAdd, Nat.reduceSub, List.replicate_succ, List.replicate_zero, List.cons_append, List.nil_append] <;> rfl) ?_)
  repeat' first
    | refine w_seq ?_
    | refine w_region ?_
    | refine l_nil ?_
    | refine rt_n ?_
    | refine w_ret ?_
    | refine rt_ret ?_
    | refine w_skip ?_
    | (refine l_o ?_; first | refine l_op (hk := ?_))
  refine l_callPx (MD 0) (fun x => OIs x.1) 7 (fun x => [RCur x.2]) q1 (hk := fun x hx => ?_)
  obtain ⟨a, c1⟩ := x
  obtain ⟨a1, a2⟩ := hx
  dsimp only at a1 a2 ⊢
  have p1 := pick_ok c1 12 (by omega) (by omega)
  have v1 := pickV_lt c1 12 (by omega)
  have b1 := pickC_at c1 12
  generalize pickV c1 12 = n1 at *
  generalize pickC c1 12 = c2 at *
  have p2 := pick_ok c2 12 (by omega) (by omega)
  have v2 := pickV_lt c2 12 (by omega)
  have b2 := pickC_at c2 12
  generalize pickV c2 12 = n2 at *
  generalize pickC c2 12 = c3 at *
  have p3 := pick_ok c3 18 (by omega) (by omega)
  have v3 := pickV_lt c3 18 (by omega)
  have b3 := pickC_at c3 18
  generalize pickV c3 18 = n3 at *
  generalize pickC c3 18 = c4 at *
  have p4 := pick_ok c4 4 (by omega) (by omega)
  have v4 := pickV_lt c4 4 (by omega)
  have b4 := pickC_at c4 4
  generalize pickV c4 4 = n4 at *
  generalize pickC c4 4 = c5 at *
  obtain ⟨L6, hL6⟩ : ∃ L6 : List Int, L6 = [(n1 : Int), (n2 : Int), (n3 : Int), 20, 21, -1] := ⟨_, rfl⟩
  have hL6l : L6.length = 6 := by rw [hL6]; rfl
  have hL6b : ∀ x ∈ L6, -1000 ≤ x ∧ x ≤ 1000 := by
    intro x hx
    rw [hL6] at hx
    simp only [List.mem_cons, List.not_mem_nil, or_false] at hx
    omega
  have p5 := among_ok c5 (L6.take (3 + n4)) (by omega) (List.length_pos_iff.1 (by rw [List.length_take, hL6l]; omega)) (by simp; omega)
  have hr : -1000 ≤ (L6.take (3 + n4)).getD (pickV c5 (L6.take (3 + n4)).length) 0 ∧ (L6.take (3 + n4)).getD (pickV c5 (L6.take (3 + n4)).length) 0 ≤ 1000 := by
    rw [List.getD_eq_getElem?_getD]
    cases hx : (L6.take (3 + n4))[pickV c5 (L6.take (3 + n4)).length]? with
    | none => simp
    | some x => exact hL6b x (List.mem_of_mem_take (List.mem_of_getElem? hx))
  generalize (L6.take (3 + n4)).getD (pickV c5 (L6.take (3 + n4)).length) 0 = r at *
  generalize pickC c5 (L6.take (3 + n4)).length = c6 at *
  repeat' first
    | refine w_seq ?_
    | refine w_region ?_
    | refine l_nil ?_
    | refine rt_n ?_
    | refine w_ret ?_
    | refine rt_ret ?_
    | refine w_skip ?_
    | (refine l_o ?_; first | refine l_op rfl (by first | (apply k_add; first | exact ops_addn (a := 3) (b := n4) rfl rfl (by omega) | fail) | (apply k_buildSlice; first | exact ops_buildSlice_fz (d := some 17) (k := 1) rfl rfl rfl (by decide) (by decide) (by kernel_rfl) (by decide +kernel) rfl | fail) | (apply k_slice; first | exact ops_cuthm (f := RVi) (v := L6) (h := 3 + n4) (by subst hL6; rfl) rfl (by omega) (by kernel_rfl) (by kernel_rfl) (by decide) (fun _ => rfl) | fail) | (apply k_callf; first | exact ops_callP (d := 12) 7 [RCur c2] (hfc := p1) | exact ops_callP (d := 14) 7 [RCur c3] (hfc := p2) | exact ops_callP (d := 16) 7 [RCur c4] (hfc := p3) | exact ops_callP (d := 19) 7 [RCur c5] (hfc := p4) | exact ops_callP (d := 22) 7 [RCur c6] (hfc := p5) | fail) | fail) (hk := ?_) | refine l_op (hk := ?_))
  refine en_ex (a, r) ⟨a1, hr⟩ ?_
  refine en_endm ([(7, 3, [RCur c6])]) (hf := Try.results25) (hO := ?_) (hr := ?_)
  · rfl
  · rfl
end Go.Proofs.Ytmfbcipjknjicaa
/- Values of heaps of an octal game, in plain lists; how they are bounded. -/
namespace Go.Proofs.Ytmfbcipjknjicaa
set_option linter.unusedSimpArgs false
set_option linter.unusedVariables false

theorem xor_le_add : ∀ (n a b : Nat), a ≤ n → a ^^^ b ≤ a + b
  | 0, a, b, h => by
    have : a = 0 := by omega
    subst this; simp
  | n + 1, a, b, h => by
    by_cases h0 : a = 0
    · subst h0; simp
    · have ih := xor_le_add n (a / 2) (b / 2) (by omega)
      have h1 : (a ^^^ b) / 2 = a / 2 ^^^ b / 2 := Nat.xor_div_two
      have h2 : (a ^^^ b) % 2 = (a + b) % 2 := by
        have h3 := @Nat.xor_mod_two_eq_one a b
        have h4 := Nat.mod_two_eq_zero_or_one (a ^^^ b)
        omega
      omega
/-- The values of heaps behind a move, one into the other. -/
def xorV (v : List Nat) (m : List Int) : Nat := m.foldl (fun x h => x ^^^ v.getD h.toNat 0) 0
def gvL (c : List Int) : Nat → List Nat
  | 0 => []
  | n + 1 => gvL c n ++ [mexL ((rawT c n c.length).map fun m => ((xorV (gvL c n) m : Nat) : Int))]
theorem gvL_len (c : List Int) : ∀ n, (gvL c n).length = n
  | 0 => rfl
  | n + 1 => by rw [gvL, List.length_append, gvL_len c n]; rfl
/-- The value of a heap. -/
def gv (c : List Int) (n : Nat) : Nat := (gvL c (n + 1)).getD n 0
theorem gvL_at (c : List Int) {i : Nat} : ∀ {n : Nat}, i < n → (gvL c n).getD i 0 = gv c i
  | n + 1, h => by
    by_cases e : i = n
    · subst e; rfl
    · have := gvL_at c (i := i) (n := n) (by omega)
      rw [gvL, List.getD_eq_getElem?_getD, List.getElem?_append_left (by rw [gvL_len]; omega), ← List.getD_eq_getElem?_getD, this]
def xorG (c : List Int) (m : List Int) : Nat := m.foldl (fun x h => x ^^^ gv c h.toNat) 0
theorem rawT_mem {c : List Int} {n : Int} {k : Nat} {m : List Int} (h : m ∈ rawT c n k) : (∀ x ∈ m, 0 < x) ∧ 0 ≤ m.sum ∧ m.sum < n ∧ m.length ≤ 2 := by
  rw [rawT] at h
  obtain ⟨j, _, hj⟩ := List.mem_flatMap.1 h
  exact mvAt_mem hj
theorem xorV_G {c : List Int} {n : Nat} {m : List Int} (h : ∀ x ∈ m, 0 < x ∧ x < n) : xorV (gvL c n) m = xorG c m := by
  unfold xorV xorG
  have key : ∀ z, m.foldl (fun x h => x ^^^ (gvL c n).getD h.toNat 0) z = m.foldl (fun x h => x ^^^ gv c h.toNat) z := ?_
  · exact key 0
  intro z
  induction m generalizing z with
  | nil => rfl
  | cons x xs ih =>
    have hx := h x (by simp)
    rw [List.foldl_cons, List.foldl_cons, gvL_at c (by omega), ih fun y hy => h y (by simp [hy])]
theorem raw_lt {c : List Int} {n : Int} {k : Nat} {m : List Int} (h : m ∈ rawT c n k) : ∀ x ∈ m, 0 < x ∧ x < n := fun x hx => by
  obtain ⟨h1, h2, h3, h4⟩ := rawT_mem h
  have := (sum_nn h1).2 x hx
  exact ⟨h1 x hx, by omega⟩
theorem gv_eq (c : List Int) (n : Nat) : gv c n = mexL ((rawT c n c.length).map fun m => ((xorG c m : Nat) : Int)) := by
  rw [gv, gvL, List.getD_eq_getElem?_getD, List.getElem?_append_right (by rw [gvL_len]; omega), gvL_len, Nat.sub_self]
  simp only [List.getElem?_cons_zero, Option.getD_some]
  congr 1
  apply List.map_congr_left
  intro m hm
  rw [xorV_G (raw_lt hm)]
/-- What lies below a heap's value can be reached. -/
theorem gv_below {c : List Int} {n j : Nat} (h : j < gv c n) : ∃ m ∈ rawT c n c.length, xorG c m = j := by
  rw [gv_eq] at h
  obtain ⟨m, hm, e⟩ := List.mem_map.1 (mexL_below _ j h)
  exact ⟨m, hm, by omega⟩
/-- One heap or two. -/
theorem raw_cases {c : List Int} {n k : Nat} {m : List Int} (h : m ∈ rawT c n k) : m = [] ∨ (∃ r : Nat, m = [(r : Int)] ∧ r < n) ∨ ∃ a b : Nat, m = [(a : Int), (b : Int)] ∧ a + b < n := by
  obtain ⟨h1, h2, h3, h4⟩ := rawT_mem h
  match m, h1, h2, h3, h4 with
  | [], _, _, _, _ => exact .inl rfl
  | [x], h1, _, h3, _ =>
    have := h1 x (by simp)
    refine .inr (.inl ⟨x.toNat, by rw [Int.toNat_of_nonneg (by omega)], ?_⟩)
    simp at h3; omega
  | [x, y], h1, _, h3, _ =>
    have hx := h1 x (by simp)
    have hy := h1 y (by simp)
    refine .inr (.inr ⟨x.toNat, y.toNat, by rw [Int.toNat_of_nonneg (by omega), Int.toNat_of_nonneg (by omega)], ?_⟩)
    simp at h3; omega
  | _ :: _ :: _ :: _, _, _, _, h4 => simp only [List.length_cons] at h4; omega
theorem xorG_one (c : List Int) (r : Nat) : xorG c [(r : Int)] = gv c r := by simp [xorG]
theorem xorG_two (c : List Int) (a b : Nat) : xorG c [(a : Int), (b : Int)] = gv c a ^^^ gv c b := by simp [xorG]
theorem gv_le (c : List Int) : ∀ n, gv c n ≤ n := by
  intro n
  induction n using Nat.strongRecOn with
  | _ n ih =>
    apply Classical.byContradiction
    intro hn
    obtain ⟨m, hm, e⟩ := gv_below (c := c) (n := n) (j := n) (by omega)
    rcases raw_cases hm with rfl | ⟨r, rfl, hr⟩ | ⟨a, b, rfl, hab⟩
    · simp [xorG] at e
      subst e
      have := rawT_mem hm
      simp at this
    · rw [xorG_one] at e
      have := ih r hr; omega
    · rw [xorG_two] at e
      have h1 := ih a (by omega)
      have h2 := ih b (by omega)
      have := xor_le_add _ (gv c a) (gv c b) (Nat.le_refl _)
      omega
end Go.Proofs.Ytmfbcipjknjicaa
