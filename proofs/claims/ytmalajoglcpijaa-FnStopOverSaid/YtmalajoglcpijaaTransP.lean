/- 'At least' is transitive where the middle graph's alternating plays end. For all good loops, in plain lists. -/
import Derived.Test.YtmalajoglcpijaaAlikeP
namespace Go.Proofs.Ytmalajoglcpijaa
set_option linter.unusedSimpArgs false

/-- What keeps itself isn't lost. -/
theorem hold_is2 {nxt n H} (ha : Alt nxt n) (hx : ∀ i, i < n → H.getD i false = true → keepsH nxt H i = true) : ∀ (t : Nat) (i : Nat), i < n → ((fin nxt n).getD i (0, 0)).1 = 2 → ((fin nxt n).getD i (0, 0)).2 ≤ t → H.getD i false = false := by
  intro t
  induction t with
  | zero =>
    intro i hi h2 ht
    cases hH : H.getD i false with
    | false => rfl
    | true =>
      have hk := hx i hi hH
      have hw := fin_wf nxt n i
      unfold keepsH at hk
      by_cases he : i % 2 = 0
      · rw [if_pos he, List.any_eq_true] at hk
        obtain ⟨k, hk, _⟩ := hk
        have h1 : ((fin nxt n).getD i (0, 0)).1 = 3 - mv i := by unfold mv; omega
        have h3 := (fin_lose ha hi h1).1 k hk
        have hw2 := fin_wf nxt n k
        rcases hw2 with hw2 | hw2
        · rw [hw2] at h3; have := h3.1; unfold mv at this; simp at this; omega
        · omega
      · have h1 : ((fin nxt n).getD i (0, 0)).1 = mv i := by unfold mv; omega
        obtain ⟨⟨k, hk, hk1⟩, _⟩ := fin_win ha hi h1
        have hw2 := fin_wf nxt n k
        rw [hk1] at hw2
        rcases hw2 with hw2 | hw2
        · have := congrArg Prod.fst hw2; unfold mv at this; simp at this; omega
        · omega
  | succ t ih =>
    intro i hi h2 ht
    cases hH : H.getD i false with
    | false => rfl
    | true =>
      have hk := hx i hi hH
      unfold keepsH at hk
      by_cases he : i % 2 = 0
      · rw [if_pos he, List.any_eq_true] at hk
        obtain ⟨k, hk, hk2⟩ := hk
        have h1 : ((fin nxt n).getD i (0, 0)).1 = 3 - mv i := by unfold mv; omega
        have h3 := (fin_lose ha hi h1).1 k hk
        have := ih k (ha i k hk).1 (by unfold mv at h3; omega) (by omega)
        rw [this] at hk2; cases hk2
      · rw [if_neg he, List.all_eq_true] at hk
        have h1 : ((fin nxt n).getD i (0, 0)).1 = mv i := by unfold mv; omega
        obtain ⟨⟨k, hkm, hk1⟩, _⟩ := fin_win ha hi h1
        have := ih k (ha i k hkm).1 (by rw [hk1]; unfold mv; omega) (by rw [hk1]; dsimp only; omega)
        have h4 := hk k hkm
        rw [this] at h4; cases h4
section
variable {gL gR hL hR kL kR : List (List Int)}
/-- Left keeps from losing at places of two loops; b = 0: Left is to move, 1: Right. -/
def NLo (gL gR hL hR : List (List Int)) (u v b : Nat) : Prop := ((fin (nxtJ gL gR hL hR) (nJ gL hL)).getD (2 * (u * hL.length + v) + b) (0, 0)).1 ≠ 2
theorem nlo_lt {u v b : Nat} (hu : u < gL.length) (hv : v < hL.length) (hb : b < 2) : 2 * (u * hL.length + v) + b < nJ gL hL := by
  have := mul_lt hu hv
  unfold nJ; omega
theorem hld_holds {nxt : List (List Nat)} {n : Nat} : HoldsAll nxt n (hld nxt n) := fun i hi hf => by
  simp [hld, List.getD_eq_getElem?_getD, hi]
  simpa [List.getD_eq_getElem?_getD] using hf
theorem hld_nl {nxt : List (List Nat)} {n k : Nat} (hk : k < n) (h : (hld nxt n).getD k false = true) : ((fin nxt n).getD k (0, 0)).1 ≠ 2 := by
  simp [hld, List.getD_eq_getElem?_getD, hk] at h
  simpa [List.getD_eq_getElem?_getD] using h
/-- Right's moves can't hurt Left. -/
theorem nlo_right (g : GoodI gL gR) (h : GoodI hL hR) {u v : Nat} (hu : u < gL.length) (hv : v < hL.length) (hn : NLo gL gR hL hR u v 1) : (∀ x ∈ gR.getD u [], NLo gL gR hL hR x.toNat v 0) ∧ ∀ y ∈ hL.getD v [], NLo gL gR hL hR u y.toNat 0 := by
  have ha := nxtJ_alt g h
  have hi := nlo_lt hu hv (show 1 < 2 by omega)
  have hk := holds_keeps ha hld_holds hi hn
  rw [keepsH, if_neg (by omega), List.all_eq_true] at hk
  have key : ∀ k, k ∈ kkJ gL gR hL hR (2 * (u * hL.length + v) + 1) → ((fin (nxtJ gL gR hL hR) (nJ gL hL)).getD k (0, 0)).1 ≠ 2 := fun k hm => by
    have hm2 := (kk_mem g h hi).2 hm
    exact hld_nl (ha _ _ hm2).1 (hk k hm2)
  rw [kkJ, if_neg (by omega), half_div hv (by omega), half_mod hv (by omega)] at key
  refine ⟨fun x hx => ?_, fun y hy => ?_⟩
  · exact key _ (List.mem_append_left _ (List.mem_map.2 ⟨x, hx, rfl⟩))
  · exact key _ (List.mem_append_right _ (List.mem_map.2 ⟨y, hy, rfl⟩))
/-- Left has a move. -/
theorem nlo_left (g : GoodI gL gR) (h : GoodI hL hR) {u v : Nat} (hu : u < gL.length) (hv : v < hL.length) (hn : NLo gL gR hL hR u v 0) : (∃ x ∈ gL.getD u [], NLo gL gR hL hR x.toNat v 1) ∨ ∃ y ∈ hR.getD v [], NLo gL gR hL hR u y.toNat 1 := by
  have ha := nxtJ_alt g h
  have hi := nlo_lt hu hv (show 0 < 2 by omega)
  have hk := holds_keeps ha hld_holds hi hn
  rw [keepsH, if_pos (by omega), List.any_eq_true] at hk
  obtain ⟨k, hm, hk⟩ := hk
  have hn2 := hld_nl (ha _ _ hm).1 hk
  have hm2 := (kk_mem g h hi).1 hm
  rw [kkJ, if_pos (by omega), half_div hv (by omega), half_mod hv (by omega)] at hm2
  rcases List.mem_append.1 hm2 with hm2 | hm2
  · obtain ⟨x, hx, rfl⟩ := List.mem_map.1 hm2
    exact .inl ⟨x, hx, hn2⟩
  · obtain ⟨y, hy, rfl⟩ := List.mem_map.1 hm2
    exact .inr ⟨y, hy, hn2⟩
/-- A measure of a graph's alternating plays. -/
def Ends (hL hR : List (List Int)) (T : Nat → Nat → Nat) : Prop := (∀ v, v < hL.length → ∀ x ∈ hL.getD v [], T x.toNat 1 < T v 0) ∧ ∀ v, v < hL.length → ∀ x ∈ hR.getD v [], T x.toNat 0 < T v 1
/-- What lies between. -/
def MidR (gL gR hL hR kL kR : List (List Int)) (u w : Nat) : Prop := ∃ v, v < hL.length ∧ NLo gL gR hL hR u v 1 ∧ NLo hL hR kL kR v w 1
def MidL (gL gR hL hR kL kR : List (List Int)) (u w : Nat) : Prop := ∃ v, v < hL.length ∧ ((NLo gL gR hL hR u v 0 ∧ NLo hL hR kL kR v w 1) ∨ (NLo gL gR hL hR u v 1 ∧ NLo hL hR kL kR v w 0))
theorem mid_right (g : GoodI gL gR) (h : GoodI hL hR) (k : GoodI kL kR) {u w : Nat} (hu : u < gL.length) (hw : w < kL.length) (hm : MidR gL gR hL hR kL kR u w) : (∀ x ∈ gR.getD u [], MidL gL gR hL hR kL kR x.toNat w) ∧ ∀ y ∈ kL.getD w [], MidL gL gR hL hR kL kR u y.toNat := by
  obtain ⟨v, hv, h1, h2⟩ := hm
  exact ⟨fun x hx => ⟨v, hv, .inl ⟨(nlo_right g h hu hv h1).1 x hx, h2⟩⟩, fun y hy => ⟨v, hv, .inr ⟨h1, (nlo_right h k hv hw h2).2 y hy⟩⟩⟩
theorem mid_left (g : GoodI gL gR) (h : GoodI hL hR) (k : GoodI kL kR) {T : Nat → Nat → Nat} (hT : Ends hL hR T) {u w : Nat} (hu : u < gL.length) (hw : w < kL.length) : ∀ (t v : Nat), v < hL.length →
    ((T v 1 ≤ t ∧ NLo gL gR hL hR u v 0 ∧ NLo hL hR kL kR v w 1) ∨ (T v 0 ≤ t ∧ NLo gL gR hL hR u v 1 ∧ NLo hL hR kL kR v w 0)) →
    (∃ x ∈ gL.getD u [], MidR gL gR hL hR kL kR x.toNat w) ∨ ∃ y ∈ kR.getD w [], MidR gL gR hL hR kL kR u y.toNat := by
  intro t
  induction t with
  | zero =>
    rintro v hv (⟨ht, h1, h2⟩ | ⟨ht, h1, h2⟩)
    · rcases nlo_left g h hu hv h1 with ⟨x, hx, h3⟩ | ⟨y, hy, h3⟩
      · exact .inl ⟨x, hx, v, hv, h3, h2⟩
      · have := hT.2 v hv y hy; omega
    · rcases nlo_left h k hv hw h2 with ⟨x, hx, h3⟩ | ⟨y, hy, h3⟩
      · have := hT.1 v hv x hx; omega
      · exact .inr ⟨y, hy, v, hv, h1, h3⟩
  | succ t ih =>
    rintro v hv (⟨ht, h1, h2⟩ | ⟨ht, h1, h2⟩)
    · rcases nlo_left g h hu hv h1 with ⟨x, hx, h3⟩ | ⟨y, hy, h3⟩
      · exact .inl ⟨x, hx, v, hv, h3, h2⟩
      · have ht2 := hT.2 v hv y hy
        have hb := h.inR.at_ hy
        have hy2 : y.toNat < hL.length := by omega
        exact ih y.toNat hy2 (.inr ⟨by omega, h3, (nlo_right h k hv hw h2).1 y hy⟩)
    · rcases nlo_left h k hv hw h2 with ⟨x, hx, h3⟩ | ⟨y, hy, h3⟩
      · have ht2 := hT.1 v hv x hx
        have hb := h.inL.at_ hx
        have hx2 : x.toNat < hL.length := by omega
        exact ih x.toNat hx2 (.inl ⟨by omega, (nlo_right g h hu hv h1).2 x hx, h3⟩)
      · exact .inr ⟨y, hy, v, hv, h1, h3⟩
open Classical in
/-- The states that lie between, as a list. -/
noncomputable def midH (gL gR hL hR kL kR : List (List Int)) : List Bool := (List.range (nJ gL kL)).map fun i => if i % 2 = 0 then decide (MidL gL gR hL hR kL kR (i / 2 / kL.length) (i / 2 % kL.length)) else decide (MidR gL gR hL hR kL kR (i / 2 / kL.length) (i / 2 % kL.length))
theorem midH_at {i : Nat} (hi : i < nJ gL kL) : ((midH gL gR hL hR kL kR).getD i false = true ↔ if i % 2 = 0 then MidL gL gR hL hR kL kR (i / 2 / kL.length) (i / 2 % kL.length) else MidR gL gR hL hR kL kR (i / 2 / kL.length) (i / 2 % kL.length)) := by
  simp only [midH, List.getD_eq_getElem?_getD, List.getElem?_map, List.getElem?_range hi, Option.map_some, Option.getD_some]
  split <;> simp
theorem nlo_trans (g : GoodI gL gR) (h : GoodI hL hR) (k : GoodI kL kR) {T : Nat → Nat → Nat} (hT : Ends hL hR T) {u v w : Nat} (hu : u < gL.length) (hv : v < hL.length) (hw : w < kL.length) (h1 : NLo gL gR hL hR u v 1) (h2 : NLo hL hR kL kR v w 1) : NLo gL gR kL kR u w 1 := by
  have ha := nxtJ_alt g k
  have hm : 0 < kL.length := k.len1
  have hx : ∀ i, i < nJ gL kL → (midH gL gR hL hR kL kR).getD i false = true → keepsH (nxtJ gL gR kL kR) (midH gL gR hL hR kL kR) i = true := by
    intro i hi hH
    have hvv : i / 2 % kL.length < kL.length := Nat.mod_lt _ hm
    have huu : i / 2 / kL.length < gL.length := by
      rw [Nat.div_lt_iff_lt_mul hm]; unfold nJ at hi; omega
    rw [midH_at hi] at hH
    rw [← keepsJ g k hi, keepsH, kxJ_at hi, kkJ]
    by_cases he : i % 2 = 0
    · rw [if_pos he] at hH ⊢
      rw [if_pos he, List.any_eq_true]
      obtain ⟨z, hz, hc⟩ := hH
      have hc2 : (T z 1 ≤ max (T z 0) (T z 1) ∧ NLo gL gR hL hR (i / 2 / kL.length) z 0 ∧ NLo hL hR kL kR z (i / 2 % kL.length) 1) ∨ (T z 0 ≤ max (T z 0) (T z 1) ∧ NLo gL gR hL hR (i / 2 / kL.length) z 1 ∧ NLo hL hR kL kR z (i / 2 % kL.length) 0) := by
        rcases hc with hc | hc
        · exact .inl ⟨by omega, hc⟩
        · exact .inr ⟨by omega, hc⟩
      rcases mid_left g h k hT huu hvv _ z hz hc2 with ⟨x, hx, hM⟩ | ⟨y, hy, hM⟩
      · have hb := g.inL.at_ hx
        have hxl : x.toNat < gL.length := by omega
        refine ⟨_, List.mem_append_left _ (List.mem_map.2 ⟨x, hx, rfl⟩), ?_⟩
        rw [midH_at (nlo_lt hxl hvv (by omega)), if_neg (by omega), half_div hvv (by omega), half_mod hvv (by omega)]
        exact hM
      · have hb := k.inR.at_ hy
        have hyl : y.toNat < kL.length := by have := k.lenR; omega
        refine ⟨_, List.mem_append_right _ (List.mem_map.2 ⟨y, hy, rfl⟩), ?_⟩
        rw [midH_at (nlo_lt huu hyl (by omega)), if_neg (by omega), half_div hyl (by omega), half_mod hyl (by omega)]
        exact hM
    · rw [if_neg he] at hH ⊢
      rw [if_neg he, List.all_eq_true]
      have hM := mid_right g h k huu hvv hH
      intro q hq
      rcases List.mem_append.1 hq with hq | hq
      · obtain ⟨x, hx, rfl⟩ := List.mem_map.1 hq
        have hb := g.inR.at_ hx
        have hxl : x.toNat < gL.length := by have := g.lenR; omega
        have e : 2 * (x.toNat * kL.length + i / 2 % kL.length) = 2 * (x.toNat * kL.length + i / 2 % kL.length) + 0 := rfl
        rw [e, midH_at (nlo_lt hxl hvv (by omega)), if_pos (by omega), half_div hvv (by omega), half_mod hvv (by omega)]
        exact hM.1 x hx
      · obtain ⟨y, hy, rfl⟩ := List.mem_map.1 hq
        have hb := k.inL.at_ hy
        have hyl : y.toNat < kL.length := by omega
        have e : 2 * (i / 2 / kL.length * kL.length + y.toNat) = 2 * (i / 2 / kL.length * kL.length + y.toNat) + 0 := rfl
        rw [e, midH_at (nlo_lt huu hyl (by omega)), if_pos (by omega), half_div hyl (by omega), half_mod hyl (by omega)]
        exact hM.2 y hy
  intro h3
  have hi := nlo_lt hu hw (show 1 < 2 by omega)
  have hS : (midH gL gR hL hR kL kR).getD (2 * (u * kL.length + w) + 1) false = true := by
    rw [midH_at hi, if_neg (by omega), half_div hw (by omega), half_mod hw (by omega)]
    exact ⟨v, hv, h1, h2⟩
  have hw2 := fin_wf (nxtJ gL gR kL kR) (nJ gL kL) (2 * (u * kL.length + w) + 1)
  have h0 : 0 ≤ ((fin (nxtJ gL gR kL kR) (nJ gL kL)).getD (2 * (u * kL.length + w) + 1) (0, 0)).2 := by
    rcases hw2 with hw2 | hw2
    · rw [hw2] at h3; simp at h3
    · exact hw2.2.1
  have := hold_is2 ha hx ((fin (nxtJ gL gR kL kR) (nJ gL kL)).getD (2 * (u * kL.length + w) + 1) (0, 0)).2.toNat _ hi h3 (by omega)
  rw [hS] at this; cases this
end
end Go.Proofs.Ytmalajoglcpijaa
