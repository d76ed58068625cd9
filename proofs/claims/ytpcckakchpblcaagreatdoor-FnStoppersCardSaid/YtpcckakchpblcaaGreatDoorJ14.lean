/- A place holds out against itself; the first place that is the same as one. For all good loops, in plain lists. -/
import Derived.Test.YtpcckakchpblcaaGreatDoorJ13
namespace Go.Proofs.YtpcckakchpblcaaGreatDoor
set_option linter.unusedSimpArgs false

theorem half_div {u v m b : Nat} (hv : v < m) (hb : b < 2) : (2 * (u * m + v) + b) / 2 / m = u := by
  have : (2 * (u * m + v) + b) / 2 = u * m + v := by omega
  rw [this, Nat.mul_comm, Nat.mul_add_div (by omega), Nat.div_eq_of_lt hv, Nat.add_zero]
theorem half_mod {u v m b : Nat} (hv : v < m) (hb : b < 2) : (2 * (u * m + v) + b) / 2 % m = v := by
  have : (2 * (u * m + v) + b) / 2 = u * m + v := by omega
  rw [this, Nat.mul_comm, Nat.mul_add_mod, Nat.mod_eq_of_lt hv]
section
variable {gL gR : List (List Int)}
theorem diag_no (g : GoodI gL gR) : ∀ (t u : Nat), u < gL.length → ((fin (nxtJ gL gR gL gR) (nJ gL gL)).getD (2 * (u * gL.length + u) + 1) (0, 0)).1 = 2 → ((fin (nxtJ gL gR gL gR) (nJ gL gL)).getD (2 * (u * gL.length + u) + 1) (0, 0)).2 ≤ t → False := by
  have ha := nxtJ_alt g g
  have hin : ∀ {u v}, u < gL.length → v < gL.length → ∀ b, b < 2 → 2 * (u * gL.length + v) + b < nJ gL gL := fun hu hv b hb => by
    have := mul_lt hu hv
    unfold nJ; omega
  intro t
  induction t with
  | zero =>
    intro u hu h2 ht
    have hi := hin hu hu 1 (by omega)
    have h1 : ((fin (nxtJ gL gR gL gR) (nJ gL gL)).getD (2 * (u * gL.length + u) + 1) (0, 0)).1 = mv (2 * (u * gL.length + u) + 1) := by rw [h2]; unfold mv; omega
    obtain ⟨⟨k, hk, hk1⟩, _⟩ := fin_win ha hi h1
    have hw := fin_wf (nxtJ gL gR gL gR) (nJ gL gL) k
    rw [hk1] at hw
    rcases hw with hw | hw
    · have := congrArg Prod.fst hw; unfold mv at this; simp at this
    · omega
  | succ t ih =>
    intro u hu h2 ht
    have hi := hin hu hu 1 (by omega)
    have h1 : ((fin (nxtJ gL gR gL gR) (nJ gL gL)).getD (2 * (u * gL.length + u) + 1) (0, 0)).1 = mv (2 * (u * gL.length + u) + 1) := by rw [h2]; unfold mv; omega
    obtain ⟨⟨k, hk, hk1⟩, _⟩ := fin_win ha hi h1
    have hk2 := (kk_mem g g hi).1 hk
    rw [kkJ, if_neg (by omega), half_div hu (by omega), half_mod hu (by omega), List.mem_append, List.mem_map, List.mem_map] at hk2
    have key : ∀ x y : Nat, x < gL.length → y < gL.length → k = 2 * (x * gL.length + y) → ∀ z : Nat, z < gL.length → (2 * (z * gL.length + z) + 1) ∈ kkJ gL gR gL gR k → False := by
      intro x y hx hy ek z hz hm
      have hkn : k < nJ gL gL := by rw [ek]; exact hin hx hy 0 (by omega)
      have hkm : mv k = 1 := by unfold mv; omega
      have h3 : ((fin (nxtJ gL gR gL gR) (nJ gL gL)).getD k (0, 0)).1 = 3 - mv k := by
        rw [hk1, hkm]; dsimp only; unfold mv; omega
      have h4 := (fin_lose ha hkn h3).1 _ ((kk_mem g g hkn).2 hm)
      have e1 : ((fin (nxtJ gL gR gL gR) (nJ gL gL)).getD k (0, 0)).2 ≤ t := by rw [hk1]; dsimp only; omega
      exact ih z hz (by unfold mv at h4; omega) (by omega)
    rcases hk2 with ⟨x, hx, rfl⟩ | ⟨y, hy, rfl⟩
    · have b := g.inR.at_ hx
      have bl : x.toNat < gL.length := by have := g.lenR; omega
      refine key x.toNat u bl hu rfl x.toNat bl ?_
      rw [show 2 * (x.toNat * gL.length + u) = 2 * (x.toNat * gL.length + u) + 0 from rfl, kkJ, if_pos (by omega), half_div hu (by omega), half_mod hu (by omega), List.mem_append, List.mem_map, List.mem_map]
      exact .inr ⟨x, hx, rfl⟩
    · have b := g.inL.at_ hy
      have bl : y.toNat < gL.length := by omega
      refine key u y.toNat hu bl rfl y.toNat bl ?_
      rw [show 2 * (u * gL.length + y.toNat) = 2 * (u * gL.length + y.toNat) + 0 from rfl, kkJ, if_pos (by omega), half_div bl (by omega), half_mod bl (by omega), List.mem_append, List.mem_map, List.mem_map]
      exact .inl ⟨y, hy, rfl⟩
end
/-- The first place from v on, k at most. -/
def firstP (p : Nat → Bool) : Nat → Nat → Nat
  | 0, v => v
  | k + 1, v => if p v then v else firstP p k (v + 1)
theorem firstP_yes {p : Nat → Bool} {v : Nat} (h : p v = true) (k : Nat) : firstP p k v = v := by
  cases k with
  | zero => rfl
  | succ k => rw [firstP, if_pos h]
theorem firstP_no {p : Nat → Bool} {u v : Nat} (h : p v = false) (hu : p u = true) (hv : v ≤ u) : v < u ∧ firstP p (u - v) v = firstP p (u - (v + 1)) (v + 1) := by
  have hlt : v < u := by
    rcases Nat.lt_or_ge v u with h' | h'
    · exact h'
    · obtain rfl : v = u := by omega
      rw [h] at hu; cases hu
  refine ⟨hlt, ?_⟩
  rw [show u - v = (u - (v + 1)) + 1 by omega, firstP, if_neg (by rw [h]; decide)]
/-- Whether two places are the same by what is held. -/
def alk (H : List Bool) (m u v : Nat) : Bool := H.getD (2 * (u * m + v) + 1) false && H.getD (2 * (v * m + u) + 1) false
end Go.Proofs.YtpcckakchpblcaaGreatDoor
/- 'At least' is transitive where the middle graph's alternating plays end. For all good loops, in plain lists. -/
namespace Go.Proofs.YtpcckakchpblcaaGreatDoor
set_option linter.unusedSimpArgs false

/-- What keeps itself isn't lost. -/
theorem hold_is2 {nxt n H} (ha : Alt nxt n) (hx : ∀ i, i < n → H.getD i false = true → keepsH nxt H i = true) : ∀ (t : Nat) (i : Nat), i < n → ((fin nxt n).getD i (0, 0)).1 = 2 → ((fin nxt n).getD i (0, 0)).2 ≤ t → H.getD i false = false := by
  intro t
  induction t with
  | zero =>
    intro i hi h2 ht
    cases hH : H.getD i false with
    | false => rfl
    | true =>
      have hk := hx i hi hH
      have hw := fin_wf nxt n i
      unfold keepsH at hk
      by_cases he : i % 2 = 0
      · rw [if_pos he, List.any_eq_true] at hk
        obtain ⟨k, hk, _⟩ := hk
        have h1 : ((fin nxt n).getD i (0, 0)).1 = 3 - mv i := by unfold mv; omega
        have h3 := (fin_lose ha hi h1).1 k hk
        have hw2 := fin_wf nxt n k
        rcases hw2 with hw2 | hw2
        · rw [hw2] at h3; have := h3.1; unfold mv at this; simp at this; omega
        · omega
      · have h1 : ((fin nxt n).getD i (0, 0)).1 = mv i := by unfold mv; omega
        obtain ⟨⟨k, hk, hk1⟩, _⟩ := fin_win ha hi h1
        have hw2 := fin_wf nxt n k
        rw [hk1] at hw2
        rcases hw2 with hw2 | hw2
        · have := congrArg Prod.fst hw2; unfold mv at this; simp at this; omega
        · omega
  | succ t ih =>
    intro i hi h2 ht
    cases hH : H.getD i false with
    | false => rfl
    | true =>
      have hk := hx i hi hH
      unfold keepsH at hk
      by_cases he : i % 2 = 0
      · rw [if_pos he, List.any_eq_true] at hk
        obtain ⟨k, hk, hk2⟩ := hk
        have h1 : ((fin nxt n).getD i (0, 0)).1 = 3 - mv i := by unfold mv; omega
        have h3 := (fin_lose ha hi h1).1 k hk
        have := ih k (ha i k hk).1 (by unfold mv at h3; omega) (by omega)
        rw [this] at hk2; cases hk2
      · rw [if_neg he, List.all_eq_true] at hk
        have h1 : ((fin nxt n).getD i (0, 0)).1 = mv i := by unfold mv; omega
        obtain ⟨⟨k, hkm, hk1⟩, _⟩ := fin_win ha hi h1
        have := ih k (ha i k hkm).1 (by rw [hk1]; unfold mv; omega) (by rw [hk1]; dsimp only; omega)
        have h4 := hk k hkm
        rw [this] at h4; cases h4
section
variable {gL gR hL hR kL kR : List (List Int)}
/-- Left keeps from losing at places of two loops; b = 0: Left is to move, 1: Right. -/
def NLo (gL gR hL hR : List (List Int)) (u v b : Nat) : Prop := ((fin (nxtJ gL gR hL hR) (nJ gL hL)).getD (2 * (u * hL.length + v) + b) (0, 0)).1 ≠ 2
theorem nlo_lt {u v b : Nat} (hu : u < gL.length) (hv : v < hL.length) (hb : b < 2) : 2 * (u * hL.length + v) + b < nJ gL hL := by
  have := mul_lt hu hv
  unfold nJ; omega
theorem hld_holds {nxt : List (List Nat)} {n : Nat} : HoldsAll nxt n (hld nxt n) := fun i hi hf => by
  simp [hld, List.getD_eq_getElem?_getD, hi]
  simpa [List.getD_eq_getElem?_getD] using hf
/-- A measure of a graph's alternating plays. -/
def Ends (hL hR : List (List Int)) (T : Nat → Nat → Nat) : Prop := (∀ v, v < hL.length → ∀ x ∈ hL.getD v [], T x.toNat 1 < T v 0) ∧ ∀ v, v < hL.length → ∀ x ∈ hR.getD v [], T x.toNat 0 < T v 1
end
end Go.Proofs.YtpcckakchpblcaaGreatDoor
/- 'At least' by what keeps itself: with oneself, on at least all, all at least off. For all good loops, in plain lists. -/
namespace Go.Proofs.YtpcckakchpblcaaGreatDoor
set_option linter.unusedSimpArgs false
section
variable {gL gR kL kR : List (List Int)}
open Classical in
/-- The states of two relations, as a list. -/
noncomputable def coH (gL kL : List (List Int)) (ML MR : Nat → Nat → Prop) : List Bool := (List.range (nJ gL kL)).map fun i => if i % 2 = 0 then decide (ML (i / 2 / kL.length) (i / 2 % kL.length)) else decide (MR (i / 2 / kL.length) (i / 2 % kL.length))
theorem coH_at {ML MR : Nat → Nat → Prop} {i : Nat} (hi : i < nJ gL kL) : ((coH gL kL ML MR).getD i false = true ↔ if i % 2 = 0 then ML (i / 2 / kL.length) (i / 2 % kL.length) else MR (i / 2 / kL.length) (i / 2 % kL.length)) := by
  simp only [coH, List.getD_eq_getElem?_getD, List.getElem?_map, List.getElem?_range hi, Option.map_some, Option.getD_some]
  split <;> simp
theorem nlo_co (g : GoodI gL gR) (k : GoodI kL kR) {ML MR : Nat → Nat → Prop}
    (hR : ∀ u w, u < gL.length → w < kL.length → MR u w → (∀ x ∈ gR.getD u [], ML x.toNat w) ∧ ∀ y ∈ kL.getD w [], ML u y.toNat)
    (hL : ∀ u w, u < gL.length → w < kL.length → ML u w → (∃ x ∈ gL.getD u [], MR x.toNat w) ∨ ∃ y ∈ kR.getD w [], MR u y.toNat)
    {u w : Nat} (hu : u < gL.length) (hw : w < kL.length) (h : MR u w) : NLo gL gR kL kR u w 1 := by
  have ha := nxtJ_alt g k
  have hm : 0 < kL.length := k.len1
  have hx : ∀ i, i < nJ gL kL → (coH gL kL ML MR).getD i false = true → keepsH (nxtJ gL gR kL kR) (coH gL kL ML MR) i = true := by
    intro i hi hH
    have hvv : i / 2 % kL.length < kL.length := Nat.mod_lt _ hm
    have huu : i / 2 / kL.length < gL.length := by
      rw [Nat.div_lt_iff_lt_mul hm]; unfold nJ at hi; omega
    rw [coH_at hi] at hH
    rw [← keepsJ g k hi, keepsH, kxJ_at hi, kkJ]
    by_cases he : i % 2 = 0
    · rw [if_pos he] at hH ⊢
      rw [if_pos he, List.any_eq_true]
      rcases hL _ _ huu hvv hH with ⟨x, hx, hM⟩ | ⟨y, hy, hM⟩
      · have hb := g.inL.at_ hx
        have hxl : x.toNat < gL.length := by omega
        refine ⟨_, List.mem_append_left _ (List.mem_map.2 ⟨x, hx, rfl⟩), ?_⟩
        rw [coH_at (nlo_lt hxl hvv (by omega)), if_neg (by omega), half_div hvv (by omega), half_mod hvv (by omega)]
        exact hM
      · have hb := k.inR.at_ hy
        have hyl : y.toNat < kL.length := by have := k.lenR; omega
        refine ⟨_, List.mem_append_right _ (List.mem_map.2 ⟨y, hy, rfl⟩), ?_⟩
        rw [coH_at (nlo_lt huu hyl (by omega)), if_neg (by omega), half_div hyl (by omega), half_mod hyl (by omega)]
        exact hM
    · rw [if_neg he] at hH ⊢
      rw [if_neg he, List.all_eq_true]
      have hM := hR _ _ huu hvv hH
      intro q hq
      rcases List.mem_append.1 hq with hq | hq
      · obtain ⟨x, hx, rfl⟩ := List.mem_map.1 hq
        have hb := g.inR.at_ hx
        have hxl : x.toNat < gL.length := by have := g.lenR; omega
        have e : 2 * (x.toNat * kL.length + i / 2 % kL.length) = 2 * (x.toNat * kL.length + i / 2 % kL.length) + 0 := rfl
        rw [e, coH_at (nlo_lt hxl hvv (by omega)), if_pos (by omega), half_div hvv (by omega), half_mod hvv (by omega)]
        exact hM.1 x hx
      · obtain ⟨y, hy, rfl⟩ := List.mem_map.1 hq
        have hb := k.inL.at_ hy
        have hyl : y.toNat < kL.length := by omega
        have e : 2 * (i / 2 / kL.length * kL.length + y.toNat) = 2 * (i / 2 / kL.length * kL.length + y.toNat) + 0 := rfl
        rw [e, coH_at (nlo_lt huu hyl (by omega)), if_pos (by omega), half_div hyl (by omega), half_mod hyl (by omega)]
        exact hM.2 y hy
  intro h3
  have hi := nlo_lt hu hw (show 1 < 2 by omega)
  have hS : (coH gL kL ML MR).getD (2 * (u * kL.length + w) + 1) false = true := by
    rw [coH_at hi, if_neg (by omega), half_div hw (by omega), half_mod hw (by omega)]
    exact h
  have hw2 := fin_wf (nxtJ gL gR kL kR) (nJ gL kL) (2 * (u * kL.length + w) + 1)
  have h0 : 0 ≤ ((fin (nxtJ gL gR kL kR) (nJ gL kL)).getD (2 * (u * kL.length + w) + 1) (0, 0)).2 := by
    rcases hw2 with hw2 | hw2
    · rw [hw2] at h3; simp at h3
    · exact hw2.2.1
  have := hold_is2 ha hx ((fin (nxtJ gL gR kL kR) (nJ gL kL)).getD (2 * (u * kL.length + w) + 1) (0, 0)).2.toNat _ hi h3 (by omega)
  rw [hS] at this; cases this
/-- At least oneself. -/
theorem nlo_refl (g : GoodI gL gR) {u : Nat} (hu : u < gL.length) : NLo gL gR gL gR u u 1 := by
  refine nlo_co g g (MR := fun a b => a = b) (ML := fun a b => (∃ x ∈ gR.getD b [], x.toNat = a) ∨ ∃ y ∈ gL.getD a [], y.toNat = b) ?_ ?_ hu hu rfl
  · rintro a _ ha _ rfl
    exact ⟨fun x hx => .inl ⟨x, hx, rfl⟩, fun y hy => .inr ⟨y, hy, rfl⟩⟩
  · rintro a b ha hb (⟨x, hx, rfl⟩ | ⟨y, hy, rfl⟩)
    · exact .inr ⟨x, hx, rfl⟩
    · exact .inl ⟨y, hy, rfl⟩
/-- On is at least all. -/
theorem nlo_on (g : GoodI [[0]] [[]]) (k : GoodI kL kR) {w : Nat} (hw : w < kL.length) : NLo [[0]] [[]] kL kR 0 w 1 := by
  refine nlo_co g k (MR := fun a _ => a = 0) (ML := fun a _ => a = 0) ?_ ?_ (by decide) hw rfl
  · rintro a b ha hb rfl
    exact ⟨fun x hx => by simp at hx, fun y hy => rfl⟩
  · rintro a b ha hb rfl
    exact .inl ⟨0, by simp, rfl⟩
/-- All are at least off. -/
theorem nlo_off (g : GoodI gL gR) (k : GoodI [[]] [[0]]) {u : Nat} (hu : u < gL.length) : NLo gL gR [[]] [[0]] u 0 1 := by
  refine nlo_co g k (MR := fun _ b => b = 0) (ML := fun _ b => b = 0) ?_ ?_ hu (by decide) rfl
  · rintro a b ha hb rfl
    exact ⟨fun x hx => rfl, fun y hy => by simp at hy⟩
  · rintro a b ha hb rfl
    exact .inr ⟨0, by simp, rfl⟩
end
end Go.Proofs.YtpcckakchpblcaaGreatDoor
