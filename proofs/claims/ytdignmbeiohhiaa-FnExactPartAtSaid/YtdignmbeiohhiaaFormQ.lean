/- Forms laid out anew: in order just where they come to themselves; parts of forms. For all lists of nodes, in plain lists. -/
import Derived.Test.YtdignmbeiohhiaaFormP
namespace Go.Proofs.Ytdignmbeiohhiaa
set_option linter.unusedSimpArgs false
set_option linter.unusedVariables false

/-- Each node's options rise and stand ahead of it. -/
def OkF (f : List Nd) : Prop := ∀ k, (SN (nd f k).1 ∧ ∀ x ∈ (nd f k).1, x < k) ∧ (SN (nd f k).2 ∧ ∀ x ∈ (nd f k).2, x < k)
def mxb (bn : List Nat) : List Nat → Nat → Nat
  | [], m => m
  | i :: is, m => mxb bn is (max m (bn.getD i 0 + 1))
theorem mxb_congr {bn bn' : List Nat} : ∀ {l : List Nat} {m : Nat}, (∀ i ∈ l, bn.getD i 0 = bn'.getD i 0) → mxb bn l m = mxb bn' l m
  | [], _, _ => rfl
  | i :: is, m, h => by rw [mxb, mxb, h i (by simp), mxb_congr fun j hj => h j (by simp [hj])]
theorem mxb_le {bn : List Nat} : ∀ {l : List Nat} {m : Nat}, m ≤ mxb bn l m ∧ ∀ x ∈ l, bn.getD x 0 + 1 ≤ mxb bn l m
  | [], m => ⟨Nat.le_refl _, fun _ h => nomatch h⟩
  | i :: is, m => by
    obtain ⟨h1, h2⟩ := mxb_le (bn := bn) (l := is) (m := max m (bn.getD i 0 + 1))
    rw [mxb]
    refine ⟨by omega, fun x hx => ?_⟩
    rcases List.mem_cons.1 hx with rfl | hx
    · omega
    · exact h2 x hx
/-- Birthdays. -/
def brn (f : List Nd) : Nat → List Nat
  | 0 => []
  | k + 1 => brn f k ++ [mxb (brn f k) (nd f k).2 (mxb (brn f k) (nd f k).1 0)]
theorem brn_len (f : List Nd) : ∀ k, (brn f k).length = k
  | 0 => rfl
  | k + 1 => by rw [brn, List.length_append, brn_len f k]; rfl
theorem brn_pre (f : List Nd) {j m : Nat} (hj : j < m) : ∀ n, m ≤ n → (brn f n).getD j 0 = (brn f m).getD j 0 := by
  intro n h
  induction h with
  | refl => rfl
  | @step n h ih =>
    have h : m ≤ n := h
    rw [← ih, brn]
    simp only [List.getD_eq_getElem?_getD]
    rw [List.getElem?_append_left (by rw [brn_len]; omega)]
abbrev bnF (f : List Nd) : List Nat := brn f f.length
section
variable {f : List Nd}
theorem bn_eq (ok : OkF f) {k n : Nat} (h : k < n) : (brn f n).getD k 0 = mxb (brn f n) (nd f k).2 (mxb (brn f n) (nd f k).1 0) := by
  rw [brn_pre f (Nat.lt_succ_self k) n h, brn]
  rw [gdp (by rw [List.length_append, brn_len]; simp), List.getElem_append_right (by rw [brn_len]; omega)]
  simp only [brn_len, Nat.sub_self, List.getElem_cons_zero]
  have h1 : ∀ i, i < k → (brn f k).getD i 0 = (brn f n).getD i 0 := fun i hi => (brn_pre f hi n (by omega)).symm
  rw [mxb_congr (bn := brn f k) (bn' := brn f n) fun i hi => h1 i ((ok k).2.2 i hi), mxb_congr (bn := brn f k) (bn' := brn f n) (l := (nd f k).1) fun i hi => h1 i ((ok k).1.2 i hi)]
theorem bn_lt (ok : OkF f) {k n x : Nat} (h : k < n) (hx : x ∈ (nd f k).1 ∨ x ∈ (nd f k).2) : (brn f n).getD x 0 < (brn f n).getD k 0 := by
  rw [bn_eq ok h]
  obtain ⟨a1, a2⟩ := mxb_le (bn := brn f n) (l := (nd f k).2) (m := mxb (brn f n) (nd f k).1 0)
  obtain ⟨b1, b2⟩ := mxb_le (bn := brn f n) (l := (nd f k).1) (m := 0)
  rcases hx with hx | hx
  · have := b2 x hx; omega
  · have := a2 x hx; omega
/-- In order by birthday, then by options. -/
def Srt (f : List Nd) : Prop := ∀ i j, i < j → j < f.length → (bnF f).getD i 0 < (bnF f).getD j 0 ∨ ((bnF f).getD i 0 = (bnF f).getD j 0 ∧ ahd (nd f i) (nd f j) = true)
theorem srt_adj (h : ∀ i, i + 1 < f.length → (bnF f).getD i 0 < (bnF f).getD (i + 1) 0 ∨ ((bnF f).getD i 0 = (bnF f).getD (i + 1) 0 ∧ ahd (nd f i) (nd f (i + 1)) = true)) : Srt f := by
  intro i j hij
  induction hij with
  | refl => exact fun hj => h i hj
  | @step j hij ih =>
    intro hj
    have h1 := ih (by omega)
    have h2 := h j hj
    rcases h1 with h1 | ⟨h1, h3⟩
    · rcases h2 with h2 | ⟨h2, h4⟩
      · left; simp only [Nat.succ_eq_add_one] at *; omega
      · left; simp only [Nat.succ_eq_add_one] at *; omega
    · rcases h2 with h2 | ⟨h2, h4⟩
      · left; simp only [Nat.succ_eq_add_one] at *; omega
      · right; exact ⟨h1.trans h2, ahd_trans h3 h4⟩
theorem srt_mono (h : Srt f) {i j : Nat} (hij : i ≤ j) (hj : j < f.length) : (bnF f).getD i 0 ≤ (bnF f).getD j 0 := by
  rcases Nat.lt_or_ge i j with h1 | h1
  · rcases h i j h1 hj with h2 | h2 <;> omega
  · obtain rfl : i = j := by omega
    exact Nat.le_refl _
theorem bn_same (ok : OkF f) {i j n : Nat} (hi : i < n) (hj : j < n) (e : nd f i = nd f j) : (brn f n).getD i 0 = (brn f n).getD j 0 := by
  rw [bn_eq ok hi, bn_eq ok hj, e]
theorem srt_inj (ok : OkF f) (h : Srt f) {i j : Nat} (hi : i < f.length) (hj : j < f.length) (e : nd f i = nd f j) : i = j := by
  have key : ∀ i j, i < j → j < f.length → nd f i ≠ nd f j := by
    intro i j hij hj e
    rcases h i j hij hj with h1 | ⟨_, h1⟩
    · have := bn_same ok (show i < f.length by omega) hj e
      unfold bnF at h1; omega
    · rw [e, ahd_irr] at h1; cases h1
  rcases Nat.lt_trichotomy i j with h1 | h1 | h1
  · exact absurd e (key i j h1 hj)
  · exact h1
  · exact absurd e.symm (key j i h1 hi)
theorem map_id_of {l : List Nat} {g : Nat → Nat} (h : ∀ x ∈ l, g x = x) : l.map g = l := by
  rw [show l = l.map id from (List.map_id l).symm, List.map_map]
  exact List.map_congr_left fun x hx => h x (by simpa using hx)
theorem xN_id (ok : OkF f) {at_ : List Nat} {k : Nat} (h : ∀ x, x ∈ (nd f k).1 ∨ x ∈ (nd f k).2 → at_.getD x 0 = x) : xN f at_ k = nd f k := by
  unfold xN
  rw [map_id_of fun x hx => h x (.inl hx), map_id_of fun x hx => h x (.inr hx), putNs_id (ok k).1.1, putNs_id (ok k).2.1]
theorem nd_app {a b : List Nd} {k : Nat} (h : k < a.length) : nd (a ++ b) k = a[k] := by
  unfold nd; rw [gdp (by rw [List.length_append]; omega), List.getElem_append_left h]

/-- Laid out anew a form of unlike nodes that all are needed comes to itself only where it is in order. -/
theorem frm_srt (ok : OkF f) {root : Nat} (hN : root + 1 = f.length) (inj : ∀ i j, i < f.length → j < f.length → nd f i = nd f j → i = j) {need : List Bool} (hall : ∀ k, k < f.length → need.getD k false = true) (h : frm f (bnF f) need root = f) : Srt f := by
  have P : ∀ b, b ≤ (bnF f).getD root 0 + 1 → (∀ k, k < f.length → ((bnF f).getD k 0 < b ↔ k < (rndTo f (bnF f) need root b).2.length)) ∧ (∀ k, k < (rndTo f (bnF f) need root b).2.length → (rndTo f (bnF f) need root b).1.getD k 0 = k) ∧
      (∃ t, f = (rndTo f (bnF f) need root b).2 ++ t) ∧ (∀ i j, i < j → j < (rndTo f (bnF f) need root b).2.length → (bnF f).getD i 0 < (bnF f).getD j 0 ∨ ((bnF f).getD i 0 = (bnF f).getD j 0 ∧ ahd (nd f i) (nd f j) = true)) := by
    intro b
    induction b with
    | zero => intro _; exact ⟨fun k _ => by simp [rndTo], fun k hk => by simp [rndTo] at hk, ⟨f, rfl⟩, fun i j _ hj => by simp [rndTo] at hj⟩
    | succ b ih =>
      intro hb
      obtain ⟨i1, i2, i3, i4⟩ := ih (by omega)
      obtain ⟨t, ht⟩ := rndTo_pre f (bnF f) need root (b + 1) _ hb
      have ht : f = (rndTo f (bnF f) need root (b + 1)).2 ++ t := by rw [← ht]; exact h.symm
      have hal := rndTo_atlen f (bnF f) need root b
      rw [rndTo, rnd] at ht ⊢
      generalize rndTo f (bnF f) need root b = q at *
      have hx : ∀ k, k < f.length → (bnF f).getD k 0 = b → xN f q.1 k = nd f k := by
        intro k hk hkb
        refine xN_id ok fun x hx => i2 x ((i1 x ?_).1 ?_)
        · rcases hx with hx | hx
          · have := (ok k).1.2 x hx; omega
          · have := (ok k).2.2 x hx; omega
        · have := bn_lt ok hk hx; unfold bnF at *; omega
      have hm := fun e : Nd × Nat => grp_mem (f := f) (bn := bnF f) (need := need) (at_ := q.1) (b := b) (e := e) (m := root + 1)
      have hpw := grp_pw (f := f) (bn := bnF f) (need := need) (at_ := q.1) (b := b) (m := root + 1) fun i j hij hj _ _ hi1 hj1 => by
        rw [hx i (by omega) hi1, hx j (by omega) hj1]
        exact fun e => by have := inj i j (by omega) (by omega) e; omega
      generalize grp f (bnF f) need q.1 b (root + 1) = g at *
      have hlen : (q.2 ++ g.map (·.1)).length = q.2.length + g.length := by simp
      have hfl : q.2.length + g.length ≤ f.length := by
        have := congrArg List.length ht
        rw [List.length_append, hlen] at this; omega
      have hg : ∀ j (hj : j < g.length), g[j].2 = q.2.length + j ∧ (bnF f).getD (q.2.length + j) 0 = b ∧ g[j].1 = nd f (q.2.length + j) := by
        intro j hj
        obtain ⟨m1, m2, m3, m4⟩ := (hm g[j]).1 (List.getElem_mem hj)
        have e1 : nd f (q.2.length + j) = g[j].1 := by
          rw [ht, nd_app (by rw [hlen]; omega), List.getElem_append_right (by omega)]
          simp
        rw [hx _ (by omega) m3] at m4
        have e2 := inj _ _ (by omega) (by omega) (e1.trans m4)
        exact ⟨e2.symm, by rw [e2]; exact m3, e1.symm⟩
      have hks : g.map (·.2) = List.range' q.2.length g.length := by
        refine List.ext_getElem (by simp) fun j h1 h2 => ?_
        rw [List.getElem_map, List.getElem_range']
        rw [(hg j (by simpa using h1)).1]; omega
      refine ⟨fun k hk => ?_, fun k hk => ?_, ⟨t, ht⟩, fun i j hij hj => ?_⟩
      · rw [hlen]
        constructor
        · intro hkb
          rcases Nat.lt_or_ge ((bnF f).getD k 0) b with h1 | h1
          · have := (i1 k hk).1 h1; omega
          · have hmem := (hm (nd f k, k)).2 ⟨by simp only; omega, hall k hk, by simp only; omega, by simp only; exact (hx k hk (by omega)).symm⟩
            obtain ⟨j, hj, e⟩ := List.getElem_of_mem hmem
            have := (hg j hj).1
            rw [e] at this
            simp only at this; omega
        · intro hkp
          rcases Nat.lt_or_ge k q.2.length with h1 | h1
          · have := (i1 k hk).2 h1; omega
          · have := (hg (k - q.2.length) (by omega)).2.1
            rw [show q.2.length + (k - q.2.length) = k by omega] at this; omega
      · rw [hlen] at hk
        dsimp only
        rcases Nat.lt_or_ge k q.2.length with h1 | h1
        · rw [asg_out _ _ _ (by rw [hks, List.mem_range']; rintro ⟨x, hx, rfl⟩; omega)]
          exact i2 k h1
        · have := asg_at (p := k - q.2.length) (g.map (·.2)) q.1 q.2.length (by rw [hks]; exact List.nodup_range') (fun x hx => by
            rw [hks, List.mem_range'] at hx
            obtain ⟨y, hy, rfl⟩ := hx
            rw [hal]; omega) (by rw [List.length_map]; omega)
          rw [List.getElem_map, (hg _ (by omega)).1, show q.2.length + (k - q.2.length) = k by omega] at this
          exact this
      · rw [hlen] at hj
        rcases Nat.lt_or_ge j q.2.length with h1 | h1
        · exact i4 i j hij h1
        · have b1 := (hg (j - q.2.length) (by omega)).2
          rw [show q.2.length + (j - q.2.length) = j by omega] at b1
          rcases Nat.lt_or_ge i q.2.length with h2 | h2
          · left; have := (i1 i (by omega)).2 h2; omega
          · right
            have b2 := (hg (i - q.2.length) (by omega)).2
            rw [show q.2.length + (i - q.2.length) = i by omega] at b2
            refine ⟨by omega, ?_⟩
            rw [← b1.2, ← b2.2]
            exact List.pairwise_iff_getElem.1 hpw _ _ (by omega) (by omega) (by omega)
  obtain ⟨_, _, _, i4⟩ := P _ (Nat.le_refl _)
  have e : (rndTo f (bnF f) need root ((bnF f).getD root 0 + 1)).2 = f := h
  rw [e] at i4
  exact fun i j hij hj => i4 i j hij hj

/-- How many needed nodes stand ahead. -/
def ned (need : List Bool) (n : Nat) : List Nat := (List.range n).filter fun k => need.getD k false
def rk (need : List Bool) (k : Nat) : Nat := (ned need k).length
def nodeOf (f : List Nd) (need : List Bool) (k : Nat) : Nd := ((nd f k).1.map (rk need), (nd f k).2.map (rk need))
/-- The needed nodes alone, under new places. -/
def partF (f : List Nd) (need : List Bool) (n : Nat) : List Nd := (ned need n).map (nodeOf f need)
theorem ned_succ (need : List Bool) (n : Nat) : ned need (n + 1) = if need.getD n false = true then ned need n ++ [n] else ned need n := by
  unfold ned
  rw [List.range_succ, List.filter_append, List.filter_cons]
  split <;> simp
theorem rk_succ (need : List Bool) (n : Nat) : rk need (n + 1) = if need.getD n false = true then rk need n + 1 else rk need n := by
  unfold rk; rw [ned_succ]; split <;> simp
theorem rk_mono (need : List Bool) {a b : Nat} (h : a ≤ b) : rk need a ≤ rk need b := by
  induction h with
  | refl => exact Nat.le_refl _
  | step _ ih => rw [rk_succ]; split <;> omega
theorem rk_lt {need : List Bool} {a b : Nat} (h : a < b) (ha : need.getD a false = true) : rk need a < rk need b := by
  have h1 := rk_mono need (show a + 1 ≤ b from h)
  rw [rk_succ, if_pos ha] at h1; omega
theorem rk_iff {need : List Bool} {a b : Nat} (ha : need.getD a false = true) (hb : need.getD b false = true) : (a = b ↔ rk need a = rk need b) ∧ (a < b ↔ rk need a < rk need b) := by
  rcases Nat.lt_trichotomy a b with h | h | h
  · have := rk_lt h ha; omega
  · subst h; omega
  · have := rk_lt h hb; omega
theorem ned_at {need : List Bool} : ∀ {n p : Nat} (h : p < (ned need n).length), rk need ((ned need n)[p]) = p
  | 0, p, h => by simp [ned] at h
  | n + 1, p, h => by
    have e := ned_succ need n
    by_cases hn : need.getD n false = true
    · rw [if_pos hn] at e
      rcases Nat.lt_or_ge p (ned need n).length with h1 | h1
      · have : (ned need (n + 1))[p] = (ned need n)[p] := by simp only [e]; rw [List.getElem_append_left h1]
        rw [this]; exact ned_at h1
      · have hp : p = (ned need n).length := by rw [e, List.length_append] at h; simp at h; omega
        have : (ned need (n + 1))[p] = n := by simp only [e]; rw [List.getElem_append_right h1]; simp
        rw [this, hp]; rfl
    · rw [if_neg hn] at e
      have : (ned need (n + 1))[p] = (ned need n)[p]'(by rw [← e]; exact h) := by simp only [e]
      rw [this]; exact ned_at _
theorem sn_filter (p : Nat → Bool) (n : Nat) : SN ((List.range n).filter p) := List.Pairwise.filter p List.pairwise_lt_range
theorem ahd_map {r : Nat → Nat} {a b : Nd} (h1 : ∀ x ∈ a.1, ∀ y ∈ b.1, (x = y ↔ r x = r y) ∧ (x < y ↔ r x < r y)) (h2 : ∀ x ∈ a.2, ∀ y ∈ b.2, (x = y ↔ r x = r y) ∧ (x < y ↔ r x < r y)) : ahd (a.1.map r, a.2.map r) (b.1.map r, b.2.map r) = ahd a b := by
  unfold ahd
  dsimp only
  rw [ltL_map h1, ltL_map h2]
  by_cases e : a.1 = b.1
  · rw [if_pos e, if_pos (by rw [e])]
  · rw [if_neg e, if_neg]
    intro em
    have h3 : ∀ y ∈ b.1, ∀ x ∈ a.1, (y = x ↔ r y = r x) ∧ (y < x ↔ r y < r x) := fun y hy x hx => by
      obtain ⟨u, v⟩ := h1 x hx y hy
      omega
    rcases ltL_tri a.1 b.1 with h | h | h
    · rw [← ltL_map h1, em, ltL_irr] at h; cases h
    · exact e h
    · rw [← ltL_map h3, em, ltL_irr] at h; cases h
/-- What is needed needs its options. -/
def Closed (f : List Nd) (need : List Bool) (n : Nat) : Prop := ∀ k, k < n → need.getD k false = true → ∀ x, x ∈ (nd f k).1 ∨ x ∈ (nd f k).2 → need.getD x false = true
theorem frm_of_srt (ok : OkF f) (srt : Srt f) {root : Nat} (hr : root < f.length) {need : List Bool} (hc : Closed f need (root + 1)) (hn : need.getD root false = true) : frm f (bnF f) need root = partF f need (root + 1) := by
  have hrk : ∀ k, k < root + 1 → need.getD k false = true → SN ((nd f k).1.map (rk need)) ∧ SN ((nd f k).2.map (rk need)) := by
    intro k hk hkn
    constructor
    · rw [SN, List.pairwise_map]
      refine (ok k).1.1.imp_of_mem fun ha _ h => rk_lt h (hc k hk hkn _ (.inl ha))
    · rw [SN, List.pairwise_map]
      refine (ok k).2.1.imp_of_mem fun ha _ h => rk_lt h (hc k hk hkn _ (.inr ha))
  have hah : ∀ i j, i < root + 1 → j < root + 1 → need.getD i false = true → need.getD j false = true → ahd (nodeOf f need i) (nodeOf f need j) = ahd (nd f i) (nd f j) := fun i j hi hj h1 h2 =>
    ahd_map (fun x hx y hy => rk_iff (hc i hi h1 x (.inl hx)) (hc j hj h2 y (.inl hy))) (fun x hx y hy => rk_iff (hc i hi h1 x (.inr hx)) (hc j hj h2 y (.inr hy)))
  have sel_app : ∀ b (p q : Nat → Bool), (∀ k, q k = true → ¬ (bnF f).getD k 0 < b) → (∀ k, p k = true → (bnF f).getD k 0 < b) → (List.range (root + 1)).filter p ++ (List.range (root + 1)).filter q = (List.range (root + 1)).filter (fun k => p k || q k) := by
    intro b p q hq hp
    refine sn_eq ?_ (sn_filter _ _) fun x => ?_
    · rw [SN, List.pairwise_append]
      refine ⟨sn_filter _ _, sn_filter _ _, fun a ha c hcm => ?_⟩
      rw [List.mem_filter, List.mem_range] at ha hcm
      rcases Nat.lt_or_ge a c with h1 | h1
      · exact h1
      · have h2 := srt_mono srt h1 (by omega)
        have h3 := hp a ha.2
        have h4 := hq c hcm.2
        omega
    · simp only [List.mem_append, List.mem_filter, Bool.or_eq_true]
      constructor
      · rintro (h | h)
        · exact ⟨h.1, .inl h.2⟩
        · exact ⟨h.1, .inr h.2⟩
      · rintro ⟨h, h2 | h2⟩
        · exact .inl ⟨h, h2⟩
        · exact .inr ⟨h, h2⟩
  have P : ∀ b, (rndTo f (bnF f) need root b).2 = ((List.range (root + 1)).filter fun k => need.getD k false && decide ((bnF f).getD k 0 < b)).map (nodeOf f need) ∧ ∀ k ∈ (List.range (root + 1)).filter (fun k => need.getD k false && decide ((bnF f).getD k 0 < b)), (rndTo f (bnF f) need root b).1.getD k 0 = rk need k := by
    intro b
    induction b with
    | zero => exact ⟨by simp [rndTo], fun k hk => by simp at hk⟩
    | succ b ih =>
      obtain ⟨i1, i2⟩ := ih
      have hal := rndTo_atlen f (bnF f) need root b
      have e1 := sel_app b (fun k => need.getD k false && decide ((bnF f).getD k 0 < b)) (fun k => need.getD k false && decide ((bnF f).getD k 0 = b)) (fun k hk => by rw [Bool.and_eq_true, decide_eq_true_eq] at hk; omega) (fun k hk => by rw [Bool.and_eq_true, decide_eq_true_eq] at hk; exact hk.2)
      have e2 : (fun k => need.getD k false && decide ((bnF f).getD k 0 < b + 1)) = fun k => (need.getD k false && decide ((bnF f).getD k 0 < b)) || (need.getD k false && decide ((bnF f).getD k 0 = b)) := by
        funext k
        cases need.getD k false with
        | false => rfl
        | true =>
          rw [Bool.true_and, Bool.true_and, Bool.true_and, ← Bool.decide_or]
          congr 1
          exact propext (by omega)
      have e3 := sel_app (b + 1) (fun k => need.getD k false && decide ((bnF f).getD k 0 < b + 1)) (fun k => need.getD k false && !decide ((bnF f).getD k 0 < b + 1)) (fun k hk => by rw [Bool.and_eq_true, Bool.not_eq_true', decide_eq_false_iff_not] at hk; exact hk.2) (fun k hk => by rw [Bool.and_eq_true, decide_eq_true_eq] at hk; exact hk.2)
      have e4 : (List.range (root + 1)).filter (fun k => (need.getD k false && decide ((bnF f).getD k 0 < b + 1)) || (need.getD k false && !decide ((bnF f).getD k 0 < b + 1))) = ned need (root + 1) := by
        unfold ned
        congr 1
        funext k
        cases need.getD k false <;> cases decide ((bnF f).getD k 0 < b + 1) <;> rfl
      rw [e4] at e3
      rw [e2, ← e1] at e3 ⊢
      rw [rndTo, rnd]
      have hselm : ∀ k, k < root + 1 → need.getD k false = true → (bnF f).getD k 0 < b → k ∈ (List.range (root + 1)).filter (fun k => need.getD k false && decide ((bnF f).getD k 0 < b)) := fun k h1 h2 h3 => by
        rw [List.mem_filter, List.mem_range]; exact ⟨h1, by rw [h2, Bool.true_and]; exact decide_eq_true h3⟩
      have hmemE : ∀ k, k ∈ (List.range (root + 1)).filter (fun k => need.getD k false && decide ((bnF f).getD k 0 = b)) ↔ k < root + 1 ∧ need.getD k false = true ∧ (bnF f).getD k 0 = b := fun k => by
        rw [List.mem_filter, List.mem_range, Bool.and_eq_true, decide_eq_true_eq]
      have hsnE := sn_filter (fun k => need.getD k false && decide ((bnF f).getD k 0 = b)) (root + 1)
      have hselL := (congrArg List.length i1).trans (List.length_map _)
      generalize rndTo f (bnF f) need root b = q at *
      have hx : ∀ k, k < root + 1 → need.getD k false = true → (bnF f).getD k 0 = b → xN f q.1 k = nodeOf f need k := by
        intro k hk hkn hkb
        have hopt : ∀ x, x ∈ (nd f k).1 ∨ x ∈ (nd f k).2 → q.1.getD x 0 = rk need x := fun x hx => by
          refine i2 x (hselm x ?_ (hc k hk hkn x hx) ?_)
          · rcases hx with hx | hx
            · have := (ok k).1.2 x hx; omega
            · have := (ok k).2.2 x hx; omega
          · have := bn_lt ok (show k < f.length by omega) hx; unfold bnF at *; omega
        unfold xN nodeOf
        rw [List.map_congr_left (g := rk need) fun x hx => hopt x (.inl hx), List.map_congr_left (g := rk need) (l := (nd f k).2) fun x hx => hopt x (.inr hx), putNs_id (hrk k hk hkn).1, putNs_id (hrk k hk hkn).2]
      have hne : ∀ i j, i < j → j < root + 1 → need.getD i false = true → need.getD j false = true → (bnF f).getD i 0 = b → (bnF f).getD j 0 = b → ahd (nodeOf f need i) (nodeOf f need j) = true := fun i j hij hj h1 h2 h3 h4 => by
        rw [hah i j (by omega) hj h1 h2]
        rcases srt i j hij (by omega) with h5 | h5
        · omega
        · exact h5.2
      have hg : grp f (bnF f) need q.1 b (root + 1) = ((List.range (root + 1)).filter (fun k => need.getD k false && decide ((bnF f).getD k 0 = b))).map fun k => (nodeOf f need k, k) := by
        refine pw_eq (R := AG) (fun a h => by rw [AG, ahd_irr] at h; cases h) (fun a b h h2 => by rw [AG] at h h2; rw [ahd_asy h] at h2; cases h2) _ _ ?_ ?_ fun e => ?_
        · refine grp_pw fun i j hij hj h1 h2 h3 h4 => ?_
          rw [hx i (by omega) h1 h3, hx j hj h2 h4]
          intro e
          have := hne i j hij hj h1 h2 h3 h4
          rw [e, ahd_irr] at this; cases this
        · rw [List.pairwise_map]
          refine hsnE.imp_of_mem fun ha hb h => ?_
          obtain ⟨a1, a2, a3⟩ := (hmemE _).1 ha
          obtain ⟨b1, b2, b3⟩ := (hmemE _).1 hb
          exact hne _ _ h b1 a2 b2 a3 b3
        · rw [grp_mem, List.mem_map]
          constructor
          · rintro ⟨h1, h2, h3, h4⟩
            exact ⟨e.2, (hmemE _).2 ⟨h1, h2, h3⟩, Prod.ext (by rw [h4, hx _ h1 h2 h3]) rfl⟩
          · rintro ⟨k, hk, rfl⟩
            obtain ⟨h1, h2, h3⟩ := (hmemE _).1 hk
            exact ⟨h1, h2, h3, (hx _ h1 h2 h3).symm⟩
      have hks : (grp f (bnF f) need q.1 b (root + 1)).map (·.2) = (List.range (root + 1)).filter (fun k => need.getD k false && decide ((bnF f).getD k 0 = b)) := by
        rw [hg, List.map_map]; exact (List.map_congr_left fun k _ => rfl).trans (List.map_id _)
      refine ⟨?_, fun k hk => ?_⟩
      · dsimp only
        rw [i1, hg, List.map_append]
        congr 1
        rw [List.map_map]; rfl
      · dsimp only
        rw [hks]
        rcases List.mem_append.1 hk with hk | hk
        · rw [asg_out _ _ _ (fun hk2 => by
            have h3 := ((hmemE k).1 hk2).2.2
            rw [List.mem_filter, Bool.and_eq_true, decide_eq_true_eq] at hk
            omega)]
          exact i2 k hk
        · obtain ⟨p, hp, hpk⟩ := List.getElem_of_mem hk
          have h5 := asg_at (p := p) _ q.1 q.2.length (hsnE.imp fun h => Nat.ne_of_lt h) (fun x hx => by rw [hal]; exact ((hmemE x).1 hx).1) hp
          rw [hpk] at h5
          rw [h5, hselL]
          generalize hS : (List.range (root + 1)).filter (fun k => need.getD k false && decide ((bnF f).getD k 0 < b)) = S at *
          generalize hEE : (List.range (root + 1)).filter (fun k => need.getD k false && decide ((bnF f).getD k 0 = b)) = EE at *
          have h6 : S.length + p < (ned need (root + 1)).length := by rw [← e3]; simp only [List.length_append]; omega
          have h7 := ned_at h6
          have h8 : (ned need (root + 1))[S.length + p] = k := by
            simp only [← e3]
            rw [List.getElem_append_left (by rw [List.length_append]; omega), List.getElem_append_right (by omega)]
            simp only [Nat.add_sub_cancel_left]
            exact hpk
          rw [h8] at h7
          exact h7.symm
  unfold frm partF
  rw [(P _).1]
  congr 1
  unfold ned
  refine List.filter_congr fun k hk => ?_
  rw [List.mem_range] at hk
  have := srt_mono srt (show k ≤ root by omega) hr
  rw [decide_eq_true (by omega), Bool.and_true]
end
end Go.Proofs.Ytdignmbeiohhiaa
