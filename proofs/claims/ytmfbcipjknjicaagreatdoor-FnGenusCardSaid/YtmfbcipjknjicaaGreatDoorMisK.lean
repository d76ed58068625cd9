/- What is kept of misere values: under texts (a map), under numbers (a table). In plain lists. -/
import Derived.Test.YtmfbcipjknjicaaGreatDoorMisP
namespace Go.Proofs.YtmfbcipjknjicaaGreatDoor
set_option linter.unusedSectionVars false
variable [One Bool]
set_option linter.unusedSimpArgs false
set_option linter.unusedVariables false

def vld (h : List Int) (t o : Nat) : Prop := posH h ∧ h.sum ≤ 20 ∧ (t = 0 ∧ o = 0 ∨ h.sum ≤ 12 ∧ t + o ≤ 3)
theorem vld_vis {c h p : List Int} {t o : Nat} (hv : vld h t o) (hp : p ∈ vis c h) : vld p t o := by
  obtain ⟨a, b, _⟩ := vis_mem hv.1 hp
  have := hv.2
  unfold vld
  exact ⟨a, by omega, by omega⟩
theorem vld_t1 {h : List Int} {t o : Nat} (hv : vld h t o) (ht : 0 < t) : vld h (t - 1) o ∧ vld h (t - 1) (o + 1) := by
  have := hv.2
  unfold vld
  exact ⟨⟨hv.1, by omega, by omega⟩, hv.1, by omega, by omega⟩
theorem vld_o1 {h : List Int} {t o : Nat} (hv : vld h t o) (ho : 0 < o) : vld h t (o - 1) := by
  have := hv.2
  unfold vld
  exact ⟨hv.1, by omega, by omega⟩
theorem vld_le {h : List Int} {t o : Nat} (hv : vld h t o) : t ≤ 3 ∧ o ≤ 3 ∧ h.length ≤ 20 ∧ ∀ x ∈ h, 0 < x ∧ x ≤ 20 := by
  obtain ⟨h1, h2, h3⟩ := hv
  have hs := sum_nn h1.1
  refine ⟨by omega, by omega, by omega, fun x hx => ⟨h1.1 x hx, ?_⟩⟩
  have := hs.2 x hx; omega

/-! Texts. -/
def byt (n : Int) : UInt8 := UInt8.ofNat (n % 256).toNat
theorem byt_inj {a b : Int} (ha : 0 ≤ a ∧ a ≤ 255) (hb : 0 ≤ b ∧ b ≤ 255) (h : byt a = byt b) : a = b := by
  have h2 := congrArg UInt8.toNat h
  simp only [byt, UInt8.toNat_ofNat'] at h2
  omega
def keyT (h : List Int) (t o : Int) : List UInt8 := byt t :: byt o :: h.map byt
theorem keyT_inj {h h' : List Int} {t o t' o' : Nat} (hv : vld h t o) (hv' : vld h' t' o') (e : keyT h t o = keyT h' t' o') : h = h' ∧ t = t' ∧ o = o' := by
  obtain ⟨a1, a2, a3, a4⟩ := vld_le hv
  obtain ⟨b1, b2, b3, b4⟩ := vld_le hv'
  unfold keyT at e
  simp only [List.cons.injEq] at e
  obtain ⟨e1, e2, e3⟩ := e
  have e1 := byt_inj (by omega) (by omega) e1
  have e2 := byt_inj (by omega) (by omega) e2
  refine ⟨?_, by omega, by omega⟩
  clear hv hv' a3 b3
  induction h generalizing h' with
  | nil => cases h' with
    | nil => rfl
    | cons y ys => simp at e3
  | cons x xs ih => cases h' with
    | nil => simp at e3
    | cons y ys =>
      simp only [List.map_cons, List.cons.injEq] at e3
      have hx := a4 x (by simp)
      have hy := b4 y (by simp)
      rw [byt_inj (by omega) (by omega) e3.1, ih (fun z hz => a4 z (by simp [hz])) (fun z hz => b4 z (by simp [hz])) e3.2]
def memOk (c : List Int) (m : List (List UInt8 × Int)) : Prop := (m.map (·.1)).Nodup ∧ ∀ p ∈ m, ∃ h t o, vld h t o ∧ p.1 = keyT h t o ∧ p.2 = mv c h t o
theorem memOk_nil (c : List Int) : memOk c [] := ⟨by simp, by simp⟩
theorem memOk_at {c : List Int} {m : List (List UInt8 × Int)} (hm : memOk c m) {h : List Int} {t o : Nat} (hv : vld h t o) {v : Int} (hp : (keyT h t o, v) ∈ m) : v = mv c h t o := by
  obtain ⟨h', t', o', hv', e1, e2⟩ := hm.2 _ hp
  obtain ⟨rfl, rfl, rfl⟩ := keyT_inj hv hv' e1
  exact e2

/-! The table's numbers. -/
def cntN (h : List Int) (k : Nat) : Nat := h.count (k : Int)
def keyF (h : List Int) (ks : List Nat) (a : Nat) : Nat := ks.foldl (fun a k => a * (20 / k + 1) + cntN h k) a
def ks20 : List Nat := [1, 2, 3, 4, 5, 6, 7, 8, 9, 10, 11, 12, 13, 14, 15, 16, 17, 18, 19, 20]
def keyN (h : List Int) (t o : Nat) : Nat := keyF h ks20 (8 * t + o)
theorem keyF_inj {h h' : List Int} : ∀ {ks : List Nat} {a a' : Nat}, (∀ k ∈ ks, cntN h k ≤ 20 / k ∧ cntN h' k ≤ 20 / k) → keyF h ks a = keyF h' ks a' → a = a' ∧ ∀ k ∈ ks, cntN h k = cntN h' k
  | [], a, a', _, e => ⟨e, by simp⟩
  | k :: ks, a, a', hb, e => by
    obtain ⟨h1, h2⟩ := hb k (by simp)
    have ih := keyF_inj (ks := ks) (fun q hq => hb q (by simp [hq])) (a := a * (20 / k + 1) + cntN h k) (a' := a' * (20 / k + 1) + cntN h' k) e
    obtain ⟨e1, e2⟩ := ih
    have hq : ∀ (a c R : Nat), c ≤ R → (a * (R + 1) + c) / (R + 1) = a ∧ (a * (R + 1) + c) % (R + 1) = c := fun a c R hc => by
      constructor
      · rw [Nat.add_comm, Nat.add_mul_div_right _ _ (by omega), Nat.div_eq_of_lt (by omega)]; omega
      · rw [Nat.add_comm, Nat.add_mul_mod_self_right, Nat.mod_eq_of_lt (by omega)]
    have q1 := hq a _ _ h1
    have q2 := hq a' _ _ h2
    rw [e1] at q1
    have ea : a = a' := q1.1.symm.trans q2.1
    have ec : cntN h k = cntN h' k := q1.2.symm.trans q2.2
    refine ⟨ea, fun q hq => ?_⟩
    rcases List.mem_cons.1 hq with rfl | hq
    · exact ec
    · exact e2 q hq
theorem cnt_le : ∀ {h : List Int} {k : Nat}, (∀ x ∈ h, 0 < x) → ((cntN h k * k : Nat) : Int) ≤ h.sum
  | [], k, _ => by simp [cntN]
  | x :: xs, k, hp => by
    have ih := cnt_le (h := xs) (k := k) fun y hy => hp y (by simp [hy])
    have hx := hp x (by simp)
    unfold cntN at *
    rw [List.count_cons, List.sum_cons]
    split
    · rename_i e
      have e : x = (k : Int) := by simpa using e
      rw [Nat.add_mul]; omega
    · rw [Nat.add_zero]; omega
theorem cnt_div {h : List Int} {t o k : Nat} (hv : vld h t o) (hk : 0 < k) : cntN h k ≤ 20 / k := by
  have := cnt_le (k := k) hv.1.1
  have h2 := hv.2.1
  rw [Nat.le_div_iff_mul_le hk]; omega
theorem ks20_mem {k : Nat} : k ∈ ks20 ↔ 1 ≤ k ∧ k ≤ 20 := by
  simp only [ks20, List.mem_cons, List.not_mem_nil, or_false]; omega
theorem keyN_inj {h h' : List Int} {t o t' o' : Nat} (hv : vld h t o) (hv' : vld h' t' o') (e : keyN h t o = keyN h' t' o') : h = h' ∧ t = t' ∧ o = o' := by
  obtain ⟨a1, a2, a3, a4⟩ := vld_le hv
  obtain ⟨b1, b2, b3, b4⟩ := vld_le hv'
  obtain ⟨e1, e2⟩ := keyF_inj (fun k hk => by have := (ks20_mem.1 hk).1; exact ⟨cnt_div hv (by omega), cnt_div hv' (by omega)⟩) e
  refine ⟨le_perm_eq ?_ hv.1.2 hv'.1.2, by omega, by omega⟩
  rw [List.perm_iff_count]
  intro x
  by_cases hx : 1 ≤ x ∧ x ≤ 20
  · have := e2 x.toNat (ks20_mem.2 (by omega))
    unfold cntN at this
    rwa [show ((x.toNat : Nat) : Int) = x by omega] at this
  · rw [List.count_eq_zero.2 fun h1 => hx ⟨by have := a4 x h1; omega, (a4 x h1).2⟩, List.count_eq_zero.2 fun h1 => hx ⟨by have := b4 x h1; omega, (b4 x h1).2⟩]
theorem keyF_le (h : List Int) : ∀ (ks : List Nat) (a b : Nat), a ≤ b → (∀ k ∈ ks, cntN h k ≤ 20 / k) → keyF h ks a ≤ ks.foldl (fun a k => a * (20 / k + 1) + 20 / k) b
  | [], a, b, hab, _ => hab
  | k :: ks, a, b, hab, hk => by
    refine keyF_le h ks _ _ ?_ fun q hq => hk q (by simp [hq])
    have := hk k (by simp)
    have := Nat.mul_le_mul_right (20 / k + 1) hab
    show a * (20 / k + 1) + cntN h k ≤ b * (20 / k + 1) + 20 / k
    omega
theorem keyN_lt {h : List Int} {t o : Nat} (hv : vld h t o) : keyN h t o < 1000000000000 := by
  obtain ⟨a1, a2, a3, a4⟩ := vld_le hv
  have := keyF_le h ks20 (8 * t + o) 27 (by omega) fun k hk => cnt_div hv (by have := (ks20_mem.1 hk).1; omega)
  have h2 : ks20.foldl (fun a k => a * (20 / k + 1) + 20 / k) 27 < 1000000000000 := by decide +kernel
  unfold keyN; omega

/-! How many positions there are. -/
def prt : Nat → Nat → Nat → List (List Int)
  | 0, _, _ => [[]]
  | f + 1, n, m => [] :: (List.range (n + 1)).flatMap fun h => if m ≤ h ∧ 1 ≤ h then (prt f (n - h) h).map fun l => (h : Int) :: l else []
theorem prt_mem : ∀ {f n m : Nat} {h : List Int}, h.length ≤ f → h.sum ≤ n → (∀ x ∈ h, (m : Int) ≤ x ∧ 0 < x) → h.Pairwise (· ≤ ·) → h ∈ prt f n m
  | 0, n, m, h, hl, _, _, _ => by
    have : h = [] := List.eq_nil_of_length_eq_zero (by omega)
    subst this; simp [prt]
  | f + 1, n, m, [], _, _, _, _ => by simp [prt]
  | f + 1, n, m, x :: xs, hl, hs, hp, hw => by
    rw [List.pairwise_cons] at hw
    have hx := hp x (by simp)
    have hxs : ∀ y ∈ xs, 0 < y := fun y hy => (hp y (by simp [hy])).2
    have hnn := sum_nn hxs
    rw [List.sum_cons] at hs
    have hh : 0 ≤ xs.sum := by have := hnn.1; omega
    have e : ((x.toNat : Nat) : Int) = x := by omega
    rw [prt]
    refine List.mem_cons_of_mem _ (List.mem_flatMap.2 ⟨x.toNat, List.mem_range.2 (by omega), ?_⟩)
    rw [if_pos (by omega)]
    refine List.mem_map.2 ⟨xs, prt_mem (by simpa using hl) (by omega) (fun y hy => ⟨by rw [e]; exact hw.1 y hy, hxs y hy⟩) hw.2, by rw [e]⟩
def tos : List (Nat × Nat) := [(0, 0), (0, 1), (0, 2), (0, 3), (1, 0), (1, 1), (1, 2), (2, 0), (2, 1), (3, 0)]
def allV : List Nat := (prt 20 20 1).map (fun h => keyN h 0 0) ++ (prt 12 12 1).flatMap fun h => tos.map fun p => keyN h p.1 p.2
theorem allV_len : allV.length ≤ 6000 := by
  have h1 : (prt 20 20 1).length = 2714 := by decide +kernel
  have h2 : (prt 12 12 1).length = 272 := by decide +kernel
  have h3 : ∀ l : List (List Int), (l.flatMap fun h => tos.map fun p => keyN h p.1 p.2).length = 10 * l.length := by
    intro l
    induction l with
    | nil => rfl
    | cons x xs ih => rw [List.flatMap_cons, List.length_append, ih, List.length_map, List.length_cons]; simp [tos]; omega
  rw [allV, List.length_append, List.length_map, h1, h3, h2]; omega
theorem allV_mem {h : List Int} {t o : Nat} (hv : vld h t o) : keyN h t o ∈ allV := by
  have hs := sum_nn hv.1.1
  have hp : ∀ x ∈ h, ((1 : Nat) : Int) ≤ x ∧ 0 < x := fun x hx => by have := hv.1.1 x hx; omega
  rcases hv.2.2 with ⟨rfl, rfl⟩ | ⟨h1, h2⟩
  · exact List.mem_append_left _ (List.mem_map.2 ⟨h, prt_mem (by have := hv.2.1; omega) (by have := hv.2.1; omega) hp hv.1.2, rfl⟩)
  · refine List.mem_append_right _ (List.mem_flatMap.2 ⟨h, prt_mem (by omega) (by omega) hp hv.1.2, List.mem_map.2 ⟨(t, o), ?_, rfl⟩⟩)
    have ht : t ≤ 3 := by omega
    have ho : o ≤ 3 := by omega
    clear hv hs hp h1
    match t, o with
    | 0, 0 | 0, 1 | 0, 2 | 0, 3 | 1, 0 | 1, 1 | 1, 2 | 2, 0 | 2, 1 | 3, 0 => simp [tos]
    | 1, 3 | 2, 2 | 2, 3 | 3, 1 | 3, 2 | 3, 3 => omega
    | 0, o + 4 | 1, o + 4 | 2, o + 4 | 3, o + 4 => omega
    | t + 4, _ => omega

/-! The table. -/
def plN (key d : Nat) : Nat := (key % 8191 + d) % 8192
theorem plN_lt (key d : Nat) : plN key d < 8192 := Nat.mod_lt _ (by omega)
theorem plN_succ (key d : Nat) : plN key (d + 1) = (plN key d + 1) % 8192 := by unfold plN; omega
theorem plN_cover (key : Nat) {j : Nat} (hj : j < 8192) : ∃ d, d < 8192 ∧ plN key d = j :=
  ⟨(j + 8192 - key % 8191) % 8192, Nat.mod_lt _ (by omega), by unfold plN; omega⟩
theorem plN_inj (key : Nat) {a b : Nat} (ha : a < 8192) (hb : b < 8192) (h : plN key a = plN key b) : a = b := by unfold plN at h; omega
structure bookOk (c : List Int) (K V : List Int) : Prop where
  kl : K.length = 8192
  vl : V.length = 8192
  ent : ∀ j, j < 8192 → K.getD j 0 = -1 ∨ ∃ h t o, vld h t o ∧ K.getD j 0 = (keyN h t o : Nat) ∧ V.getD j 0 = mv c h t o
  pth : ∀ j, j < 8192 → ∀ k : Nat, K.getD j 0 = (k : Nat) → ∃ d, d < 8192 ∧ plN k d = j ∧ ∀ e, e < d → 0 ≤ K.getD (plN k e) 0 ∧ K.getD (plN k e) 0 ≠ (k : Nat)
theorem getD_rep (n : Nat) (x : Int) {j : Nat} (hj : j < n) : (List.replicate n x).getD j 0 = x := by simp [List.getD_eq_getElem?_getD, hj]
theorem bookOk_new (c : List Int) : bookOk c (List.replicate 8192 (-1)) (List.replicate 8192 0) where
  kl := List.length_replicate
  vl := List.length_replicate
  ent := fun j hj => .inl (getD_rep _ _ hj)
  pth := fun j hj k hk => by rw [getD_rep _ _ hj] at hk; omega
theorem bookOk.once {c K V : List Int} (b : bookOk c K V) {i j k : Nat} (hi : i < 8192) (hj : j < 8192) (h1 : K.getD i 0 = (k : Nat)) (h2 : K.getD j 0 = (k : Nat)) : i = j := by
  obtain ⟨d, hd, e1, p1⟩ := b.pth i hi k h1
  obtain ⟨d', hd', e2, p2⟩ := b.pth j hj k h2
  rcases Nat.lt_trichotomy d d' with h | h | h
  · exact absurd (by rw [e1]; exact h1) (p2 d h).2
  · subst h; rw [← e1, ← e2]
  · exact absurd (by rw [e2]; exact h2) (p1 d' h).2
theorem bookOk.free {c K V : List Int} (b : bookOk c K V) : ∃ j, j < 8192 ∧ K.getD j 0 = -1 := by
  apply Classical.byContradiction
  intro hno
  have hall : ∀ j, j < 8192 → ∃ h t o, vld h t o ∧ K.getD j 0 = (keyN h t o : Nat) := fun j hj => by
    rcases b.ent j hj with h | ⟨h, t, o, h1, h2, _⟩
    · exact absurd ⟨j, hj, h⟩ hno
    · exact ⟨h, t, o, h1, h2⟩
  have hn : K.Nodup := by
    rw [List.nodup_iff_pairwise_ne, List.pairwise_iff_getElem]
    intro i j hi hj hij e
    obtain ⟨h, t, o, _, h2⟩ := hall i (by rw [b.kl] at hi; exact hi)
    have ei : K.getD i 0 = K[i] := by simp [List.getD_eq_getElem?_getD, hi]
    have ej : K.getD j 0 = K[j] := by simp [List.getD_eq_getElem?_getD, hj]
    have := b.once (i := i) (j := j) (k := keyN h t o) (by rw [b.kl] at hi; exact hi) (by rw [b.kl] at hj; exact hj) h2 (by rw [ej, ← e, ← ei]; exact h2)
    omega
  have := nodup_sub_len hn (m := allV.map fun n : Nat => (n : Int)) fun x hx => by
    obtain ⟨j, hj, rfl⟩ := List.mem_iff_getElem.1 hx
    obtain ⟨h, t, o, h1, h2⟩ := hall j (by rw [b.kl] at hj; exact hj)
    rw [List.getD_eq_getElem?_getD, List.getElem?_eq_getElem hj, Option.getD_some] at h2
    rw [h2]
    exact List.mem_map.2 ⟨_, allV_mem h1, rfl⟩
  rw [b.kl, List.length_map] at this
  have := allV_len
  omega
def stopAt (K : List Int) (key i : Nat) : Prop := K.getD i 0 < 0 ∨ K.getD i 0 = (key : Nat)
theorem bookOk.stop {c K V : List Int} (b : bookOk c K V) (key : Nat) : ∃ d, d < 8192 ∧ stopAt K key (plN key d) ∧ ∀ e, e < d → ¬ stopAt K key (plN key e) := by
  obtain ⟨j, hj, hf⟩ := b.free
  obtain ⟨d0, hd0, e0⟩ := plN_cover key hj
  have key2 : ∀ n d, d < n → stopAt K key (plN key d) → ∃ d', d' ≤ d ∧ stopAt K key (plN key d') ∧ ∀ e, e < d' → ¬ stopAt K key (plN key e) := by
    intro n
    induction n with
    | zero => intro d hd; omega
    | succ n ih =>
      intro d hd hs
      by_cases hx : ∃ e, e < d ∧ stopAt K key (plN key e)
      · obtain ⟨e, he, hs2⟩ := hx
        obtain ⟨d', h1, h2⟩ := ih e (by omega) hs2
        exact ⟨d', by omega, h2⟩
      · exact ⟨d, Nat.le_refl _, hs, fun e he hs2 => hx ⟨e, he, hs2⟩⟩
  obtain ⟨d, h1, h2, h3⟩ := key2 (d0 + 1) d0 (by omega) (by unfold stopAt; rw [e0, hf]; left; omega)
  exact ⟨d, by omega, h2, h3⟩
open Classical in
noncomputable def sltN (K : List Int) (key : Nat) : Nat := if h : ∃ d, d < 8192 ∧ stopAt K key (plN key d) ∧ ∀ e, e < d → ¬ stopAt K key (plN key e) then h.choose else 0
theorem bookOk.slt {c K V : List Int} (b : bookOk c K V) (key : Nat) : sltN K key < 8192 ∧ stopAt K key (plN key (sltN K key)) ∧ ∀ e, e < sltN K key → ¬ stopAt K key (plN key e) := by
  unfold sltN
  rw [dif_pos (b.stop key)]
  exact (b.stop key).choose_spec
noncomputable def plc (K : List Int) (key : Nat) : Nat := plN key (sltN K key)
theorem bookOk.found {c K V : List Int} (b : bookOk c K V) {h : List Int} {t o : Nat} (hv : vld h t o) (hk : K.getD (plc K (keyN h t o)) 0 = (keyN h t o : Nat)) : V.getD (plc K (keyN h t o)) 0 = mv c h t o := by
  rcases b.ent (plc K (keyN h t o)) (plN_lt _ _) with h1 | ⟨h', t', o', hv', h1, h2⟩
  · omega
  · obtain ⟨rfl, rfl, rfl⟩ := keyN_inj hv hv' (by omega)
    exact h2
theorem getD_set2 (K : List Int) (i j : Nat) (x : Int) (hi : i < K.length) : (K.set i x).getD j 0 = if i = j then x else K.getD j 0 := by
  simp only [List.getD_eq_getElem?_getD, List.getElem?_set]
  split
  · rename_i e; subst e; simp [hi]
  · rfl
theorem bookOk.put {c K V : List Int} (b : bookOk c K V) {h : List Int} {t o : Nat} (hv : vld h t o) : bookOk c (K.set (plc K (keyN h t o)) (keyN h t o : Nat)) (V.set (plc K (keyN h t o)) (mv c h t o)) := by
  have hlt : plc K (keyN h t o) < 8192 := plN_lt _ _
  have hK : plc K (keyN h t o) < K.length := by rw [b.kl]; exact hlt
  have hV : plc K (keyN h t o) < V.length := by rw [b.vl]; exact hlt
  obtain ⟨s1, s2, s3⟩ := b.slt (keyN h t o)
  refine ⟨by simp [b.kl], by simp [b.vl], fun j hj => ?_, fun j hj k hk => ?_⟩
  · rw [getD_set2 _ _ _ _ hK, getD_set2 _ _ _ _ hV]
    by_cases e : plc K (keyN h t o) = j
    · rw [if_pos e, if_pos e]; exact .inr ⟨h, t, o, hv, rfl, rfl⟩
    · rw [if_neg e, if_neg e]; exact b.ent j hj
  · rw [getD_set2 _ _ _ _ hK] at hk
    by_cases e : plc K (keyN h t o) = j
    · rw [if_pos e] at hk
      have ek : keyN h t o = k := by omega
      subst ek
      refine ⟨sltN K (keyN h t o), s1, e, fun q hq => ?_⟩
      have h1 := s3 q hq
      unfold stopAt at h1
      have hne : plc K (keyN h t o) ≠ plN (keyN h t o) q := fun e2 => by
        have := plN_inj _ s1 (by omega) e2
        omega
      rw [getD_set2 _ _ _ _ hK, if_neg hne]
      omega
    · rw [if_neg e] at hk
      obtain ⟨d, hd, e1, hp⟩ := b.pth j hj k hk
      refine ⟨d, hd, e1, fun q hq => ?_⟩
      have h1 := hp q hq
      rw [getD_set2 _ _ _ _ hK]
      split
      · rename_i e2
        -- the place was not free, so it held the key already
        have h3 : K.getD (plc K (keyN h t o)) 0 = (keyN h t o : Nat) := by
          rcases s2 with h4 | h4
          · have h4' : K.getD (plc K (keyN h t o)) 0 < 0 := h4
            rw [e2] at h4'; omega
          · exact h4
        rw [← h3, e2]; exact h1
      · exact h1
end Go.Proofs.YtmfbcipjknjicaaGreatDoor
