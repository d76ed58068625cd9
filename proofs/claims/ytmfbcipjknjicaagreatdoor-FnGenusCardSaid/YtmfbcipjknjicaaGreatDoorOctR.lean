/- The check of many codes at once, run: what it says of each. In plain numbers. -/
import Derived.Test.YtmfbcipjknjicaaGreatDoorOctC
namespace Go.Proofs.YtmfbcipjknjicaaGreatDoor
set_option linter.unusedSectionVars false
variable [One Bool]
set_option linter.unusedSimpArgs false
set_option linter.unusedVariables false

def optP : List (Nat × Nat × Nat) → List Nat → List Nat → Nat
  | d :: ds, e :: es, s :: ss => Nat.lor (Nat.lor (Nat.land e d.2.1) (Nat.land s d.2.2)) (optP ds es ss)
  | d :: _, _, _ => d.1
  | [], _, _ => 0
noncomputable def frcL {α : Type} : List Nat → (List Nat → α) → α
  | [], k => k []
  | x :: xs, k => frc x fun y => frcL xs fun ys => k (y :: ys)
theorem frcL_eq {α : Type} : ∀ (l : List Nat) (k : List Nat → α), frcL l k = k l
  | [], k => rfl
  | x :: xs, k => by rw [frcL, frc_eq, frcL_eq xs]
noncomputable def runC (W T : Nat) (D : List (Nat × Nat × Nat)) : Nat → Nat → List (List Nat) → List Nat → List Nat → Bool
  | 0, _, _, _, _ => true
  | f + 1, n, Qs, Es, Ss => frc (optP D Es Ss) fun S =>
    match mexP W T S (2 ^ T) 0 (2 ^ W - 1) (List.replicate T 0) with
    | (true, ps) => frcL ((List.range T).zipWith (rpl W) ps) fun Q => frc (dmx W Q W (2 ^ W - 1)) fun E => frc (spr W (Qs.take (n / 2)) Qs.reverse 0) fun S2 => frc (n + 1) fun n' => runC W T D f n' (Q :: Qs) (E :: Es) (S2 :: Ss)
    | (false, _) => false

theorem getD_rep0 {n : Nat} (x : Nat) {j : Nat} (hj : j < n) : (List.replicate n x).getD j 0 = x := by simp [List.getD_eq_getElem?_getD, hj]
theorem optP_ok {W T i x n : Nat} {c : List Int} : ∀ (ds : List (Nat × Nat × Nat)) (j r : Nat) (es ss : List Nat), n = r + j + 1 → es.length = r → ss.length = r → (∀ a, a ≤ r → gv c a < 2 ^ T) →
    (∀ k, (hk : k < es.length) → (es[k].testBit (x * W + i) = true ↔ gv c (r - k) = x)) → (∀ k, (hk : k < ss.length) → (ss[k].testBit (x * W + i) = true ↔ ∃ a, 1 ≤ a ∧ 2 * a ≤ r - k ∧ gv c a ^^^ gv c (r - k - a) = x)) →
    (∀ k, (hk : k < ds.length) → (ds[k].1.testBit (x * W + i) = true ↔ x = 0 ∧ c.getD (j + k) 0 % 2 = 1) ∧ (x < 2 ^ T → (ds[k].2.1.testBit (x * W + i) = true ↔ c.getD (j + k) 0 / 2 % 2 = 1)) ∧ (x < 2 ^ T → (ds[k].2.2.testBit (x * W + i) = true ↔ c.getD (j + k) 0 / 4 % 2 = 1))) →
    ((optP ds es ss).testBit (x * W + i) = true ↔ ∃ k, k < ds.length ∧ ∃ m ∈ mvAt c n (j + k), xorG c m = x)
  | [], j, r, es, ss, _, _, _, _, _, _, _ => by simp [optP]
  | d :: ds, j, 0, es, ss, hn, he, hs, hb, hE, hS, hD => by
    have : es = [] := List.eq_nil_of_length_eq_zero he
    subst this
    have hd := (hD 0 (by simp)).1
    simp only [List.getElem_cons_zero, Nat.add_zero] at hd
    rw [show optP (d :: ds) [] ss = d.1 from rfl, hd]
    constructor
    · rintro ⟨rfl, h⟩
      refine ⟨0, by simp, [], ?_, rfl⟩
      rw [Nat.add_zero, mvAt, if_neg (by omega)]
      refine List.mem_append_left _ ?_
      unfold mvB
      rw [if_pos ⟨h, by omega⟩]; simp
    · rintro ⟨k, hk, m, hm, e⟩
      unfold mvAt at hm
      split at hm
      · cases hm
      · rename_i hr
        have hk0 : k = 0 := by omega
        subst hk0
        rw [Nat.add_zero] at hm
        rcases List.mem_append.1 hm with hm | hm
        · unfold mvB at hm
          rcases List.mem_append.1 hm with hm | hm
          · split at hm
            · rename_i h
              simp at hm; subst hm
              exact ⟨by simpa [xorG] using e.symm, h.1⟩
            · cases hm
          · split at hm
            · rename_i h; omega
            · cases hm
        · split at hm
          · have : (n : Int) - (j : Nat) - 1 = 0 := by omega
            rw [this] at hm
            simp [spl2, splT] at hm
          · cases hm
  | d :: ds, j, r + 1, [], ss, hn, he, hs, hb, hE, hS, hD => by simp at he
  | d :: ds, j, r + 1, e :: es, [], hn, he, hs, hb, hE, hS, hD => by simp at hs
  | d :: ds, j, r + 1, e :: es, s :: ss, hn, he, hs, hb, hE, hS, hD => by
    have hd := hD 0 (by simp)
    have he0 := hE 0 (by simp)
    have hs0 := hS 0 (by simp)
    simp only [List.getElem_cons_zero, Nat.add_zero, Nat.sub_zero] at hd he0 hs0
    have ih := optP_ok (W := W) (T := T) (i := i) (x := x) (n := n) (c := c) ds (j + 1) r es ss (by omega) (by simpa using he) (by simpa using hs) (fun a ha => hb a (by omega))
      (fun k hk => by have := hE (k + 1) (by simpa using hk); simpa [Nat.add_sub_add_right] using this) (fun k hk => by have := hS (k + 1) (by simpa using hk); simpa [Nat.add_sub_add_right] using this)
      (fun k hk => by have := hD (k + 1) (by simpa using hk); rw [show j + 1 + k = j + (k + 1) by omega]; simpa using this)
    rw [show optP (d :: ds) (e :: es) (s :: ss) = ((e &&& d.2.1) ||| (s &&& d.2.2)) ||| optP ds es ss from rfl, Nat.testBit_or, Bool.or_eq_true, ih, Nat.testBit_or, Bool.or_eq_true, Nat.testBit_and, Nat.testBit_and, Bool.and_eq_true, Bool.and_eq_true, he0, hs0]
    have hr : (n : Int) - (j : Nat) - 1 = ((r + 1 : Nat) : Int) := by omega
    have hmv : ∀ m, m ∈ mvAt c n j ↔ (c.getD j 0 / 2 % 2 = 1 ∧ m = [((r + 1 : Nat) : Int)]) ∨ (c.getD j 0 / 4 % 2 = 1 ∧ m ∈ spl2 ((r + 1 : Nat) : Int)) := by
      intro m
      rw [mvAt, if_neg (by omega), hr, List.mem_append, mvB, List.mem_append]
      have h0 : ¬ (c.getD j 0 % 2 = 1 ∧ ((r + 1 : Nat) : Int) = 0) := by omega
      rw [if_neg h0]
      constructor
      · rintro ((h | h) | h)
        · cases h
        · split at h
          · rename_i h1; simp at h; exact .inl ⟨h1.1, by simpa using h⟩
          · cases h
        · split at h
          · rename_i h1; exact .inr ⟨h1, h⟩
          · cases h
      · rintro (⟨h, rfl⟩ | ⟨h, h2⟩)
        · rw [if_pos ⟨h, by omega⟩]; simp
        · rw [if_pos h]; exact .inr h2
    have hspl : ∀ m, m ∈ spl2 ((r + 1 : Nat) : Int) ↔ ∃ a : Nat, 1 ≤ a ∧ 2 * a ≤ r + 1 ∧ m = [(a : Int), ((r + 1 - a : Nat) : Int)] := by
      intro m
      rw [spl2, splT, List.mem_map]
      constructor
      · rintro ⟨a, ha, rfl⟩
        have ha := List.mem_range.1 ha
        refine ⟨a + 1, by omega, by omega, ?_⟩
        have : ((r + 1 : Nat) : Int) - ((a : Int) + 1) = ((r + 1 - (a + 1) : Nat) : Int) := by omega
        rw [this]; rfl
      · rintro ⟨a, h1, h2, rfl⟩
        refine ⟨a - 1, List.mem_range.2 (by omega), ?_⟩
        have e1 : ((a - 1 : Nat) : Int) + 1 = (a : Int) := by omega
        have e2 : ((r + 1 : Nat) : Int) - (a : Int) = ((r + 1 - a : Nat) : Int) := by omega
        rw [e1, e2]
    constructor
    · rintro ((⟨h1, h2⟩ | ⟨⟨a, h1, h2, h3⟩, h4⟩) | ⟨k, hk, m, hm, h⟩)
      · have hx : x < 2 ^ T := by rw [← h1]; exact hb _ (Nat.le_refl _)
        exact ⟨0, by simp, _, (hmv _).2 (.inl ⟨(hd.2.1 hx).1 h2, rfl⟩), by rw [xorG_one]; exact h1⟩
      · have hx : x < 2 ^ T := by rw [← h3]; exact Nat.xor_lt_two_pow (hb _ (by omega)) (hb _ (by omega))
        exact ⟨0, by simp, _, (hmv _).2 (.inr ⟨(hd.2.2 hx).1 h4, (hspl _).2 ⟨a, h1, h2, rfl⟩⟩), by rw [xorG_two]; exact h3⟩
      · exact ⟨k + 1, by simpa using hk, m, by rw [show j + (k + 1) = j + 1 + k by omega]; exact hm, h⟩
    · rintro ⟨k, hk, m, hm, h⟩
      cases k with
      | zero =>
        rw [Nat.add_zero] at hm
        rcases (hmv m).1 hm with ⟨h1, rfl⟩ | ⟨h1, h2⟩
        · rw [xorG_one] at h
          have hx : x < 2 ^ T := by rw [← h]; exact hb _ (Nat.le_refl _)
          exact .inl (.inl ⟨h, (hd.2.1 hx).2 h1⟩)
        · obtain ⟨a, h3, h4, rfl⟩ := (hspl m).1 h2
          rw [xorG_two] at h
          have hx : x < 2 ^ T := by rw [← h]; exact Nat.xor_lt_two_pow (hb _ (by omega)) (hb _ (by omega))
          exact .inl (.inr ⟨⟨a, h3, h4, h⟩, (hd.2.2 hx).2 h1⟩)
      | succ k =>
        exact .inr ⟨k, by simpa using hk, m, by rw [show j + 1 + k = j + (k + 1) by omega]; exact hm, h⟩
theorem mexP_lt {W T S : Nat} : ∀ (f x nt : Nat) (ps : List Nat), nt < 2 ^ W → (∀ p ∈ ps, p < 2 ^ W) → ∀ p ∈ (mexP W T S f x nt ps).2, p < 2 ^ W
  | 0, x, nt, ps, _, h2 => by rw [mexP_zero]; exact h2
  | f + 1, x, nt, ps, h1, h2 => by
    rw [mexP_succ, frc_eq, frc_eq, frc_eq]
    have hh : (S >>> (x * W)) &&& nt < 2 ^ W := Nat.and_lt_two_pow _ h1
    refine mexP_lt f (x + 1) _ _ hh fun p hp => ?_
    rw [List.zipWith_eq_zipWith_take_min] at hp
    obtain ⟨k, hk, rfl⟩ := List.mem_iff_getElem.1 hp
    rw [List.getElem_zipWith]
    have hmem : ((ps.take (min (List.range T).length ps.length))[k]'(by simp at hk ⊢; omega)) ∈ ps := List.mem_of_mem_take (List.getElem_mem _)
    split
    · exact Nat.or_lt_two_pow (h2 _ hmem) (Nat.xor_lt_two_pow h1 hh)
    · exact h2 _ hmem
theorem qok_of {W : Nat} {u : Nat → Nat} : ∀ (Xs : List Nat) (t : Nat), (∀ k, (hk : k < Xs.length) → IsX W (t + k) u Xs[k]) → QOk W u t Xs
  | [], t, _ => .nil t
  | X :: Xs, t, h => .cons (by have := h 0 (by simp); simpa using this) (qok_of Xs (t + 1) fun k hk => by
      have := h (k + 1) (by simpa using hk)
      rw [show t + 1 + k = t + (k + 1) by omega]; simpa using this)
structure InvC (W T n : Nat) (C : Nat → List Int) (Qs : List (List Nat)) (Es Ss : List Nat) : Prop where
  ql : Qs.length = n - 1
  el : Es.length = n - 1
  sl : Ss.length = n - 1
  bd : ∀ i, i < W → ∀ a, a < n → gv (C i) a < 2 ^ T
  q : ∀ k, (hk : k < Qs.length) → Qs[k].length = T ∧ QOk W (fun i => gv (C i) (n - 1 - k)) 0 Qs[k]
  e : ∀ k, (hk : k < Es.length) → ∀ x i, i < W → (Es[k].testBit (x * W + i) = true ↔ gv (C i) (n - 1 - k) = x)
  s : ∀ k, (hk : k < Ss.length) → ∀ x i, i < W → (Ss[k].testBit (x * W + i) = true ↔ ∃ a, 1 ≤ a ∧ 2 * a ≤ n - 1 - k ∧ gv (C i) a ^^^ gv (C i) (n - 1 - k - a) = x)
def DgOk (W T : Nat) (C : Nat → List Int) (D : List (Nat × Nat × Nat)) : Prop := ∀ i, i < W → (C i).length = D.length ∧ ∀ k, (hk : k < D.length) → ∀ x, (D[k].1.testBit (x * W + i) = true ↔ x = 0 ∧ (C i).getD k 0 % 2 = 1) ∧
  (x < 2 ^ T → (D[k].2.1.testBit (x * W + i) = true ↔ (C i).getD k 0 / 2 % 2 = 1)) ∧ (x < 2 ^ T → (D[k].2.2.testBit (x * W + i) = true ↔ (C i).getD k 0 / 4 % 2 = 1))
theorem runC_ok {W T : Nat} {C : Nat → List Int} {D : List (Nat × Nat × Nat)} (hD : DgOk W T C D) : ∀ (f n : Nat) (Qs : List (List Nat)) (Es Ss : List Nat), 1 ≤ n → InvC W T n C Qs Es Ss → runC W T D f n Qs Es Ss = true → ∀ i, i < W → ∀ a, a < n + f → gv (C i) a < 2 ^ T
  | 0, n, Qs, Es, Ss, h1, hI, _ => hI.bd
  | f + 1, n, Qs, Es, Ss, h1, hI, hr => by
    rw [runC, frc_eq] at hr
    generalize hS : optP D Es Ss = S at hr
    cases hm : mexP W T S (2 ^ T) 0 (2 ^ W - 1) (List.replicate T 0) with
    | mk ok ps =>
      rw [hm] at hr
      cases ok with
      | false => cases hr
      | true =>
        simp only [frcL_eq, frc_eq] at hr
        have hopt : ∀ i, i < W → ∀ x, (S.testBit (x * W + i) = true ↔ ∃ m ∈ rawT (C i) n (C i).length, xorG (C i) m = x) := by
          intro i hi x
          have hDi := hD i hi
          rw [← hS, optP_ok (T := T) (n := n) (c := C i) D 0 (n - 1) Es Ss (by omega) hI.el hI.sl (fun a ha => hI.bd i hi a (by omega)) (fun k hk => hI.e k hk x i hi) (fun k hk => hI.s k hk x i hi)
            (fun k hk => by rw [Nat.zero_add]; exact hDi.2 k hk x), hDi.1]
          simp only [Nat.zero_add, rawT, List.mem_flatMap, List.mem_range]
          constructor
          · rintro ⟨k, hk, m, h2, h3⟩; exact ⟨m, ⟨k, hk, h2⟩, h3⟩
          · rintro ⟨m, ⟨k, hk, h2⟩, h3⟩; exact ⟨k, hk, m, h2, h3⟩
        have hmex : ∀ i, i < W → gv (C i) n < 2 ^ T ∧ ps.length = T ∧ ∀ t, t < T → ((ps.getD t 0).testBit i = true ↔ (gv (C i) n).testBit t = true) := by
          intro i hi
          have hnot := mexL_not ((rawT (C i) n (C i).length).map fun m => ((xorG (C i) m : Nat) : Int))
          rw [← gv_eq] at hnot
          have := mexP_ok (W := W) (T := T) (S := S) (i := i) (m := gv (C i) n) hi (fun x hx => by
            rintro rfl
            obtain ⟨m, h2, h3⟩ := (hopt i hi _).1 hx
            exact hnot (List.mem_map.2 ⟨m, h2, by rw [h3]⟩)) (fun x hx => (hopt i hi x).2 (gv_below hx)) (2 ^ T) 0 (2 ^ W - 1) (List.replicate T 0) (by simp) (by rw [Nat.testBit_two_pow_sub_one]; simp [hi])
            (fun t ht => by rw [getD_rep0 _ ht, Nat.zero_testBit]; simp) (by rw [hm])
          rw [hm] at this
          exact ⟨by omega, this.2⟩
        by_cases hW : W = 0
        · intro i hi; omega
        have hW : 0 < W := by omega
        have hpl := (hmex 0 hW).2.1
        have hps : ∀ p ∈ ps, p < 2 ^ W := by
          have := mexP_lt (W := W) (T := T) (S := S) (2 ^ T) 0 (2 ^ W - 1) (List.replicate T 0) (by have := Nat.two_pow_pos W; omega) (fun p hp => by rw [(List.mem_replicate.1 hp).2]; exact Nat.two_pow_pos W)
          rw [hm] at this; exact this
        have hql : ((List.range T).zipWith (rpl W) ps).length = T := by simp [hpl]
        have hq : QOk W (fun i => gv (C i) n) 0 ((List.range T).zipWith (rpl W) ps) := by
          refine qok_of _ _ fun k hk => ?_
          rw [hql] at hk
          rw [Nat.zero_add, List.getElem_zipWith, List.getElem_range]
          intro y hy
          have hpk : ps[k] ∈ ps := List.getElem_mem _
          rw [(rpl_ok hW (hps _ hpk) k).2 y hy]
          have h2 := (hmex (y % W) (Nat.mod_lt _ hW)).2.2 k hk
          rw [List.getD_eq_getElem?_getD, List.getElem?_eq_getElem (by omega), Option.getD_some] at h2
          exact h2
        refine fun i hi a ha => runC_ok hD f (n + 1) _ _ _ (by omega) ⟨?_, ?_, ?_, ?_, ?_, ?_, ?_⟩ hr i hi a (by omega)
        · simp [hI.ql]; omega
        · simp [hI.el]; omega
        · simp [hI.sl]; omega
        · intro i hi a ha
          by_cases e : a = n
          · subst e; exact (hmex i hi).1
          · exact hI.bd i hi a (by omega)
        · intro k hk
          cases k with
          | zero => simp only [List.getElem_cons_zero]; exact ⟨hql, by simpa using hq⟩
          | succ k =>
            have := hI.q k (by simpa using hk)
            rw [List.getElem_cons_succ, show n + 1 - 1 - (k + 1) = n - 1 - k by omega]
            exact this
        · intro k hk x i hi
          cases k with
          | zero =>
            have hd := dmx_ok (M := 2 ^ W - 1) hq (isM_zero _)
            rw [hql, Nat.zero_add, Nat.pow_zero, Nat.one_mul] at hd
            simp only [List.getElem_cons_zero, Nat.add_sub_cancel, Nat.sub_zero]
            exact isM_full hd (fun i hi => (hmex i hi).1) hi
          | succ k =>
            have := hI.e k (by simpa using hk) x i hi
            rw [List.getElem_cons_succ, show n + 1 - 1 - (k + 1) = n - 1 - k by omega]
            exact this
        · intro k hk x i hi
          cases k with
          | zero =>
            simp only [List.getElem_cons_zero, Nat.add_sub_cancel, Nat.sub_zero]
            have hhalf : n / 2 ≤ n - 1 := by omega
            rw [spr_ok (T := T) hi (Qs.take (n / 2)) Qs.reverse ((List.range (n / 2)).map fun k => fun i => gv (C i) (n - 1 - k)) ((List.range (n - 1)).map fun k => fun i => gv (C i) (k + 1)) 0 (by simp [hI.ql]; omega) (by simp [hI.ql]; omega) (by simp [hI.ql])
              (fun k hk => by
                have hk' : k < n / 2 := by simp at hk; omega
                have e : (((List.range (n / 2)).map fun k => fun i => gv (C i) (n - 1 - k)).getD k fun _ => 0) = fun i => gv (C i) (n - 1 - k) := by
                  rw [List.getD_eq_getElem?_getD, List.getElem?_map, List.getElem?_range hk']; rfl
                rw [e, List.getElem_take]
                have := hI.q k (by rw [hI.ql]; omega)
                exact ⟨this.1, this.2, fun i hi => hI.bd i hi _ (by omega)⟩)
              (fun k hk => by
                have hk' : k < n - 1 := by simp [hI.ql] at hk; omega
                have e : (((List.range (n - 1)).map fun k => fun i => gv (C i) (k + 1)).getD k fun _ => 0) = fun i => gv (C i) (k + 1) := by
                  rw [List.getD_eq_getElem?_getD, List.getElem?_map, List.getElem?_range hk']; rfl
                rw [e, List.getElem_reverse]
                have := hI.q (Qs.length - 1 - k) (by rw [hI.ql]; omega)
                rw [show n - 1 - (Qs.length - 1 - k) = k + 1 by rw [hI.ql]; omega] at this
                exact ⟨this.1, this.2, fun i hi => hI.bd i hi _ (by omega)⟩)]
            rw [Nat.zero_testBit]
            constructor
            · rintro (h | ⟨k, hk, h⟩)
              · cases h
              · have hk' : k < n / 2 := by simp at hk; omega
                refine ⟨k + 1, by omega, by omega, ?_⟩
                rw [List.getD_eq_getElem?_getD, List.getElem?_map, List.getElem?_range hk', List.getD_eq_getElem?_getD, List.getElem?_map, List.getElem?_range (by omega)] at h
                rw [Nat.xor_comm, show n - (k + 1) = n - 1 - k by omega]
                exact h
            · rintro ⟨a, h2, h3, h⟩
              refine .inr ⟨a - 1, by simp [hI.ql]; omega, ?_⟩
              rw [List.getD_eq_getElem?_getD, List.getElem?_map, List.getElem?_range (by omega), List.getD_eq_getElem?_getD, List.getElem?_map, List.getElem?_range (by omega)]
              show gv (C i) (n - 1 - (a - 1)) ^^^ gv (C i) (a - 1 + 1) = x
              rw [Nat.xor_comm, show n - 1 - (a - 1) = n - a by omega, show a - 1 + 1 = a by omega]
              exact h
          | succ k =>
            have := hI.s k (by simpa using hk) x i hi
            rw [List.getElem_cons_succ, show n + 1 - 1 - (k + 1) = n - 1 - k by omega]
            exact this
theorem runC_start {W T : Nat} {C : Nat → List Int} {D : List (Nat × Nat × Nat)} (hD : DgOk W T C D) {f : Nat} (h : runC W T D f 1 [] [] [] = true) : ∀ i, i < W → ∀ a, a < 1 + f → gv (C i) a < 2 ^ T :=
  runC_ok hD f 1 [] [] [] (by omega) ⟨rfl, rfl, rfl, fun i hi a ha => by have := gv_le (C i) a; have := Nat.two_pow_pos T; omega, fun k hk => by simp at hk, fun k hk => by simp at hk, fun k hk => by simp at hk⟩ h
end Go.Proofs.YtmfbcipjknjicaaGreatDoor
