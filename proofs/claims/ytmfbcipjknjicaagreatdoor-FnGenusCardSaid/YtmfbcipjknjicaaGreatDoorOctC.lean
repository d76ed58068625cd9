/- A check of the values of many codes at once: planes of bits, one lane for each code. In plain numbers. -/
import Derived.Test.YtmfbcipjknjicaaGreatDoorOctV
namespace Go.Proofs.YtmfbcipjknjicaaGreatDoor
set_option linter.unusedSectionVars false
variable [One Bool]
set_option linter.unusedSimpArgs false
set_option linter.unusedVariables false

noncomputable def frc {α : Type} (x : Nat) (k : Nat → α) : α := Nat.rec (motive := fun _ => α) (k 0) (fun n _ => k (Nat.succ n)) x
theorem frc_eq {α : Type} (x : Nat) (k : Nat → α) : frc x k = k x := by cases x <;> rfl
noncomputable def dmx (W : Nat) (Xs : List Nat) : Nat → Nat → Nat :=
  List.rec (motive := fun _ => Nat → Nat → Nat) (fun _ M => M) (fun X _ ih k M => frc (Nat.land M X) fun H => frc (Nat.lor (Nat.xor M H) (Nat.shiftLeft H k)) fun M' => frc (Nat.add k k) fun k' => ih k' M') Xs
theorem dmx_cons (W X : Nat) (Xs : List Nat) (k M : Nat) : dmx W (X :: Xs) k M = frc (M &&& X) fun H => frc ((M ^^^ H) ||| (H <<< k)) fun M' => frc (k + k) fun k' => dmx W Xs k' M' := rfl
def IsM (W t : Nat) (u : Nat → Nat) (M : Nat) : Prop := ∀ y, M.testBit y = true ↔ y < 2 ^ t * W ∧ y / W = u (y % W) % 2 ^ t
def IsX (W t : Nat) (u : Nat → Nat) (X : Nat) : Prop := ∀ y, y < 2 ^ t * W → (X.testBit y = true ↔ (u (y % W)).testBit t = true)
theorem isM_zero {W : Nat} (u : Nat → Nat) : IsM W 0 u (2 ^ W - 1) := by
  intro y
  rw [Nat.testBit_two_pow_sub_one, decide_eq_true_eq, Nat.pow_zero, Nat.one_mul, Nat.mod_one]
  constructor
  · intro h; exact ⟨h, Nat.div_eq_of_lt h⟩
  · exact fun h => h.1
theorem mod_pow_succ (a t : Nat) : a % 2 ^ (t + 1) = a % 2 ^ t + 2 ^ t * (a / 2 ^ t % 2) := by
  rw [Nat.pow_succ, Nat.mod_mul]
theorem isM_step {W t : Nat} {u : Nat → Nat} {M X : Nat} (hM : IsM W t u M) (hX : IsX W t u X) : IsM W (t + 1) u ((M ^^^ (M &&& X)) ||| ((M &&& X) <<< (2 ^ t * W))) := by
  intro y
  have hp : 0 < 2 ^ t := Nat.two_pow_pos t
  have hbit : ∀ i, (u i).testBit t = true ↔ u i / 2 ^ t % 2 = 1 := fun i => by rw [Nat.testBit_eq_decide_div_mod_eq, decide_eq_true_eq]
  rw [Nat.testBit_or, Nat.testBit_xor, Nat.testBit_and, Nat.testBit_shiftLeft, Nat.testBit_and, Bool.or_eq_true]
  have hpow : 2 ^ (t + 1) * W = 2 ^ t * W + 2 ^ t * W := by rw [Nat.pow_succ]; rw [Nat.mul_assoc, Nat.mul_comm 2 W, ← Nat.mul_assoc]; omega
  rw [mod_pow_succ, hpow]
  by_cases hy : y < 2 ^ t * W
  · have h1 := hM y
    have h2 := hX y hy
    rw [hbit] at h2
    have hlt : y / W < 2 ^ t := by
      rw [Nat.div_lt_iff_lt_mul (by rcases Nat.eq_zero_or_pos W with h | h; · rw [h] at hy; omega
                                    · exact h)]
      exact hy
    have h3 : decide (y ≥ 2 ^ t * W) = false := by simp; exact hy
    rw [h3, Bool.false_and]
    rcases Nat.mod_two_eq_zero_or_one (u (y % W) / 2 ^ t) with h4 | h4
    · have hx : X.testBit y = false := by
        cases hx : X.testBit y with
        | false => rfl
        | true => have := h2.1 hx; omega
      rw [hx, Bool.and_false, Bool.xor_false, h1, h4]
      constructor
      · rintro (h | h)
        · exact ⟨by omega, by omega⟩
        · cases h
      · rintro ⟨_, h⟩; exact .inl ⟨hy, by omega⟩
    · have hx : X.testBit y = true := h2.2 h4
      rw [hx, Bool.and_true, Bool.xor_self, h4]
      constructor
      · rintro (h | h) <;> cases h
      · rintro ⟨_, h⟩; omega
  · have h1 : M.testBit y = false := by
      cases h : M.testBit y with
      | false => rfl
      | true => exact absurd ((hM y).1 h).1 hy
    rw [h1, Bool.false_and, Bool.xor_false]
    have h3 : decide (y ≥ 2 ^ t * W) = true := by simp; omega
    rw [h3, Bool.true_and]
    by_cases hy2 : y - 2 ^ t * W < 2 ^ t * W
    · have hW : 0 < W := by
        rcases Nat.eq_zero_or_pos W with h | h
        · rw [h] at hy2; omega
        · exact h
      have e1 : y = y - 2 ^ t * W + 2 ^ t * W := by omega
      have e2 : y % W = (y - 2 ^ t * W) % W := by
        conv => lhs; rw [e1, Nat.add_mul_mod_self_right]
      have e3 : y / W = (y - 2 ^ t * W) / W + 2 ^ t := by
        conv => lhs; rw [e1, Nat.add_mul_div_right _ _ hW]
      have h5 := hM (y - 2 ^ t * W)
      have h6 := hX (y - 2 ^ t * W) hy2
      rw [hbit] at h6
      rw [e2, e3, Bool.and_eq_true, h5, h6]
      have hlt : u ((y - 2 ^ t * W) % W) % 2 ^ t < 2 ^ t := Nat.mod_lt _ hp
      have hlt2 : (y - 2 ^ t * W) / W < 2 ^ t := by rw [Nat.div_lt_iff_lt_mul hW]; exact hy2
      have hyy : y < 2 ^ t * W + 2 ^ t * W := by omega
      have h4 := Nat.mod_two_eq_zero_or_one (u ((y - 2 ^ t * W) % W) / 2 ^ t)
      generalize (y - 2 ^ t * W) / W = A at *
      generalize u ((y - 2 ^ t * W) % W) % 2 ^ t = B at *
      generalize u ((y - 2 ^ t * W) % W) / 2 ^ t % 2 = C at *
      constructor
      · rintro (h | ⟨⟨_, h⟩, h'⟩)
        · cases h
        · exact ⟨hyy, by rw [h', h]; omega⟩
      · rintro ⟨_, h⟩
        rcases h4 with h4 | h4
        · rw [h4] at h; omega
        · rw [h4] at h; exact .inr ⟨⟨hy2, by omega⟩, h4⟩
    · have h5 : M.testBit (y - 2 ^ t * W) = false := by
        cases h : M.testBit (y - 2 ^ t * W) with
        | false => rfl
        | true => exact absurd ((hM _).1 h).1 hy2
      rw [h5, Bool.false_and]
      constructor
      · rintro (h | h) <;> cases h
      · rintro ⟨h, _⟩; omega
inductive QOk (W : Nat) (u : Nat → Nat) : Nat → List Nat → Prop
  | nil (t) : QOk W u t []
  | cons {t X Xs} (h : IsX W t u X) (hs : QOk W u (t + 1) Xs) : QOk W u t (X :: Xs)
theorem dmx_ok {W : Nat} {u : Nat → Nat} : ∀ {Xs : List Nat} {t M : Nat}, QOk W u t Xs → IsM W t u M → IsM W (t + Xs.length) u (dmx W Xs (2 ^ t * W) M)
  | [], t, M, _, hM => hM
  | X :: Xs, t, M, hq, hM => by
    cases hq with
    | cons hX hs =>
      have h1 := dmx_ok hs (isM_step hM hX)
      have e : 2 ^ (t + 1) * W = 2 ^ t * W + 2 ^ t * W := by rw [Nat.pow_succ, Nat.mul_assoc, Nat.mul_comm 2 W, ← Nat.mul_assoc]; omega
      rw [e, Nat.add_right_comm] at h1
      rw [dmx_cons, frc_eq, frc_eq, frc_eq, List.length_cons, ← Nat.add_assoc]
      exact h1
theorem isM_full {W T : Nat} {u : Nat → Nat} {M : Nat} (h : IsM W T u M) (hu : ∀ i, i < W → u i < 2 ^ T) {x i : Nat} (hi : i < W) : M.testBit (x * W + i) = true ↔ u i = x := by
  have hW : 0 < W := by omega
  have e1 : (x * W + i) % W = i := by rw [Nat.add_comm, Nat.add_mul_mod_self_right, Nat.mod_eq_of_lt hi]
  have e2 : (x * W + i) / W = x := by rw [Nat.add_comm, Nat.add_mul_div_right _ _ hW, Nat.div_eq_of_lt hi, Nat.zero_add]
  rw [h, e1, e2, Nat.mod_eq_of_lt (hu i hi)]
  constructor
  · exact fun h => h.2.symm
  · intro h3
    have := hu i hi
    refine ⟨?_, h3.symm⟩
    have h4 : x * W + W ≤ 2 ^ T * W := by
      have : (x + 1) * W ≤ 2 ^ T * W := Nat.mul_le_mul_right _ (by omega)
      rwa [Nat.add_mul, Nat.one_mul] at this
    omega
def xorQ (p q : List Nat) : List Nat := List.zipWith (· ^^^ ·) p q
theorem xorQ_ok {W : Nat} {u v : Nat → Nat} : ∀ {p q : List Nat} {t : Nat}, QOk W u t p → QOk W v t q → QOk W (fun i => u i ^^^ v i) t (xorQ p q)
  | [], _, _, _, _ => by rw [xorQ]; exact .nil _
  | _ :: _, [], _, _, _ => by rw [xorQ]; exact .nil _
  | X :: p, Y :: q, t, h1, h2 => by
    cases h1 with
    | cons hX h1 =>
      cases h2 with
      | cons hY h2 =>
        rw [xorQ, List.zipWith_cons_cons]
        refine .cons (fun y hy => ?_) (xorQ_ok h1 h2)
        have a := hX y hy
        have b := hY y hy
        rw [Nat.testBit_xor, Nat.testBit_xor]
        rw [Bool.eq_iff_iff.2 a, Bool.eq_iff_iff.2 b]
theorem xorQ_len {p q : List Nat} (h : p.length = q.length) : (xorQ p q).length = p.length := by simp [xorQ, h]
noncomputable def dm2 (W : Nat) (ps : List Nat) : List Nat → Nat → Nat → Nat :=
  List.rec (motive := fun _ => List Nat → Nat → Nat → Nat) (fun _ _ M => M) (fun p _ ih qs k M => List.rec (motive := fun _ => Nat) M (fun q qs' _ => frc (Nat.land M (Nat.xor p q)) fun H => frc (Nat.lor (Nat.xor M H) (Nat.shiftLeft H k)) fun M' => frc (Nat.add k k) fun k' => ih qs' k' M') qs) ps
theorem dm2_eq (W : Nat) : ∀ (p q : List Nat) (k M : Nat), dm2 W p q k M = dmx W (xorQ p q) k M
  | [], _, _, _ => rfl
  | _ :: _, [], _, _ => rfl
  | x :: p, y :: q, k, M => by
    rw [xorQ, List.zipWith_cons_cons, dmx_cons]
    show frc (M &&& (x ^^^ y)) (fun H => frc ((M ^^^ H) ||| (H <<< k)) fun M' => frc (k + k) fun k' => dm2 W p q k' M') = _
    rw [frc_eq, frc_eq, frc_eq, frc_eq, frc_eq, frc_eq]
    exact dm2_eq W p q _ _
noncomputable def spr (W : Nat) (qs : List (List Nat)) : List (List Nat) → Nat → Nat :=
  List.rec (motive := fun _ => List (List Nat) → Nat → Nat) (fun _ acc => acc) (fun q _ ih rs acc => List.rec (motive := fun _ => Nat) acc (fun r rs' _ => frc (Nat.lor acc (dm2 W q r W (Nat.sub (Nat.pow 2 W) 1))) (ih rs')) rs) qs
theorem spr_cons (W : Nat) (q r : List Nat) (qs rs : List (List Nat)) (acc : Nat) : spr W (q :: qs) (r :: rs) acc = frc (acc ||| dmx W (xorQ q r) W (2 ^ W - 1)) (spr W qs rs) := by
  rw [← dm2_eq]; rfl
theorem spr_ok {W T : Nat} {x i : Nat} (hi : i < W) : ∀ (qs rs : List (List Nat)) (us vs : List (Nat → Nat)) (acc : Nat), qs.length ≤ rs.length → us.length = qs.length → vs.length = rs.length →
    (∀ k, (hk : k < qs.length) → qs[k].length = T ∧ QOk W (us.getD k fun _ => 0) 0 qs[k] ∧ ∀ i, i < W → us.getD k (fun _ => 0) i < 2 ^ T) → (∀ k, (hk : k < rs.length) → rs[k].length = T ∧ QOk W (vs.getD k fun _ => 0) 0 rs[k] ∧ ∀ i, i < W → vs.getD k (fun _ => 0) i < 2 ^ T) →
    ((spr W qs rs acc).testBit (x * W + i) = true ↔ acc.testBit (x * W + i) = true ∨ ∃ k, k < qs.length ∧ us.getD k (fun _ => 0) i ^^^ vs.getD k (fun _ => 0) i = x)
  | [], rs, us, vs, acc, _, _, _, _, _ => by rw [show spr W [] rs acc = acc from rfl]; simp
  | q :: qs, [], us, vs, acc, h, _, _, _, _ => by simp at h
  | q :: qs, r :: rs, [], vs, acc, _, h, _, _, _ => by simp at h
  | q :: qs, r :: rs, u :: us, [], acc, _, _, h, _, _ => by simp at h
  | q :: qs, r :: rs, u :: us, v :: vs, acc, h1, h2, h3, h4, h5 => by
    simp only [List.length_cons, Nat.add_le_add_iff_right, Nat.add_right_cancel_iff] at h1 h2 h3
    obtain ⟨a1, a2, a3⟩ := h4 0 (by simp)
    obtain ⟨b1, b2, b3⟩ := h5 0 (by simp)
    simp only [List.getElem_cons_zero, List.getD_cons_zero] at a1 a2 a3 b1 b2 b3
    rw [spr_cons, frc_eq, spr_ok hi qs rs us vs _ h1 h2 h3 (fun k hk => by have := h4 (k + 1) (by simpa using hk); simpa using this) (fun k hk => by have := h5 (k + 1) (by simpa using hk); simpa using this)]
    have hd := dmx_ok (M := 2 ^ W - 1) (xorQ_ok a2 b2) (isM_zero _)
    rw [xorQ_len (by rw [a1, b1]), a1, Nat.zero_add, Nat.pow_zero, Nat.one_mul] at hd
    have hd2 := isM_full (x := x) hd (fun i hi => Nat.xor_lt_two_pow (a3 i hi) (b3 i hi)) hi
    rw [Nat.testBit_or, Bool.or_eq_true, hd2]
    constructor
    · rintro ((h | h) | ⟨k, hk, h⟩)
      · exact .inl h
      · exact .inr ⟨0, by simp, by simpa using h⟩
      · exact .inr ⟨k + 1, by simpa using hk, by simpa using h⟩
    · rintro (h | ⟨k, hk, h⟩)
      · exact .inl (.inl h)
      · cases k with
        | zero => exact .inl (.inr (by simpa using h))
        | succ k => exact .inr ⟨k, by simpa using hk, by simpa using h⟩
noncomputable def mexP (W : Nat) (T : Nat) (S : Nat) (f : Nat) : Nat → Nat → List Nat → Bool × List Nat :=
  Nat.rec (motive := fun _ => Nat → Nat → List Nat → Bool × List Nat) (fun _ nt ps => (Nat.beq nt 0, ps)) (fun _ ih x nt ps => frc (Nat.land (Nat.shiftRight S (Nat.mul x W)) nt) fun h => frc (Nat.xor nt h) fun g => frc (Nat.add x 1) fun x' => ih x' h ((List.range T).zipWith (fun t p => if x.testBit t then Nat.lor p g else p) ps)) f
theorem mexP_zero (W T S x nt : Nat) (ps : List Nat) : mexP W T S 0 x nt ps = (nt == 0, ps) := by
  show (Nat.beq nt 0, ps) = _
  cases nt <;> rfl
theorem mexP_succ (W T S f x nt : Nat) (ps : List Nat) : mexP W T S (f + 1) x nt ps = frc ((S >>> (x * W)) &&& nt) fun h => frc (nt ^^^ h) fun g => frc (x + 1) fun x' => mexP W T S f x' h ((List.range T).zipWith (fun t p => if x.testBit t then p ||| g else p) ps) := rfl
theorem mexP_ok {W T S i : Nat} {m : Nat} (hi : i < W) (hS : ∀ x, S.testBit (x * W + i) = true → x ≠ m) (hS2 : ∀ x, x < m → S.testBit (x * W + i) = true) : ∀ (f x nt : Nat) (ps : List Nat), ps.length = T →
    (nt.testBit i = true ↔ x ≤ m) → (∀ t, t < T → ((ps.getD t 0).testBit i = true ↔ m < x ∧ m.testBit t = true)) → (mexP W T S f x nt ps).1 = true →
    m < x + f ∧ (mexP W T S f x nt ps).2.length = T ∧ ∀ t, t < T → (((mexP W T S f x nt ps).2.getD t 0).testBit i = true ↔ m.testBit t = true)
  | 0, x, nt, ps, hl, h1, h2, h3 => by
    rw [mexP_zero] at h3 ⊢
    have h3 : nt = 0 := by simpa using h3
    subst h3
    rw [Nat.zero_testBit] at h1
    have hm : m < x := by
      apply Classical.byContradiction
      intro h
      have := h1.2 (by omega)
      cases this
    refine ⟨hm, hl, fun t ht => ?_⟩
    rw [h2 t ht]
    exact ⟨fun h => h.2, fun h => ⟨hm, h⟩⟩
  | f + 1, x, nt, ps, hl, h1, h2, h3 => by
    rw [mexP_succ, frc_eq, frc_eq, frc_eq] at h3 ⊢
    have hh : ((S >>> (x * W)) &&& nt).testBit i = true ↔ x + 1 ≤ m := by
      rw [Nat.testBit_and, Nat.testBit_shiftRight, Bool.and_eq_true, h1]
      constructor
      · rintro ⟨a, b⟩
        have := hS x a
        omega
      · intro h
        exact ⟨hS2 x (by omega), by omega⟩
    have hg : (nt ^^^ ((S >>> (x * W)) &&& nt)).testBit i = true ↔ x = m := by
      rw [Nat.testBit_xor]
      cases ha : nt.testBit i <;> cases hb : ((S >>> (x * W)) &&& nt).testBit i <;> rw [ha] at h1 <;> rw [hb] at hh <;> simp at h1 hh ⊢ <;> omega
    have ih := mexP_ok hi hS hS2 f (x + 1) ((S >>> (x * W)) &&& nt) ((List.range T).zipWith (fun t p => if x.testBit t then p ||| (nt ^^^ ((S >>> (x * W)) &&& nt)) else p) ps) (by simp [hl]) hh (fun t ht => by
      have e : (((List.range T).zipWith (fun t p => if x.testBit t then p ||| (nt ^^^ ((S >>> (x * W)) &&& nt)) else p) ps).getD t 0) = if x.testBit t then ps.getD t 0 ||| (nt ^^^ ((S >>> (x * W)) &&& nt)) else ps.getD t 0 := by
        rw [List.getD_eq_getElem?_getD, List.getElem?_zipWith, List.getElem?_range ht, List.getD_eq_getElem?_getD, List.getElem?_eq_getElem (by omega)]
        rfl
      rw [e]
      by_cases hx : x.testBit t = true
      · rw [if_pos hx, Nat.testBit_or, Bool.or_eq_true, h2 t ht, hg]
        constructor
        · rintro (⟨a, b⟩ | rfl)
          · exact ⟨by omega, b⟩
          · exact ⟨by omega, hx⟩
        · rintro ⟨a, b⟩
          by_cases e : x = m
          · exact .inr e
          · exact .inl ⟨by omega, b⟩
      · rw [if_neg hx, h2 t ht]
        constructor
        · rintro ⟨a, b⟩; exact ⟨by omega, b⟩
        · rintro ⟨a, b⟩
          refine ⟨?_, b⟩
          have : x ≠ m := by rintro rfl; exact hx b
          omega) h3
    exact ⟨by omega, ih.2⟩
noncomputable def rpl (W : Nat) (n p : Nat) : Nat := Nat.rec (motive := fun _ => Nat) p (fun n ih => frc ih fun q => Nat.lor q (Nat.shiftLeft q (Nat.mul (Nat.pow 2 n) W))) n
theorem rpl_zero (W p : Nat) : rpl W 0 p = p := rfl
theorem rpl_succ (W n p : Nat) : rpl W (n + 1) p = frc (rpl W n p) fun q => q ||| (q <<< (2 ^ n * W)) := rfl
theorem rpl_ok {W p : Nat} (hW : 0 < W) (hp : p < 2 ^ W) : ∀ n, rpl W n p < 2 ^ (2 ^ n * W) ∧ ∀ y, y < 2 ^ n * W → (rpl W n p).testBit y = p.testBit (y % W)
  | 0 => by
    rw [rpl_zero, Nat.pow_zero, Nat.one_mul]
    exact ⟨hp, fun y hy => by rw [Nat.mod_eq_of_lt hy]⟩
  | n + 1 => by
    obtain ⟨h1, h2⟩ := rpl_ok hW hp n
    rw [rpl_succ, frc_eq]
    have e : 2 ^ (n + 1) * W = 2 ^ n * W + 2 ^ n * W := by rw [Nat.pow_succ, Nat.mul_assoc, Nat.mul_comm 2 W, ← Nat.mul_assoc]; omega
    rw [e]
    refine ⟨?_, fun y hy => ?_⟩
    · refine Nat.or_lt_two_pow (Nat.lt_of_lt_of_le h1 (Nat.pow_le_pow_right (by omega) (by omega))) ?_
      rw [Nat.shiftLeft_eq, Nat.pow_add]
      exact Nat.mul_lt_mul_of_pos_right h1 (Nat.two_pow_pos _)
    · rw [Nat.testBit_or, Nat.testBit_shiftLeft]
      by_cases hy2 : y < 2 ^ n * W
      · have h3 : decide (y ≥ 2 ^ n * W) = false := by simp; exact hy2
        rw [h3, Bool.false_and, Bool.or_false, h2 y hy2]
      · have h3 : decide (y ≥ 2 ^ n * W) = true := by simp; omega
        rw [h3, Bool.true_and, Nat.testBit_lt_two_pow (Nat.lt_of_lt_of_le h1 (Nat.pow_le_pow_right (by omega) (by omega))), Bool.false_or, h2 _ (by omega)]
        congr 1
        conv => rhs; rw [show y = y - 2 ^ n * W + 2 ^ n * W by omega, Nat.add_mul_mod_self_right]
end Go.Proofs.YtmfbcipjknjicaaGreatDoor
