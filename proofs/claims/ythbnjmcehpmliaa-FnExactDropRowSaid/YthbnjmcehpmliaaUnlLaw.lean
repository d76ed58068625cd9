/- UnlikeRows: the reference and the program tell the same keys; its drawn law. For all rows of the lengths that texts have. -/
import Derived.Test.YthbnjmcehpmliaaUnlike
import Derived.Test.YthbnjmcehpmliaaRwLaws
namespace Go.Proofs.Ythbnjmcehpmliaa
open Eng
attribute [local irreducible] OpS OpG FC FCr Rel Fl Ef DR Fs
set_option linter.unusedSimpArgs false
set_option maxHeartbeats 0
set_option maxRecDepth 100000

theorem bl_iff (p q : List UInt8) : bl p q = true ↔ p < q := by
  induction p generalizing q with
  | nil => cases q with
    | nil => simp [bl_nil]
    | cons b q => simp [bl_nc]
  | cons a p ih => cases q with
    | nil => simp [bl_nil]
    | cons b q =>
      rw [bl_cc, List.cons_lt_cons_iff]
      simp [ih]
theorem le_bl (p q : List UInt8) : decide (p ≤ q) = !bl q p := by
  have h : p ≤ q ↔ ¬ q < p := Iff.rfl
  by_cases hb : bl q p = true
  · have := (bl_iff q p).1 hb
    rw [hb]
    simp [h, this]
  · have h2 : ¬ q < p := fun e => hb ((bl_iff q p).2 e)
    have h3 : bl q p = false := by simpa using hb
    rw [h3]
    simp [h, h2]
/-- Strictly rising texts. -/
abbrev SK (l : List (List UInt8)) : Prop := l.Pairwise fun x y => bl x y = true
theorem sk_eq : ∀ (l m : List (List UInt8)), SK l → SK m → (∀ k, k ∈ l ↔ k ∈ m) → l = m
  | [], [], _, _, _ => rfl
  | [], y :: m, _, _, h => absurd ((h y).2 (by simp)) (by simp)
  | x :: l, [], _, _, h => absurd ((h x).1 (by simp)) (by simp)
  | x :: l, y :: m, h1, h2, h => by
    rw [SK, List.pairwise_cons] at h1 h2
    have e : x = y := by
      rcases List.mem_cons.1 ((h x).1 (by simp)) with e | hx
      · exact e
      · rcases List.mem_cons.1 ((h y).2 (by simp)) with e | hy
        · exact e.symm
        · have a1 := h1.1 y hy
          have a2 := h2.1 x hx
          rw [bl_asymm a1] at a2; cases a2
    subst e
    rw [sk_eq l m h1.2 h2.2 fun k => ?_]
    constructor
    · intro hk
      rcases List.mem_cons.1 ((h k).1 (by simp [hk])) with rfl | hm
      · have := h1.1 k hk; rw [bl_irr] at this; cases this
      · exact hm
    · intro hk
      rcases List.mem_cons.1 ((h k).2 (by simp [hk])) with rfl | hm
      · have := h2.1 k hk; rw [bl_irr] at this; cases this
      · exact hm
theorem srtS_mem (l : List (List UInt8)) (k : List UInt8) : k ∈ srtS l ↔ k ∈ l := List.mem_mergeSort
theorem srtS_sk {l : List (List UInt8)} (h : l.Nodup) : SK (srtS l) := by
  have e : (fun x y : List UInt8 => decide (x ≤ y)) = fun x y => !bl y x := by funext x y; exact le_bl x y
  have h1 : (srtS l).Pairwise fun a b => (!bl b a) = true := by
    unfold srtS
    rw [e]
    refine List.pairwise_mergeSort (fun a b c h1 h2 => ?_) (fun a b => ?_) l
    · have h1 : bl b a = false := by simpa using h1
      have h2 : bl c b = false := by simpa using h2
      cases h3 : bl c a with
      | false => rfl
      | true =>
        rcases bl_tri b a h1 with e | e
        · subst e; rw [h2] at h3; cases h3
        · rw [bl_trans h3 e] at h2; cases h2
    · cases h3 : bl b a with
      | false => rfl
      | true => rw [bl_asymm h3]; rfl
  have h2 : (srtS l).Nodup := (List.mergeSort_perm l _).nodup_iff.2 h
  refine List.Pairwise.imp₂ ?_ h1 h2
  intro a b h3 h4
  have h3 : bl b a = false := by simpa using h3
  rcases bl_tri b a h3 with e | e
  · exact absurd e.symm h4
  · exact e

theorem putRw_keys (k : List UInt8) (acc : List Rw) (x : List UInt8) : x ∈ keysOf (putRw (k, []) acc) ↔ x = k ∨ x ∈ keysOf acc := by
  induction acc with
  | nil => simp [putRw, keysOf]
  | cons q qs ih =>
    simp only [putRw]
    split
    · simp only [keysOf, List.map_cons, List.mem_cons] at ih ⊢
      rw [ih]
      constructor
      · rintro (h | h | h)
        · exact .inr (.inl h)
        · exact .inl h
        · exact .inr (.inr h)
      · rintro (h | h | h)
        · exact .inr (.inl h)
        · exact .inl h
        · exact .inr (.inr h)
    · split
      · rename_i h2
        simp only [keysOf, List.map_cons, List.mem_cons]
        rw [h2]
        constructor
        · rintro (h | h)
          · exact .inl h
          · exact .inr (.inr h)
        · rintro (h | h | h)
          · exact .inl h
          · exact .inl h
          · exact .inr h
      · simp [keysOf]
theorem putRw_sk {r : Rw} {acc : List Rw} (h : SK (keysOf acc)) : SK (keysOf (putRw r acc)) := by
  induction acc with
  | nil => simp [putRw, keysOf, SK]
  | cons q qs ih =>
    simp only [keysOf, List.map_cons, SK, List.pairwise_cons] at h
    have hmem : ∀ x, x ∈ keysOf (putRw r qs) → x = r.1 ∨ x ∈ keysOf qs := by
      intro x hx
      obtain ⟨y, hy, rfl⟩ := List.mem_map.1 hx
      rcases putRw_mem hy with e | hm
      · exact .inl (by rw [e])
      · exact .inr (List.mem_map_of_mem hm)
    simp only [putRw]
    split
    · rename_i h1
      simp only [keysOf, List.map_cons, SK, List.pairwise_cons]
      refine ⟨fun x hx => ?_, ih h.2⟩
      rcases hmem x hx with e | hm
      · rw [e]; exact h1
      · exact h.1 x hm
    · rename_i h1
      split
      · rename_i h2
        simp only [keysOf, List.map_cons, SK, List.pairwise_cons]
        exact ⟨fun x hx => by rw [← h2]; exact h.1 x hx, h.2⟩
      · rename_i h2
        have h3 : bl r.1 q.1 = true := by
          rcases bl_tri q.1 r.1 (by simpa using h1) with e | e
          · exact absurd e h2
          · exact e
        simp only [keysOf, List.map_cons, SK, List.pairwise_cons]
        refine ⟨fun x hx => ?_, h⟩
        rcases List.mem_cons.1 hx with rfl | hx
        · exact h3
        · exact bl_trans h3 (h.1 x hx)
theorem putKs_keys (ks : List (List UInt8)) (acc : List Rw) (x : List UInt8) : x ∈ keysOf (putKs ks acc) ↔ x ∈ ks ∨ x ∈ keysOf acc := by
  induction ks generalizing acc with
  | nil => simp [putKs]
  | cons k ks ih =>
    rw [putKs, ih, putRw_keys, List.mem_cons]
    constructor
    · rintro (h | h | h)
      · exact .inl (.inr h)
      · exact .inl (.inl h)
      · exact .inr h
    · rintro ((h | h) | h)
      · exact .inr (.inl h)
      · exact .inl h
      · exact .inr (.inr h)
theorem putKs_sk (ks : List (List UInt8)) (acc : List Rw) (h : SK (keysOf acc)) : SK (keysOf (putKs ks acc)) := by
  induction ks generalizing acc with
  | nil => exact h
  | cons k ks ih => exact ih _ (putRw_sk h)

theorem srt_sk {l : List Rw} (h : Srt l) : SK (keysOf l) := by
  rw [SK, keysOf, List.pairwise_map, List.pairwise_iff_getElem]
  intro i j hi hj hij
  exact h i j hj hij
theorem sk_nodup {l : List (List UInt8)} (h : SK l) : l.Nodup := by
  refine List.Pairwise.imp ?_ h
  intro a b h e
  subst e
  rw [bl_irr] at h; cases h
theorem wrth_none {l : List Rw} {key : List UInt8} : wrth l key = none → ∀ r ∈ l, r.1 ≠ key := by
  have h : ∀ (m : List Rw) (k : Nat), fndFrom key k m < 0 → ∀ r ∈ m, r.1 ≠ key := by
    intro m
    induction m with
    | nil => simp
    | cons r m ih =>
      intro k hk q hq
      rw [fndFrom] at hk
      split at hk
      · omega
      · rename_i hne
        rcases List.mem_cons.1 hq with rfl | hq
        · exact hne
        · exact ih _ hk q hq
  intro hw
  have hb := fnd_bounds l key
  unfold wrth at hw
  split at hw
  · rename_i hlt
    exact h l 0 hlt
  · rename_i hn
    rw [List.getElem?_eq_getElem (by omega)] at hw
    cases hw
theorem fndFrom_some {key : List UInt8} : ∀ (m : List Rw) (k n : Nat), fndFrom key k m = (n : Int) → ∃ j, ∃ h : j < m.length, n = k + j ∧ m[j].1 = key
  | [], k, n, h => by rw [fndFrom] at h; omega
  | r :: m, k, n, h => by
    rw [fndFrom] at h
    split at h
    · rename_i he; exact ⟨0, by simp, by omega, he⟩
    · obtain ⟨j, hj, h1, h2⟩ := fndFrom_some m (k + 1) n h
      exact ⟨j + 1, by simpa using hj, by omega, by simpa using h2⟩
theorem wrth_some {l : List Rw} {key w : List UInt8} (h : wrth l key = some w) : ∃ r ∈ l, r.1 = key ∧ r.2 = w := by
  have hb := fnd_bounds l key
  unfold wrth at h
  split at h
  · cases h
  · rename_i hn
    obtain ⟨n, hv⟩ := Int.eq_ofNat_of_zero_le (show 0 ≤ fnd l key by omega)
    obtain ⟨j, hj, h1, h2⟩ := fndFrom_some l 0 n hv
    have hnj : n = j := by omega
    subst hnj
    rw [hv, Int.toNat_natCast, List.getElem?_eq_getElem hj] at h
    exact ⟨l[n], List.getElem_mem _, h2, by simpa using h⟩
theorem srt_inj {l : List Rw} (h : Srt l) {r q : Rw} (hr : r ∈ l) (hq : q ∈ l) (e : r.1 = q.1) : r = q := by
  obtain ⟨i, hi, rfl⟩ := List.getElem_of_mem hr
  obtain ⟨j, hj, rfl⟩ := List.getElem_of_mem hq
  rcases Nat.lt_trichotomy i j with h1 | h1 | h1
  · have := h i j hj h1; rw [e, bl_irr] at this; cases this
  · subst h1; rfl
  · have := h j i hi h1; rw [e, bl_irr] at this; cases this
theorem wrth_of_mem {l : List Rw} (h : Srt l) {r : Rw} (hr : r ∈ l) : wrth l r.1 = some r.2 := by
  cases hw : wrth l r.1 with
  | none => exact absurd rfl (wrth_none hw r hr)
  | some w =>
    obtain ⟨q, hq, h1, h2⟩ := wrth_some hw
    rw [srt_inj h hq hr h1] at h2
    rw [h2]
theorem unl_mem (b : List Rw) (alone : Bool) (l : List Rw) (k : List UInt8) : k ∈ unl b alone l ↔ ∃ r ∈ l, r.1 = k ∧ unlC b alone r = true := by
  induction l with
  | nil => simp [unl]
  | cons r rs ih =>
    rw [unl]
    split
    · rename_i h
      rw [List.mem_cons, ih]
      constructor
      · rintro (e | ⟨q, hq, h2⟩)
        · exact ⟨r, by simp, e.symm, h⟩
        · exact ⟨q, by simp [hq], h2⟩
      · rintro ⟨q, hq, h2, h3⟩
        rcases List.mem_cons.1 hq with rfl | hq
        · exact .inl h2.symm
        · exact .inr ⟨q, hq, h2, h3⟩
    · rename_i h
      rw [ih]
      constructor
      · rintro ⟨q, hq, h2⟩
        exact ⟨q, by simp [hq], h2⟩
      · rintro ⟨q, hq, h2, h3⟩
        rcases List.mem_cons.1 hq with rfl | hq
        · exact absurd h3 h
        · exact ⟨q, hq, h2, h3⟩
theorem fnd_neg {l : List Rw} {key : List UInt8} : fnd l key < 0 ↔ wrth l key = none := by
  have hb := fnd_bounds l key
  unfold wrth
  by_cases h : fnd l key < 0
  · rw [if_pos h]; simp [h]
  · rw [if_neg h, List.getElem?_eq_getElem (by omega)]; simp [h]
theorem onl_mem (a l : List Rw) (k : List UInt8) : k ∈ onl a l ↔ ∃ r ∈ l, r.1 = k ∧ wrth a r.1 = none := by
  induction l with
  | nil => simp [onl]
  | cons r rs ih =>
    rw [onl]
    split
    · rename_i h
      rw [List.mem_cons, ih]
      constructor
      · rintro (e | ⟨q, hq, h2⟩)
        · exact ⟨r, by simp, e.symm, fnd_neg.1 h⟩
        · exact ⟨q, by simp [hq], h2⟩
      · rintro ⟨q, hq, h2, h3⟩
        rcases List.mem_cons.1 hq with rfl | hq
        · exact .inl h2.symm
        · exact .inr ⟨q, hq, h2, h3⟩
    · rename_i h
      rw [ih]
      constructor
      · rintro ⟨q, hq, h2⟩
        exact ⟨q, by simp [hq], h2⟩
      · rintro ⟨q, hq, h2, h3⟩
        rcases List.mem_cons.1 hq with rfl | hq
        · exact absurd (fnd_neg.2 h3) h
        · exact ⟨q, hq, h2, h3⟩
theorem unl_sub (b : List Rw) (alone : Bool) (l : List Rw) : (unl b alone l).Sublist (keysOf l) := by
  induction l with
  | nil => simp [unl, keysOf]
  | cons r rs ih =>
    rw [unl, keysOf, List.map_cons]
    split
    · exact ih.cons_cons _
    · exact ih.cons _
theorem onl_sub (a l : List Rw) : (onl a l).Sublist (keysOf l) := by
  induction l with
  | nil => simp [onl, keysOf]
  | cons r rs ih =>
    rw [onl, keysOf, List.map_cons]
    split
    · exact ih.cons_cons _
    · exact ih.cons _
theorem unlike_same (a b : List Rw) : unlikeI a b = unlikeS a b := by
  unfold unlikeI unlikeS
  cases ea : goodRs a with
  | false => rfl
  | true =>
  cases eb : goodRs b with
  | false => rfl
  | true =>
    rw [if_neg (by simp), if_neg (by simp), if_neg (by simp), if_neg (by simp)]
    congr 1
    have sa := goodRs_srt ea
    have sb := goodRs_srt eb
    have nd : (unl b true a ++ onl a b).Nodup := by
      refine List.nodup_append.2 ⟨(unl_sub b true a).nodup (sk_nodup (srt_sk sa)), (onl_sub a b).nodup (sk_nodup (srt_sk sb)), ?_⟩
      intro x hx y hy e
      subst e
      obtain ⟨r, hr, h1, _⟩ := (unl_mem _ _ _ _).1 hx
      obtain ⟨q, hq, h2, h3⟩ := (onl_mem _ _ _).1 hy
      exact wrth_none h3 r hr (by rw [h1, h2])
    refine sk_eq _ _ (srtS_sk nd) (putKs_sk _ _ (by simp [keysOf, SK])) fun k => ?_
    rw [srtS_mem, putKs_keys, List.mem_append, List.mem_append]
    simp only [keysOf, List.map_nil, List.not_mem_nil, or_false]
    constructor
    · rintro (h | h)
      · exact .inl h
      · obtain ⟨r, hr, h1, h2⟩ := (onl_mem _ _ _).1 h
        exact .inr ((unl_mem _ _ _ _).2 ⟨r, hr, h1, by rw [unlC, h2]⟩)
    · rintro (h | h)
      · exact .inl h
      · obtain ⟨r, hr, h1, h2⟩ := (unl_mem _ _ _ _).1 h
        cases hw : wrth a r.1 with
        | none => exact .inr ((onl_mem _ _ _).2 ⟨r, hr, h1, hw⟩)
        | some w =>
          obtain ⟨q, hq, h3, h4⟩ := wrth_some hw
          refine .inl ((unl_mem _ _ _ _).2 ⟨q, hq, by rw [h3, h1], ?_⟩)
          rw [unlC, h3, wrth_of_mem sb hr]
          rw [unlC, hw] at h2
          simp only [decide_eq_true_eq] at h2 ⊢
          rw [h4]
          exact fun e => h2 e.symm
theorem unlikeI_len (a b : List Rw) : ((unlikeI a b).getD []).length ≤ 120 := by
  unfold unlikeI
  split
  · simp
  · split
    · simp
    · rename_i h1 h2
      have := goodRs_len (by simpa using h1)
      have := goodRs_len (by simpa using h2)
      have := unl_len b true a
      have := onl_len a b
      simp only [Option.getD_some, srtS_len, List.length_append]
      omega
theorem lawUnlikeRows_ok (a b : List Rw) (ha : ∀ r ∈ a, lenRw r) (hb : ∀ r ∈ b, lenRw r) : FCr Try.prog 12 [RRws a, RRws b] (RVb true) := by
  have hz := szRowS_ok a 1048576 (by omega) (by omega) ha
  by_cases hza : szRwsr a 1048576 < 0
  · refine (fcr_in Try.func12 rfl (by simp only [Try.ntmps12, anys, List.length_cons, List.length_nil, Nat.reduceAdd, Nat.reduceSub, List.replicate_succ, List.replicate_zero, List.cons_append, List.nil_append] <;> rfl) ?_)
    repeat' first
      | refine w_seq ?_
      | refine w_region ?_
      | refine l_nil ?_
      | refine rt_n ?_
      | refine w_ret ?_
      | refine rt_ret ?_
      | refine w_skip ?_
      | refine w_cond_t rfl ?_
      | refine w_cond_f rfl ?_
      | refine w_cnd rfl (fun hc => ?_) (fun hc => ?_)
      | refine w_cd rfl (fun hc => ?_) (fun hc => ?_)
      | refine w_cn rfl (fun hc => ?_) (fun hc => ?_)
      | refine w_cond rfl (fun hc => ?_) (fun hc => ?_)
      | (exfalso; omega)
      | (refine l_o ?_; first | refine l_op rfl (by first | (apply k_callf; first | exact ops_callz (hfc := hz) | fail) | fail) (hk := ?_) | refine l_op (hk := ?_) | (refine l_g ?_; first | refine l_y rfl rfl rfl ?_ | refine l_n rfl rfl rfl rfl (hk := ?_) | refine l_n' rfl rfl rfl (hk := ?_) | refine l_spnd rfl rfl rfl (h1 := fun hc => ?_) (h2 := fun hc => ?_) | refine l_spd rfl rfl rfl (h1 := fun hc => ?_) (h2 := fun hc => ?_) | refine l_spn rfl rfl rfl (h1 := fun hc => ?_) (h2 := fun hc => ?_) | refine l_sp rfl rfl rfl (h1 := fun hc => ?_) (h2 := fun hc => ?_)))
    refine en_one (hf := Try.results12) (h := ?_); simp only [lget]; first | refine congrArg RVb ?_ | refine congrArg RVi ?_ | skip
  have hle := szRwsr_le a 1048576
  have hz2 := szRowS_ok b (szRwsr a 1048576) (by omega) (by omega) hb
  refine (fcr_in Try.func12 rfl (by simp only [Try.ntmps12, anys, List.length_cons, List.length_nil, Nat.reduceAdd, Nat.reduceSub, List.replicate_succ, List.replicate_zero, List.cons_append, List.nil_append] <;> rfl) ?_)
  repeat' first
    | refine w_seq ?_
    | refine w_region ?_
    | refine l_nil ?_
    | refine rt_n ?_
    | refine w_ret ?_
    | refine rt_ret ?_
    | refine w_skip ?_
    | refine w_cond_t rfl ?_
    | refine w_cond_f rfl ?_
    | refine w_cnd rfl (fun hc => ?_) (fun hc => ?_)
    | refine w_cd rfl (fun hc => ?_) (fun hc => ?_)
    | refine w_cn rfl (fun hc => ?_) (fun hc => ?_)
    | refine w_cond rfl (fun hc => ?_) (fun hc => ?_)
    | (exfalso; omega)
    | (refine l_o ?_; first | refine l_op rfl (by first | (apply k_callf; first | exact ops_callz (hfc := hz) | exact ops_callz (hfc := hz2) | fail) | fail) (hk := ?_) | refine l_op (hk := ?_) | (refine l_g ?_; first | refine l_y rfl rfl rfl ?_ | refine l_n rfl rfl rfl rfl (hk := ?_) | refine l_n' rfl rfl rfl (hk := ?_) | refine l_spnd rfl rfl rfl (h1 := fun hc => ?_) (h2 := fun hc => ?_) | refine l_spd rfl rfl rfl (h1 := fun hc => ?_) (h2 := fun hc => ?_) | refine l_spn rfl rfl rfl (h1 := fun hc => ?_) (h2 := fun hc => ?_) | refine l_sp rfl rfl rfl (h1 := fun hc => ?_) (h2 := fun hc => ?_)))
  · refine en_one (hf := Try.results12) (h := ?_); simp only [lget]; first | refine congrArg RVb ?_ | refine congrArg RVi ?_ | skip
  obtain ⟨a1, a2⟩ := smRws (l := a) (left := 1048576) (by omega) (by omega)
  obtain ⟨b1, b2⟩ := smRws (l := b) (left := szRwsr a 1048576) (by omega) (by omega)
  have hS := specUnlike_ok a b a2 b2
  have hI := implUnlike_ok a b a2 b2
  have hlen := unlikeI_len a b
  rw [← unlike_same] at hS
  generalize (unlikeI a b).getD [] = A at *
  generalize (unlikeI a b).isSome = o at *
  have hH := heldStringS_ok (fromT 1 A.length) 1 (by rw [fromT_length]; omega)
  rw [heldT_fromT, fromT_length, if_pos rfl] at hH
  have l1 := fromT_length 1 A.length
  have t1 := List.take_of_length_le (l := (fromT 1 A.length).map RV.str) (i := A.length) (by simp [l1])
  repeat' first
    | refine w_seq ?_
    | refine w_region ?_
    | refine l_nil ?_
    | refine rt_n ?_
    | refine w_ret ?_
    | refine rt_ret ?_
    | refine w_skip ?_
    | refine w_cond_t rfl ?_
    | refine w_cond_f rfl ?_
    | refine w_cnd rfl (fun hc => ?_) (fun hc => ?_)
    | refine w_cd rfl (fun hc => ?_) (fun hc => ?_)
    | refine w_cn rfl (fun hc => ?_) (fun hc => ?_)
    | refine w_cond rfl (fun hc => ?_) (fun hc => ?_)
    | (refine l_o ?_; first | refine l_op rfl (by first | (apply k_callf; first | exact ops_callz (by simp [view1, viewC, olook, nz, nf, l1, t1]) rfl (by kernel_rfl) hH (by simp [ns]) | exact ops_callm1 (d := 66) 36 ((fromR 1 a.length).map RRw) rfl rfl rfl (by kernel_rfl) (markRowS_ok a 1 (by omega)) (by simp [nm]) (by simp [nm]) (by simp [ns]) (by simp [RV.resOkT, RV.resOk, RV.isAgg, nm]) (by simp [ns]) (by simp [nz, nm]) (by simp [nz, nm]) | exact ops_callm1 (d := 69) 38 ((fromR (1 + 2 * a.length) b.length).map RRw) rfl rfl rfl (by kernel_rfl) (markRowS_ok b (1 + 2 * a.length) (by omega)) (by simp [nm]) (by simp [nm]) (by simp [ns]) (by simp [RV.resOkT, RV.resOk, RV.isAgg, nm]) (by simp [ns]) (by simp [nz, nm]) (by simp [nz, nm]) | exact ops_callm1 (d := 85) 1042 ((fromT 1 A.length).map RV.str) rfl rfl rfl (by kernel_rfl) (markStringS_ok A 1 (by omega)) (by simp [nm]) (by simp [nm]) (by simp [ns]) (by simp [RV.resOkT, RV.resOk, RV.isAgg, nm]) (by simp [ns]) (by simp [nz, nm]) (by simp [nz, nm]) | exact ops_callv (d := 36) (hfc := toRowS_ok a a1) | exact ops_callv (d := 38) (hfc := toRowS_ok b b1) | exact ops_callv (d := 42) (hfc := hI) | exact ops_callz (d := 57) (hfc := eqRowS_ok a a) | exact ops_callz (d := 62) (hfc := eqRowS_ok b b) | exact ops_callz (hfc := toRowS_ok a a1) | exact ops_callz (hfc := toRowS_ok b b1) | exact ops_callz (hfc := hS) | exact ops_callz (hfc := hI) | exact ops_callz (hfc := eqStringS_ok A A) | fail) | fail) (hk := ?_) | refine l_op (hk := ?_) | (refine l_g ?_; first | refine l_y rfl rfl rfl ?_ | refine l_n rfl rfl rfl rfl (hk := ?_) | refine l_n' rfl rfl rfl (hk := ?_) | refine l_spnd rfl rfl rfl (h1 := fun hc => ?_) (h2 := fun hc => ?_) | refine l_spd rfl rfl rfl (h1 := fun hc => ?_) (h2 := fun hc => ?_) | refine l_spn rfl rfl rfl (h1 := fun hc => ?_) (h2 := fun hc => ?_) | refine l_sp rfl rfl rfl (h1 := fun hc => ?_) (h2 := fun hc => ?_)))
  all_goals first
    | exact absurd rfl hc
    | (exfalso; omega)
    | (refine en_one (hf := Try.results12) (h := ?_); simp only [lget]; first | refine congrArg RVb ?_ | refine congrArg RVi ?_ | skip; done)
    | trace_state
end Go.Proofs.Ythbnjmcehpmliaa
