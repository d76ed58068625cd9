/- Plain law: what the program reads as a loop is what the reference reads. No condition. -/
import Derived.Test.YtpcckakchpblcaaGreatDoorNamed
import Derived.Test.YtpcckakchpblcaaGreatDoorRdLpI
namespace Go.Proofs.YtpcckakchpblcaaGreatDoor
open Eng
set_option linter.unusedSimpArgs false
set_option linter.unusedVariables false
set_option maxHeartbeats 0
set_option maxRecDepth 100000

/-- Numbers below 36 in digits. -/
def nt (n : Nat) : List UInt8 := if n < 10 then dg n else dg (n / 10) ++ dg (n % 10)
theorem numI_nt {x : Int} (h : 0 ≤ x ∧ x < 36) : numI x = nt x.toNat := by
  rw [(numI_small h).1, num, nt]
  by_cases c : x.toNat < 10
  · rw [if_pos c, if_pos c]
  · rw [if_neg c, if_neg c, num, if_pos (by omega)]
theorem nt_facts : ∀ k : Fin 36, atoiO (nt k.val) = some (k.val : Int) ∧ rdD (nt k.val) 0 = some k.val ∧ (1 ≤ (nt k.val).length ∧ (nt k.val).length ≤ 6) ∧ (nt k.val).getD 0 0 ≠ 45 ∧ ((nt k.val).all fun b => b != 44 && b != 59 && b != 124) = true := by
  decide +kernel
theorem numI_facts {x : Int} (h : 0 ≤ x ∧ x < 36) : atoiO (numI x) = some x ∧ readI (numI x) = some x ∧ numI x ≠ [] ∧ ∀ b ∈ numI x, b ≠ 44 ∧ b ≠ 59 ∧ b ≠ 124 := by
  have e := numI_nt h
  obtain ⟨k, hk⟩ : ∃ k : Fin 36, k.val = x.toNat := ⟨⟨x.toNat, by omega⟩, rfl⟩
  obtain ⟨f1, f2, f3, f4, f5⟩ := nt_facts k
  rw [hk] at f1 f2 f3 f4 f5
  have ex : (x.toNat : Int) = x := Int.toNat_of_nonneg h.1
  refine ⟨by rw [e, f1, ex], ?_, ?_, ?_⟩
  · rw [readI, if_neg (by rw [e]; exact fun hh => f4 hh.2), e, rdT_yes (v := x) f3 f2 (by simpa using ex), e, if_pos rfl]
  · rw [e]; intro hh; rw [hh] at f3; simp at f3
  · intro b hb
    rw [e] at hb
    have := List.all_eq_true.1 f5 b hb
    simp only [Bool.and_eq_true, bne_iff_ne, ne_eq] at this
    exact ⟨this.1.1, this.1.2, this.2⟩
theorem readI_back {p : List UInt8} {n : Int} (h : readI p = some n) : numI n = p := by
  have key : ∀ T neg, rdT p T neg = some n → numI n = p := by
    intro T neg h
    by_cases hl : 1 ≤ T.length ∧ T.length ≤ 6
    · cases hrd : rdD T 0 with
      | none => rw [rdT_none hrd] at h; cases h
      | some m =>
        rw [rdT_yes hl hrd rfl] at h
        by_cases he : numI (if neg = true then -(m : Int) else m) = p
        · rw [if_pos he] at h
          rw [← Option.some.inj h]; exact he
        · rw [if_neg he] at h; cases h
    · rw [rdT_out hl] at h; cases h
  unfold readI at h
  split at h <;> exact key _ _ h
theorem spl_ne (b : UInt8) : ∀ (s acc : List UInt8), ∃ x r, spl b acc s = x :: r
  | [], acc => ⟨_, _, rfl⟩
  | c :: cs, acc => by
    rw [spl]
    split
    · exact ⟨_, _, rfl⟩
    · exact spl_ne b cs _
theorem spl_app (b : UInt8) (r : List UInt8) : ∀ (x acc : List UInt8), (∀ c ∈ x, c ≠ b) → spl b acc (x ++ b :: r) = (acc ++ x) :: spl b [] r
  | [], acc, _ => by rw [List.nil_append, spl, if_pos rfl, List.append_nil]
  | c :: x, acc, h => by
    rw [List.cons_append, spl, if_neg (h c (by simp)), spl_app b r x _ (fun d hd => h d (by simp [hd]))]
    simp
theorem spl_end (b : UInt8) : ∀ (x acc : List UInt8), (∀ c ∈ x, c ≠ b) → spl b acc x = [acc ++ x]
  | [], acc, _ => by rw [spl, List.append_nil]
  | c :: x, acc, h => by
    rw [spl, if_neg (h c (by simp)), spl_end b x _ (fun d hd => h d (by simp [hd]))]
    simp
theorem join_cc (x y : List UInt8) (r : List (List UInt8)) (sep : List UInt8) : Lib.join (x :: y :: r) sep = x ++ (sep ++ Lib.join (y :: r) sep) := by
  rw [Lib.join_cons, Lib.join_cons]
  simp [Lib.joinTail]
theorem spl_join (b : UInt8) : ∀ (l : List (List UInt8)), l ≠ [] → (∀ x ∈ l, ∀ c ∈ x, c ≠ b) → spl b [] (Lib.join l [b]) = l
  | [], h, _ => absurd rfl h
  | [x], _, h => by rw [Lib.join_one, spl_end b x [] (h x (by simp)), List.nil_append]
  | x :: y :: r, _, h => by
    rw [join_cc, List.singleton_append, spl_app b _ x [] (h x (by simp)), spl_join b (y :: r) (by simp) (fun z hz => h z (by simp only [List.mem_cons] at hz ⊢; exact .inr hz)), List.nil_append]
theorem join_spl (b : UInt8) : ∀ (s acc : List UInt8), Lib.join (spl b acc s) [b] = acc ++ s
  | [], acc => by rw [spl, Lib.join_one, List.append_nil]
  | c :: cs, acc => by
    rw [spl]
    split
    · rename_i e
      obtain ⟨x, r, hx⟩ := spl_ne b cs []
      rw [hx, join_cc, ← hx, join_spl b cs [], e]
      simp
    · rw [join_spl b cs _]; simp
theorem join_mem {b : UInt8} {l : List (List UInt8)} {sep : List UInt8} (h : b ∈ Lib.join l sep) : b ∈ sep ∨ ∃ x ∈ l, b ∈ x := by
  match l, h with
  | [], h => simp [Lib.join_nil] at h
  | x :: r, h =>
    rw [Lib.join_cons, List.mem_append] at h
    rcases h with h | h
    · exact .inr ⟨x, by simp, h⟩
    · simp only [Lib.joinTail, List.mem_flatten, List.mem_map] at h
      obtain ⟨z, ⟨y, hy, rfl⟩, hz⟩ := h
      rcases List.mem_append.1 hz with hz | hz
      · exact .inl hz
      · exact .inr ⟨y, by simp [hy], hz⟩
abbrev Sm (l : List Int) : Prop := ∀ x ∈ l, 0 ≤ x ∧ x < 36
theorem numsT_no {l : List Int} (h : Sm l) : ∀ b ∈ numsT l, b ≠ 59 ∧ b ≠ 124 := by
  intro b hb
  rcases join_mem hb with hb | ⟨x, hx, hb⟩
  · simp only [List.mem_singleton] at hb; subst hb; decide
  · rw [List.mem_map] at hx
    obtain ⟨y, hy, rfl⟩ := hx
    exact ((numI_facts (h y hy)).2.2.2 b hb).2
theorem numsT_nil {l : List Int} (h : Sm l) : numsT l = [] ↔ l = [] := by
  constructor
  · intro hh
    match l, h, hh with
    | [], _, _ => rfl
    | x :: r, h, hh =>
      rw [numsT, List.map_cons, Lib.join_cons] at hh
      exact absurd (List.append_eq_nil_iff.1 hh).1 (numI_facts (h x (by simp))).2.2.1
  · rintro rfl; rfl
theorem numsT_spl {l : List Int} (h : Sm l) (h0 : l ≠ []) : spl 44 [] (numsT l) = l.map numI := by
  refine spl_join 44 _ (fun e => h0 (List.map_eq_nil_iff.1 e)) ?_
  intro x hx c hc
  rw [List.mem_map] at hx
  obtain ⟨y, hy, rfl⟩ := hx
  exact ((numI_facts (h y hy)).2.2.2 c hc).1
theorem listI_numsT {l : List Int} (h : Sm l) : listI (numsT l) = some l := by
  unfold listI
  by_cases h0 : l = []
  · subst h0; rfl
  · rw [if_neg (fun e => h0 ((numsT_nil h).1 e)), numsT_spl h h0]
    have key : ∀ l : List Int, Sm l → rdAll (l.map numI) = some l := by
      intro l
      induction l with
      | nil => intro _; rfl
      | cons x r ih =>
        intro h
        rw [List.map_cons, rdAll, (numI_facts (h x (by simp))).2.1, ih fun y hy => h y (by simp [hy])]
        rfl
    exact key l h
theorem looseL_numsT {l : List Int} (h : Sm l) : looseL (numsT l) = some l := by
  unfold looseL
  by_cases h0 : l = []
  · subst h0; rfl
  · rw [if_neg (fun e => h0 ((numsT_nil h).1 e)), numsT_spl h h0]
    have key : ∀ l : List Int, Sm l → atAll (l.map numI) = some l := by
      intro l
      induction l with
      | nil => intro _; rfl
      | cons x r ih =>
        intro h
        rw [List.map_cons, atAll, (numI_facts (h x (by simp))).1, ih fun y hy => h y (by simp [hy])]
        rfl
    exact key l h
theorem listI_back {x : List UInt8} {l : List Int} (h : listI x = some l) : numsT l = x := by
  unfold listI at h
  by_cases h0 : x = []
  · rw [if_pos h0] at h; cases h; rw [h0]; rfl
  · rw [if_neg h0] at h
    have key : ∀ (ps : List (List UInt8)) (l : List Int), rdAll ps = some l → l.map numI = ps := by
      intro ps
      induction ps with
      | nil => intro l h; cases h; rfl
      | cons p ps ih =>
        intro l h
        rw [rdAll] at h
        cases hr : readI p with
        | none => rw [hr] at h; cases h
        | some n =>
          rw [hr] at h
          simp only [Option.map_eq_some_iff] at h
          obtain ⟨z, hz, rfl⟩ := h
          rw [List.map_cons, readI_back hr, ih z hz]
    rw [numsT, key _ _ h, join_spl, List.nil_append]
abbrev SmP (p : List Int × List Int) : Prop := Sm p.1 ∧ Sm p.2
theorem placeI_placeT {p : List Int × List Int} (h : SmP p) : placeI (placeT p) = some p := by
  have e : spl 124 [] (placeT p) = [numsT p.1, numsT p.2] := by
    rw [placeT, List.append_assoc, List.singleton_append, spl_app 124 _ _ [] (fun c hc => (numsT_no h.1 c hc).2), spl_end 124 _ [] (fun c hc => (numsT_no h.2 c hc).2)]
    rfl
  rw [placeI, e, if_pos (show [numsT p.1, numsT p.2].length = 2 from rfl)]
  simp only [List.getD_cons_zero, List.getD_cons_succ]
  rw [listI_numsT h.1, listI_numsT h.2]
theorem posB_app (b : UInt8) (r : List UInt8) : ∀ x : List UInt8, (∀ c ∈ x, c ≠ b) → posB b (x ++ b :: r) = x.length
  | [], _ => by rw [List.nil_append, posB, if_pos rfl]; rfl
  | c :: x, h => by rw [List.cons_append, posB, if_neg (h c (by simp)), posB_app b r x (fun d hd => h d (by simp [hd]))]; rfl
theorem looseP_placeT {p : List Int × List Int} (h : SmP p) : looseP (placeT p) = some p := by
  have e : placeT p = numsT p.1 ++ 124 :: numsT p.2 := by rw [placeT, List.append_assoc, List.singleton_append]
  have hp : posB 124 (placeT p) = (numsT p.1).length := by rw [e]; exact posB_app 124 _ _ fun c hc => (numsT_no h.1 c hc).2
  rw [looseP, hp, if_pos (by rw [e]; simp), e]
  have e1 : (numsT p.1 ++ 124 :: numsT p.2).take (numsT p.1).length = numsT p.1 := by simp
  have e2 : (numsT p.1 ++ 124 :: numsT p.2).drop ((numsT p.1).length + 1) = numsT p.2 := by
    rw [show (numsT p.1).length + 1 = (numsT p.1 ++ [124]).length by simp, show numsT p.1 ++ 124 :: numsT p.2 = (numsT p.1 ++ [124]) ++ numsT p.2 by simp, List.drop_left]
  rw [e1, e2, looseL_numsT h.1, looseL_numsT h.2]
theorem placeI_back {x : List UInt8} {p : List Int × List Int} (h : placeI x = some p) : placeT p = x := by
  unfold placeI at h
  have hj := join_spl 124 x []
  split at h
  · rename_i h2
    match hs : spl 124 [] x, h2 with
    | [a, b], _ =>
      rw [hs] at h hj
      simp only [List.getD_cons_zero, List.getD_cons_succ] at h
      cases h1 : listI a with
      | none => rw [h1] at h; cases h
      | some l =>
        cases h3 : listI b with
        | none => rw [h1, h3] at h; cases h
        | some r =>
          rw [h1, h3] at h
          cases h
          rw [join_cc, Lib.join_one, List.nil_append] at hj
          rw [placeT, listI_back h1, listI_back h3, ← hj]
          simp
  · cases h
theorem placesI_all : ∀ Z : List (List Int × List Int), (∀ p ∈ Z, SmP p) → placesI (Z.map placeT) = some (Z.map (·.1), Z.map (·.2))
  | [], _ => rfl
  | p :: Z, h => by
    rw [List.map_cons, placesI, placeI_placeT (h p (by simp)), placesI_all Z fun q hq => h q (by simp [hq])]
    rfl
theorem loosePs_all : ∀ Z : List (List Int × List Int), (∀ p ∈ Z, SmP p) → loosePs (Z.map placeT) = some (Z.map (·.1), Z.map (·.2))
  | [], _ => rfl
  | p :: Z, h => by
    rw [List.map_cons, loosePs, looseP_placeT (h p (by simp)), loosePs_all Z fun q hq => h q (by simp [hq])]
    rfl
theorem placesI_back : ∀ (ps : List (List UInt8)) (A B : List (List Int)), placesI ps = some (A, B) → (A.zip B).map placeT = ps ∧ A.length = B.length
  | [], A, B, h => by cases h; exact ⟨rfl, rfl⟩
  | p :: ps, A, B, h => by
    rw [placesI] at h
    cases hp : placeI p with
    | none => rw [hp] at h; cases h
    | some q =>
      rw [hp] at h
      simp only [Option.map_eq_some_iff, Prod.mk.injEq] at h
      obtain ⟨z, hz, rfl, rfl⟩ := h
      obtain ⟨e1, e2⟩ := placesI_back ps z.1 z.2 hz
      exact ⟨by rw [List.zip_cons_cons, List.map_cons, e1]; rw [show (q.1, q.2) = q from rfl, placeI_back hp], by simp [e2]⟩
theorem good_sm {A B : List (List Int)} (h : goodLp A B = true) : ∀ p ∈ A.zip B, SmP p := fun p hp => by
  obtain ⟨a1, a2, a3, a4, a5⟩ := goodLp_small h
  obtain ⟨x, y⟩ := p
  have m := List.of_mem_zip hp
  exact ⟨(tgt_small a2 (a4 _ m.1)).1, (tgt_small a2 (a5 _ m.2)).1⟩
theorem zip_fst {A B : List (List Int)} (h : A.length = B.length) : (A.zip B).map (·.1) = A ∧ (A.zip B).map (·.2) = B :=
  ⟨List.map_fst_zip (Nat.le_of_eq h), List.map_snd_zip (Nat.le_of_eq h.symm)⟩
theorem spl_lpT {A B : List (List Int)} (h : goodLp A B = true) : spl 59 [] (lpT A B) = (A.zip B).map placeT := by
  obtain ⟨a1, a2, a3, a4, a5⟩ := goodLp_small h
  refine spl_join 59 _ (fun e => ?_) ?_
  · have : ((A.zip B).map placeT).length = 0 := by rw [e]; rfl
    rw [List.length_map, List.length_zip] at this
    omega
  · intro x hx c hc
    rw [List.mem_map] at hx
    obtain ⟨p, hp, rfl⟩ := hx
    have hs := good_sm h p hp
    rw [placeT, List.mem_append, List.mem_append] at hc
    rcases hc with (hc | hc) | hc
    · exact (numsT_no hs.1 c hc).1
    · simp only [List.mem_singleton] at hc; subst hc; decide
    · exact (numsT_no hs.2 c hc).1
theorem readLp_lpT {A B : List (List Int)} (h : goodLp A B = true) (hl : (lpT A B).length ≤ 4000) : readLp (lpT A B) = some (A, B) := by
  obtain ⟨a1, a2, a3, a4, a5⟩ := goodLp_small h
  have hz := zip_fst (A := A) (B := B) (by omega)
  rw [readLp, if_neg (by omega), spl_lpT h, placesI_all _ (good_sm h), hz.1, hz.2]
  simp only [h, if_true]
theorem readLp_back {s : List UInt8} {A B : List (List Int)} (h : readLp s = some (A, B)) : lpT A B = s ∧ goodLp A B = true ∧ s.length ≤ 4000 := by
  have hg := readLp_good h
  unfold readLp at h
  split at h
  · cases h
  · rename_i hs
    cases hp : placesI (spl 59 [] s) with
    | none => rw [hp] at h; cases h
    | some q =>
      rw [hp] at h
      simp only [Option.ite_none_right_eq_some, Option.some.injEq] at h
      obtain ⟨_, rfl⟩ := h
      obtain ⟨e1, e2⟩ := placesI_back _ _ _ hp
      refine ⟨?_, hg, by omega⟩
      rw [lpT, e1, join_spl, List.nil_append]
theorem loose_eq (s : List UInt8) : looseLp s = readLp s := by
  cases hr : readLp s with
  | some q =>
    obtain ⟨A, B⟩ := q
    obtain ⟨e1, hg, hl⟩ := readLp_back hr
    obtain ⟨a1, a2, a3, a4, a5⟩ := goodLp_small hg
    have hz := zip_fst (A := A) (B := B) (by omega)
    subst e1
    rw [looseLp, if_neg (by omega), spl_lpT hg, loosePs_all _ (good_sm hg), hz.1, hz.2]
    have ht : lpText A B = some (lpT A B) := by rw [lpText, if_pos hg, if_neg (by omega)]
    simp [ht]
  | none =>
    cases hl : looseLp s with
    | none => rfl
    | some q =>
      exfalso
      unfold looseLp at hl
      split at hl
      · cases hl
      · split at hl
        · cases hl
        · rename_i q2 _
          split at hl
          · rename_i ht
            unfold lpText at ht
            split at ht
            · rename_i hg
              split at ht
              · cases ht
              · rename_i h4
                simp only [Option.some.injEq] at ht
                have := readLp_lpT hg (by omega)
                rw [ht, hr] at this
                cases this
            · cases ht
          · cases hl
end Go.Proofs.YtpcckakchpblcaaGreatDoor
