/- Two tables put together: plain facts. No program in sight. -/
import Derived.Test.YtdignmbeiohhiaaPutI
import Derived.Test.YtdignmbeiohhiaaRwsP
namespace Go.Proofs.Ytdignmbeiohhiaa
open Eng
set_option linter.unusedSimpArgs false
set_option maxHeartbeats 0
set_option maxRecDepth 100000

theorem sk_srt {l : List Rw} (h : SK (keysOf l)) : Srt l := by
  rw [SK, keysOf, List.pairwise_map, List.pairwise_iff_getElem] at h
  exact fun i j hj hij => h i j (by omega) hj hij
theorem srt_put {o : List Rw} (r : Rw) (h : Srt o) : Srt (putRw r o) := sk_srt (putRw_sk (srt_sk h))
theorem wrth_iff {l : List Rw} (h : Srt l) {k w : List UInt8} : wrth l k = some w ↔ (k, w) ∈ l := by
  constructor
  · intro hw
    obtain ⟨r, hr, h1, h2⟩ := wrth_some hw
    have : r = (k, w) := Prod.ext h1 h2
    rwa [← this]
  · intro hm
    exact wrth_of_mem h hm
theorem putRw_iff {r y : Rw} : ∀ {l : List Rw}, Srt l → (y ∈ putRw r l ↔ y = r ∨ (y ∈ l ∧ y.1 ≠ r.1))
  | [], _ => by simp [putRw]
  | q :: qs, h => by
    have ih := putRw_iff (r := r) (y := y) h.tail
    have hq : ∀ x ∈ qs, bl q.1 x.1 = true := fun x hx => by
      obtain ⟨j, hj, rfl⟩ := List.getElem_of_mem hx
      exact h 0 (j + 1) (by simpa using hj) (by omega)
    rw [putRw]
    cases hb : bl q.1 r.1 with
    | true =>
      rw [if_pos rfl, List.mem_cons, ih]
      have hne : q.1 ≠ r.1 := fun e => by rw [e, bl_irr] at hb; cases hb
      constructor
      · rintro (rfl | h1 | ⟨h1, h2⟩)
        · exact .inr ⟨by simp, hne⟩
        · exact .inl h1
        · exact .inr ⟨by simp [h1], h2⟩
      · rintro (h1 | ⟨h1, h2⟩)
        · exact .inr (.inl h1)
        · rcases List.mem_cons.1 h1 with rfl | h1
          · exact .inl rfl
          · exact .inr (.inr ⟨h1, h2⟩)
    | false =>
      rw [if_neg (by simp)]
      split
      · rename_i he
        rw [List.mem_cons]
        constructor
        · rintro (h1 | h1)
          · exact .inl h1
          · refine .inr ⟨by simp [h1], fun e => ?_⟩
            have := hq y h1
            rw [e, ← he, bl_irr] at this; cases this
        · rintro (h1 | ⟨h1, h2⟩)
          · exact .inl h1
          · rcases List.mem_cons.1 h1 with rfl | h1
            · exact absurd he h2
            · exact .inr h1
      · rename_i he
        have hrq : bl r.1 q.1 = true := by
          rcases bl_tri _ _ hb with e | e
          · exact absurd e he
          · exact e
        rw [List.mem_cons]
        constructor
        · rintro (h1 | h1)
          · exact .inl h1
          · refine .inr ⟨h1, fun e => ?_⟩
            rcases List.mem_cons.1 h1 with rfl | h1
            · exact he e
            · have := bl_trans hrq (hq y h1)
              rw [e, bl_irr] at this; cases this
        · rintro (h1 | ⟨h1, h2⟩)
          · exact .inl h1
          · exact .inr h1
/-- The rows of two tables, of one key what the later ones say. -/
def mrg (a b : List Rw) : List Rw := b.foldl (fun o r => putRw r o) a
theorem mrg_snoc (a b : List Rw) (r : Rw) : mrg a (b ++ [r]) = putRw r (mrg a b) := by rw [mrg, List.foldl_append]; rfl
theorem mrg_srt {a : List Rw} (h : Srt a) (b : List Rw) : Srt (mrg a b) := by
  unfold mrg
  induction b generalizing a with
  | nil => exact h
  | cons r b ih => exact ih (srt_put r h)
theorem mrg_len (a b : List Rw) : (mrg a b).length ≤ a.length + b.length := by
  unfold mrg
  induction b generalizing a with
  | nil => simp
  | cons r b ih =>
    have := ih (a := putRw r a)
    have := putRw_len r a
    simp only [List.foldl_cons, List.length_cons]; omega
theorem mrg_mem {a b : List Rw} {y : Rw} (h : y ∈ mrg a b) : y ∈ a ∨ y ∈ b := by
  unfold mrg at h
  induction b generalizing a with
  | nil => exact .inl h
  | cons r b ih =>
    rcases ih (a := putRw r a) h with h | h
    · rcases putRw_mem h with rfl | h
      · exact .inr (by simp)
      · exact .inl h
    · exact .inr (by simp [h])
theorem mrg_chk {a b : List Rw} (h : chk none a = true) (hb : ∀ r ∈ b, goodRw r = true) : chk none (mrg a b) = true := by
  unfold mrg
  induction b generalizing a with
  | nil => exact h
  | cons r b ih => exact ih (chk_put (hb r (by simp)) h fun q hq => by cases hq) fun q hq => hb q (by simp [hq])
theorem chk_good : ∀ {l : List Rw} {p : Option (List UInt8)}, chk p l = true → ∀ r ∈ l, goodRw r = true
  | [], _, _, r, hr => by cases hr
  | q :: qs, p, h, r, hr => by
    obtain ⟨h1, h2, h3⟩ := chk_cons.1 h
    rcases List.mem_cons.1 hr with rfl | hr
    · exact h1
    · exact chk_good h3 r hr
theorem goodRs_chk {l : List Rw} (h : goodRs l = true) : chk none l = true := by
  unfold goodRs at h
  split at h
  · cases h
  · exact h
theorem goodRs_mrg {a b : List Rw} (ha : goodRs a = true) (hb : goodRs b = true) : goodRs (mrg a b) = decide ((mrg a b).length ≤ 60) := by
  unfold goodRs
  by_cases hl : 60 < (mrg a b).length
  · rw [if_pos hl, decide_eq_false (by omega)]
  · rw [if_neg hl, decide_eq_true (by omega)]
    exact mrg_chk (goodRs_chk ha) (chk_good (goodRs_chk hb))
/-- What no later key is, is worth what it was. -/
theorem mrg_wrth {a : List Rw} (ha : Srt a) {k : List UInt8} : ∀ (b : List Rw), (∀ r ∈ b, r.1 ≠ k) → wrth (mrg a b) k = wrth a k := by
  intro b
  unfold mrg
  induction b generalizing a with
  | nil => intro _; rfl
  | cons r b ih =>
    intro h
    rw [List.foldl_cons, ih (srt_put r ha) fun q hq => h q (by simp [hq])]
    have hr := h r (by simp)
    cases hw : wrth a k with
    | some w =>
      rw [wrth_iff ha] at hw
      rw [wrth_iff (srt_put r ha), putRw_iff ha]
      exact .inr ⟨hw, fun e => hr e.symm⟩
    | none =>
      cases hw2 : wrth (putRw r a) k with
      | none => rfl
      | some w =>
        rw [wrth_iff (srt_put r ha), putRw_iff ha] at hw2
        rcases hw2 with e | ⟨hm, _⟩
        · exact absurd (congrArg Prod.fst e).symm hr
        · exact absurd rfl (wrth_none hw _ hm)
theorem unl_snoc (a : List Rw) (al : Bool) (r : Rw) : ∀ l, unl a al (l ++ [r]) = if unlC a al r = true then unl a al l ++ [r.1] else unl a al l
  | [] => rfl
  | q :: l => by
    rw [List.cons_append, unl, unl, unl_snoc a al r l]
    split <;> split <;> rfl
/-- What is unlike is told alike from both sides. -/
theorem unl_sym {a b : List Rw} (ha : Srt a) (hb : Srt b) : unl a false b = unl b false a := by
  refine sk_eq _ _ ((srt_sk hb).sublist (unl_sub _ _ _)) ((srt_sk ha).sublist (unl_sub _ _ _)) fun k => ?_
  have key : ∀ {a b : List Rw}, Srt a → Srt b → k ∈ unl a false b → k ∈ unl b false a := by
    intro a b ha hb h
    obtain ⟨r, hr, h1, h2⟩ := (unl_mem _ _ _ _).1 h
    unfold unlC at h2
    cases hw : wrth a r.1 with
    | none => rw [hw] at h2; cases h2
    | some w =>
      rw [hw] at h2
      have hm := (wrth_iff ha).1 hw
      refine (unl_mem _ _ _ _).2 ⟨_, hm, h1, ?_⟩
      unfold unlC
      rw [show wrth b (r.1, w).1 = some r.2 from (wrth_iff hb).2 hr]
      have h2 : w ≠ r.2 := by simpa using h2
      simpa using fun e => h2 (Eq.symm e)
  exact ⟨key ha hb, key hb ha⟩
def mrgOk (a b : List Rw) : Bool := goodRs a && goodRs b && decide ((mrg a b).length ≤ 60)
def mrgR (a b : List Rw) : List Rw := if mrgOk a b = true then mrg a b else []
def mrgU (a b : List Rw) : List (List UInt8) := if mrgOk a b = true then unl b false a else []
theorem mrg_small (a b : List Rw) : (mrgR a b).length ≤ 60 ∧ (mrgU a b).length ≤ 60 := by
  unfold mrgR mrgU
  by_cases h : mrgOk a b = true
  · rw [if_pos h, if_pos h]
    unfold mrgOk at h
    simp only [Bool.and_eq_true, decide_eq_true_eq] at h
    have := goodRs_len h.1.1
    have := unl_len b false a
    exact ⟨h.2, by omega⟩
  · rw [if_neg h, if_neg h]; simp
/-- What stands at its place. -/
theorem unlC_at {o : List Rw} {r : Rw} {i : Nat} (hs : Srt o) (hp : Plc o r.1 i) : (isAt o r.1 i = false → unlC o false r = false) ∧ (∀ h : i < o.length, isAt o r.1 i = true → unlC o false r = decide (o[i].2 ≠ r.2)) := by
  have hf := fnd_at hs hp
  constructor
  · intro hi
    rw [hi] at hf
    unfold unlC wrth
    rw [if_pos (by rw [hf]; simp)]
  · intro h hi
    rw [hi] at hf
    unfold unlC wrth
    rw [hf, if_pos rfl, if_neg (by omega), Int.toNat_natCast, List.getElem?_eq_getElem h]
    rfl
end Go.Proofs.Ytdignmbeiohhiaa
