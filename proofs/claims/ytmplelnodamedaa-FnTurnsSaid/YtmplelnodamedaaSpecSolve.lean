/- The reference's l25Solve: its rounds come to the program's. For all good loops. -/
import Derived.Test.YtmplelnodamedaaSolved
namespace Go.Proofs.Ytmplelnodamedaa
open Eng
attribute [local irreducible] OpS OpG FC FCr Rel Fl Ef DR Fs
set_option linter.unusedSimpArgs false
set_option maxHeartbeats 0
set_option maxRecDepth 100000

theorem sRounds_len (nxt n) : ∀ r, (sRounds nxt n r).1.length = n ∧ (sRounds nxt n r).2.length = n := by
  intro r
  induction r with
  | zero => simp [sRounds]
  | succ r ih =>
    rw [sRounds, sRound]
    have h1 := stepsB_len (scanA nxt (sRounds nxt n r).1 r (sRounds nxt n r).2 (sRounds nxt n r).1.length).1 ((sRounds nxt n r).1, (scanA nxt (sRounds nxt n r).1 r (sRounds nxt n r).2 (sRounds nxt n r).1.length).2)
    have h2 := scanA_len nxt (sRounds nxt n r).1 r (sRounds nxt n r).2 (sRounds nxt n r).1.length
    dsimp only at h1
    omega

/-- The numbers of moves stay small. -/
def Bd (B : Int) (l : List Int) : Prop := ∀ x ∈ l, -B ≤ x ∧ x ≤ B
theorem Bd.set {B l i x} (h : Bd B l) (hx : -B ≤ x ∧ x ≤ B) : Bd B (l.set i x) := fun y hy => by
  rcases List.mem_or_eq_of_mem_set hy with hy | rfl
  · exact h y hy
  · exact hx
theorem Bd.gd {B : Int} {l} (h : Bd B l) (hB : 0 ≤ B) (i : Nat) : -B ≤ l.getD i 0 ∧ l.getD i 0 ≤ B := by
  by_cases hi : i < l.length
  · rw [Go.Proofs.Ytmplelnodamedaa.gd hi]; exact h _ (List.getElem_mem hi)
  · rw [gd_out hi]; omega
theorem bd_scanA {B : Int} {nxt st mv0} {r : Int} (h : Bd B mv0) (hr : -B ≤ r ∧ r ≤ B) : ∀ n, Bd B (scanA nxt st r mv0 n).2 := by
  intro n
  induction n with
  | zero => exact h
  | succ n ih =>
    rw [scanA_succ]
    unfold stepA
    split
    · exact ih
    · split
      · exact (ih.set hr).set (by omega)
      · split
        · exact ih.set hr
        · exact ih
theorem bd_stepsB {B : Int} (hB : 0 ≤ B) (F : List Nat) : ∀ q : List Int × List Int, Bd B q.2 → Bd B (F.foldl stepB q).2 := by
  induction F with
  | nil => intro q h; exact h
  | cons i F ih =>
    intro q h
    rw [List.foldl_cons]
    refine ih _ ?_
    unfold stepB
    split
    · exact h.set (by have := h.gd hB i; omega)
    · exact h
theorem bd_sRounds {nxt n} {B : Int} : ∀ r : Nat, (r : Int) ≤ B + 1 → 0 ≤ B → Bd B (sRounds nxt n r).2 := by
  intro r
  induction r with
  | zero => intro _ h x hx; simp [sRounds] at hx; omega
  | succ r ih =>
    intro h h0
    rw [sRounds, sRound]
    exact bd_stepsB h0 _ _ (bd_scanA (ih (by omega) h0) (by omega) _)
theorem sWon_at {st : List Int} {ks : List Nat} {k : Nat} (h : k < ks.length) (h2 : ks[k] < st.length) : sWon st (ks.drop k) = (decide (st[ks[k]] = 2) || sWon st (ks.drop (k + 1))) := by
  rw [List.drop_eq_getElem_cons h, sWon, List.any_cons, gd h2]; rfl
theorem sAll_at {st : List Int} {ks : List Nat} {k : Nat} (h : k < ks.length) (h2 : ks[k] < st.length) : sAll st (ks.drop k) = (decide (st[ks[k]] = 1) && sAll st (ks.drop (k + 1))) := by
  rw [List.drop_eq_getElem_cons h, sAll, List.all_cons, gd h2]; rfl

/-- The successors of a state are those of its place, told as states of the other player. -/
theorem succs {L R : List (List Nat)} (hi : Inside L R) (hL : L.length ≤ 1048576) (hl : ∀ l ∈ L, l.length ≤ 1048576) (hr : ∀ l ∈ R, l.length ≤ 1048576) {i : Nat} (h : i < 2 * L.length) :
    ∃ T ks : List Nat, (nxtOf L R).getD i [] = ks ∧ ks.length = T.length ∧ T.length ≤ 1048576 ∧ (∀ (k : Nat) (h : k < ks.length), ks[k] < 2 * L.length) ∧
      (FCr Try.prog 66 [.agg [RNss L, RNss R], RVn (i / 2), RVb (decide (((i % 2 : Nat) : Int) = 0))] (RNs T)) ∧
      ∀ (k : Nat) (h : k < T.length) (h2 : k < ks.length), FCr Try.prog 43 [RVn T[k], RVb (decide (((i % 2 : Nat) : Int) ≠ 0))] (RVn ks[k]) := by
  have ha := nxtOf_alt hi i
  have h1 : i / 2 < L.length := by omega
  have h2 : i / 2 < R.length := by have := hi.1; omega
  have hat := nxtTo_at L R L.length i h
  rw [gd h1, gd h2] at hat
  have hW := fun b => l25Who_ok L R (i / 2) b h1 h2
  by_cases hp : i % 2 = 0
  · rw [if_pos hp] at hat
    refine ⟨L[i / 2], _, hat, by simp, hl _ (List.getElem_mem h1), ?_, ?_, ?_⟩
    · intro k hk
      exact (ha _ (by rw [nxtOf, hat]; exact List.getElem_mem hk)).1
    · have := hW true
      rw [decide_eq_true (by omega)]
      simpa using this
    · intro k hk hk2
      have hb := hi.2.1 _ (List.getElem_mem h1) _ (List.getElem_mem hk)
      have := l25Side_ok (L[i / 2][k]) false (by omega)
      rw [decide_eq_false (by omega)]
      simpa [stN] using this
  · rw [if_neg hp] at hat
    refine ⟨R[i / 2], _, hat, by simp, hr _ (List.getElem_mem h2), ?_, ?_, ?_⟩
    · intro k hk
      exact (ha _ (by rw [nxtOf, hat]; exact List.getElem_mem hk)).1
    · have := hW false
      rw [decide_eq_false (by omega)]
      simpa using this
    · intro k hk hk2
      have hb := hi.2.2 _ (List.getElem_mem h2) _ (List.getElem_mem hk)
      have := l25Side_ok (R[i / 2][k]) true (by omega)
      rw [decide_eq_true (by omega)]
      simpa [stN] using this

end Go.Proofs.Ytmplelnodamedaa
