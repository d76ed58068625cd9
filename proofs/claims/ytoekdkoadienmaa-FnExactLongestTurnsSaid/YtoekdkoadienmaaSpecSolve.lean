/- The reference's l25Solve: its rounds come to the program's. For all good loops. -/
import Derived.Test.YtoekdkoadienmaaSolved
namespace Go.Proofs.Ytoekdkoadienmaa
open Eng
attribute [local irreducible] OpS OpG FC FCr Rel Fl Ef DR Fs
set_option linter.unusedSimpArgs false
set_option maxHeartbeats 0
set_option maxRecDepth 100000

theorem sRounds_len (nxt n) : ∀ r, (sRounds nxt n r).1.length = n ∧ (sRounds nxt n r).2.length = n := by
  intro r
  induction r with
  | zero => simp [sRounds]
  | succ r ih =>
    rw [sRounds, sRound]
    have h1 := stepsB_len (scanA nxt (sRounds nxt n r).1 r (sRounds nxt n r).2 (sRounds nxt n r).1.length).1 ((sRounds nxt n r).1, (scanA nxt (sRounds nxt n r).1 r (sRounds nxt n r).2 (sRounds nxt n r).1.length).2)
    have h2 := scanA_len nxt (sRounds nxt n r).1 r (sRounds nxt n r).2 (sRounds nxt n r).1.length
    dsimp only at h1
    omega

/-- The numbers of moves stay small. -/
def Bd (B : Int) (l : List Int) : Prop := ∀ x ∈ l, -B ≤ x ∧ x ≤ B
theorem Bd.set {B l i x} (h : Bd B l) (hx : -B ≤ x ∧ x ≤ B) : Bd B (l.set i x) := fun y hy => by
  rcases List.mem_or_eq_of_mem_set hy with hy | rfl
  · exact h y hy
  · exact hx
theorem Bd.gd {B : Int} {l} (h : Bd B l) (hB : 0 ≤ B) (i : Nat) : -B ≤ l.getD i 0 ∧ l.getD i 0 ≤ B := by
  by_cases hi : i < l.length
  · rw [Go.Proofs.Ytoekdkoadienmaa.gd hi]; exact h _ (List.getElem_mem hi)
  · rw [gd_out hi]; omega
theorem bd_scanA {B : Int} {nxt st mv0} {r : Int} (h : Bd B mv0) (hr : -B ≤ r ∧ r ≤ B) : ∀ n, Bd B (scanA nxt st r mv0 n).2 := by
  intro n
  induction n with
  | zero => exact h
  | succ n ih =>
    rw [scanA_succ]
    unfold stepA
    split
    · exact ih
    · split
      · exact (ih.set hr).set (by omega)
      · split
        · exact ih.set hr
        · exact ih
theorem bd_stepsB {B : Int} (hB : 0 ≤ B) (F : List Nat) : ∀ q : List Int × List Int, Bd B q.2 → Bd B (F.foldl stepB q).2 := by
  induction F with
  | nil => intro q h; exact h
  | cons i F ih =>
    intro q h
    rw [List.foldl_cons]
    refine ih _ ?_
    unfold stepB
    split
    · exact h.set (by have := h.gd hB i; omega)
    · exact h
theorem bd_sRounds {nxt n} {B : Int} : ∀ r : Nat, (r : Int) ≤ B + 1 → 0 ≤ B → Bd B (sRounds nxt n r).2 := by
  intro r
  induction r with
  | zero => intro _ h x hx; simp [sRounds] at hx; omega
  | succ r ih =>
    intro h h0
    rw [sRounds, sRound]
    exact bd_stepsB h0 _ _ (bd_scanA (ih (by omega) h0) (by omega) _)
theorem sWon_at {st : List Int} {ks : List Nat} {k : Nat} (h : k < ks.length) (h2 : ks[k] < st.length) : sWon st (ks.drop k) = (decide (st[ks[k]] = 2) || sWon st (ks.drop (k + 1))) := by
  rw [List.drop_eq_getElem_cons h, sWon, List.any_cons, gd h2]; rfl
theorem sAll_at {st : List Int} {ks : List Nat} {k : Nat} (h : k < ks.length) (h2 : ks[k] < st.length) : sAll st (ks.drop k) = (decide (st[ks[k]] = 1) && sAll st (ks.drop (k + 1))) := by
  rw [List.drop_eq_getElem_cons h, sAll, List.all_cons, gd h2]; rfl

/-- The successors of a state are those of its place, told as states of the other player. -/
theorem succs {L R : List (List Nat)} (hi : Inside L R) (hL : L.length ≤ 1048576) (hl : ∀ l ∈ L, l.length ≤ 1048576) (hr : ∀ l ∈ R, l.length ≤ 1048576) {i : Nat} (h : i < 2 * L.length) :
    ∃ T ks : List Nat, (nxtOf L R).getD i [] = ks ∧ ks.length = T.length ∧ T.length ≤ 1048576 ∧ (∀ (k : Nat) (h : k < ks.length), ks[k] < 2 * L.length) ∧
      (FCr Try.prog 59 [.agg [RNss L, RNss R], RVn (i / 2), RVb (decide (((i % 2 : Nat) : Int) = 0))] (RNs T)) ∧
      ∀ (k : Nat) (h : k < T.length) (h2 : k < ks.length), FCr Try.prog 51 [RVn T[k], RVb (decide (((i % 2 : Nat) : Int) ≠ 0))] (RVn ks[k]) := by
  have ha := nxtOf_alt hi i
  have h1 : i / 2 < L.length := by omega
  have h2 : i / 2 < R.length := by have := hi.1; omega
  have hat := nxtTo_at L R L.length i h
  rw [gd h1, gd h2] at hat
  have hW := fun b => l25Who_ok L R (i / 2) b h1 h2
  by_cases hp : i % 2 = 0
  · rw [if_pos hp] at hat
    refine ⟨L[i / 2], _, hat, by simp, hl _ (List.getElem_mem h1), ?_, ?_, ?_⟩
    · intro k hk
      exact (ha _ (by rw [nxtOf, hat]; exact List.getElem_mem hk)).1
    · have := hW true
      rw [decide_eq_true (by omega)]
      simpa using this
    · intro k hk hk2
      have hb := hi.2.1 _ (List.getElem_mem h1) _ (List.getElem_mem hk)
      have := l25Side_ok (L[i / 2][k]) false (by omega)
      rw [decide_eq_false (by omega)]
      simpa [stN] using this
  · rw [if_neg hp] at hat
    refine ⟨R[i / 2], _, hat, by simp, hr _ (List.getElem_mem h2), ?_, ?_, ?_⟩
    · intro k hk
      exact (ha _ (by rw [nxtOf, hat]; exact List.getElem_mem hk)).1
    · have := hW false
      rw [decide_eq_false (by omega)]
      simpa using this
    · intro k hk hk2
      have hb := hi.2.2 _ (List.getElem_mem h2) _ (List.getElem_mem hk)
      have := l25Side_ok (R[i / 2][k]) true (by omega)
      rw [decide_eq_true (by omega)]
      simpa [stN] using this

theorem l25Solve_ok (L R : List (List Nat)) (hi : Inside L R) (hL : L.length ≤ 1048576) (hl : ∀ l ∈ L, l.length ≤ 1048576) (hr : ∀ l ∈ R, l.length ≤ 1048576) :
    FCr Try.prog 54 [.agg [RNss L, RNss R]] (.tup [OIs (sRounds (nxtOf L R) (2 * L.length) (2 * L.length + 1)).1, OIs (sRounds (nxtOf L R) (2 * L.length) (2 * L.length + 1)).2]) := by
  refine (fcr_in Try.func54 rfl (by simp only [Try.ntmps54, anys, List.length_cons, List.length_nil, Nat.reduceAdd, Nat.reduceSub, List.replicate_succ, List.replicate_zero, List.cons_append, List.nil_append] <;> rfl) ?_)
  repeat' first
    | refine w_seq ?_
    | refine w_block ?_
    | refine rb_n ?_
    | refine rb_ret ?_
    | refine rb_eq ?_
    | refine rb_ne (by rfl) ?_
    | refine w_exit ?_
    | refine rt_exit ?_
    | refine w_region ?_
    | refine l_nil ?_
    | refine rt_n ?_
    | refine w_ret ?_
    | refine rt_ret ?_
    | refine w_skip ?_
    | refine w_cond_t rfl ?_
    | refine w_cond_f rfl ?_
    | refine w_cnd rfl (fun hc => ?_) (fun hc => ?_)
    | refine w_cd rfl (fun hc => ?_) (fun hc => ?_)
    | refine w_cn rfl (fun hc => ?_) (fun hc => ?_)
    | refine w_cond rfl (fun hc => ?_) (fun hc => ?_)
    | (refine l_o ?_; first | refine l_eqnil rfl (by kernel_rfl) (by intro b; simp only [nz]; rfl) (fun b hb => ?_) | refine l_op rfl (by first | (apply k_mul; first | exact ops_muln (a := 2) rfl rfl (by omega) | fail) | fail) (hk := ?_) | refine l_op (hk := ?_) | (refine l_g ?_; first | refine l_y rfl rfl rfl ?_ | refine l_n rfl rfl rfl rfl (hk := ?_) | refine l_n' rfl rfl rfl (hk := ?_) | refine l_spnd rfl rfl rfl (h1 := fun hc => ?_) (h2 := fun hc => ?_) | refine l_spd rfl rfl rfl (h1 := fun hc => ?_) (h2 := fun hc => ?_) | refine l_spn rfl rfl rfl (h1 := fun hc => ?_) (h2 := fun hc => ?_) | refine l_sp rfl rfl rfl (h1 := fun hc => ?_) (h2 := fun hc => ?_)))
  refine w_loopm (ι := Nat) (fun r => [(7, RVn r)]) (fun r => [(25, 1, (sRounds (nxtOf L R) (2 * L.length) r).2.map RVi), (22, 1, (sRounds (nxtOf L R) (2 * L.length) r).1.map RVi), (1, 2, [.agg [RNss L, RNss R]])]) (fun r => r ≤ 2 * L.length + 1) (fun r => 2 * L.length + 1 - r) 0 (h0 := ?_) (hs := ?_) (round := ?_)
  · omega
  · refine le_eq (by (repeat' first | exact .nil | refine .keep ?_ | refine .any ?_); first | done | fail) rfl rfl
  · intro r hrr
    obtain ⟨hq1, hq2⟩ := sRounds_len (nxtOf L R) (2 * L.length) r
    have hsr : sRounds (nxtOf L R) (2 * L.length) (r + 1) = sRound (nxtOf L R) (sRounds (nxtOf L R) (2 * L.length) r) r := rfl
    rw [sRound, hq1] at hsr
    generalize hq : sRounds (nxtOf L R) (2 * L.length) r = q at *
    repeat' first
      | refine w_seq ?_
      | refine w_block ?_
      | refine rb_n ?_
      | refine rb_ret ?_
      | refine rb_eq ?_
      | refine rb_ne (by rfl) ?_
      | refine w_exit ?_
      | refine rt_exit ?_
      | refine w_region ?_
      | refine l_nil ?_
      | refine rt_n ?_
      | refine w_ret ?_
      | refine rt_ret ?_
      | refine w_skip ?_
      | refine w_cond_t rfl ?_
      | refine w_cond_f rfl ?_
      | refine w_cnd rfl (fun hc => ?_) (fun hc => ?_)
      | refine w_cd rfl (fun hc => ?_) (fun hc => ?_)
      | refine w_cn rfl (fun hc => ?_) (fun hc => ?_)
      | refine w_cond rfl (fun hc => ?_) (fun hc => ?_)
      | (refine l_o ?_; first | refine l_eqnil rfl (by kernel_rfl) (by intro b; simp only [nz]; rfl) (fun b hb => ?_) | refine l_op rfl (by first | (apply k_mul; first | exact ops_muln (a := 2) rfl rfl (by omega) | fail) | fail) (hk := ?_) | refine l_op (hk := ?_) | (refine l_g ?_; first | refine l_y rfl rfl rfl ?_ | refine l_n rfl rfl rfl rfl (hk := ?_) | refine l_n' rfl rfl rfl (hk := ?_) | refine l_spnd rfl rfl rfl (h1 := fun hc => ?_) (h2 := fun hc => ?_) | refine l_spd rfl rfl rfl (h1 := fun hc => ?_) (h2 := fun hc => ?_) | refine l_spn rfl rfl rfl (h1 := fun hc => ?_) (h2 := fun hc => ?_) | refine l_sp rfl rfl rfl (h1 := fun hc => ?_) (h2 := fun hc => ?_)))
    · refine w_loopm (ι := Nat) (fun i => [(9, RVn i), (8, .ref 32 0 (scanA (nxtOf L R) q.1 r q.2 i).1.length), (32, .any)]) (fun i => [(32, 1, (scanA (nxtOf L R) q.1 r q.2 i).1.map RVn), (25, 1, (scanA (nxtOf L R) q.1 r q.2 i).2.map RVi), (22, 1, q.1.map RVi), (1, 2, [.agg [RNss L, RNss R]])]) (fun i => i ≤ 2 * L.length) (fun i => 2 * L.length - i) 0 (h0 := ?_) (hs := ?_) (round := ?_)
      · omega
      · refine le_eq (by (repeat' first | exact .nil | refine .keep ?_ | refine .any ?_); first | done | fail) rfl rfl
      · intro i hin
        obtain ⟨hs1, hs2, hs3⟩ := scanA_len (nxtOf L R) q.1 r q.2 i
        have hst := scanA_succ (nxtOf L R) q.1 r q.2 i
        have hfull := hsr
        by_cases hil : i < 2 * L.length
        · generalize scanA (nxtOf L R) q.1 r q.2 i = s at *
          unfold stepA at hst
          obtain ⟨T, ks, e1, e2, e3, e4, e5, e6⟩ := succs hi hL hl hr hil
          rw [e1, gd (show i < q.1.length by omega)] at hst
          repeat' first
            | refine w_seq ?_
            | refine w_block ?_
            | refine rb_n ?_
            | refine rb_ret ?_
            | refine rb_eq ?_
            | refine rb_ne (by rfl) ?_
            | refine w_exit ?_
            | refine rt_exit ?_
            | refine w_region ?_
            | refine l_nil ?_
            | refine rt_n ?_
            | refine w_ret ?_
            | refine rt_ret ?_
            | refine w_skip ?_
            | refine w_cond_t rfl ?_
            | refine w_cond_f rfl ?_
            | refine w_cnd rfl (fun hc => ?_) (fun hc => ?_)
            | refine w_cd rfl (fun hc => ?_) (fun hc => ?_)
            | refine w_cn rfl (fun hc => ?_) (fun hc => ?_)
            | refine w_cond rfl (fun hc => ?_) (fun hc => ?_)
            | (refine l_o ?_; first | refine l_eqnil rfl (by kernel_rfl) (by intro b; simp only [nz]; rfl) (fun b hb => ?_) | refine l_op rfl (by first | (apply k_mul; first | exact ops_muln (a := 2) rfl rfl (by omega) | fail) | (apply k_rem; first | exact ops_remn (n := 2) rfl rfl (by omega) | fail) | (apply k_quo; first | exact ops_quon (n := 2) rfl rfl (by omega) (by omega) | fail) | (apply k_callf; first | exact ops_callf (hfc := e5) | fail) | fail) (hk := ?_) | refine l_op (hk := ?_) | (refine l_g ?_; first | refine l_y rfl rfl rfl ?_ | refine l_n rfl rfl rfl rfl (hk := ?_) | refine l_n' rfl rfl rfl (hk := ?_) | refine l_spnd rfl rfl rfl (h1 := fun hc => ?_) (h2 := fun hc => ?_) | refine l_spd rfl rfl rfl (h1 := fun hc => ?_) (h2 := fun hc => ?_) | refine l_spn rfl rfl rfl (h1 := fun hc => ?_) (h2 := fun hc => ?_) | refine l_sp rfl rfl rfl (h1 := fun hc => ?_) (h2 := fun hc => ?_)))
          · rw [if_pos hc] at hst
            refine rn_mk (i + 1) (by omega) (by omega) ?_
            rw [hst]
            refine le_eq (by (repeat' first | exact .nil | refine .keep ?_ | refine .any ?_); first | done | fail) rfl rfl
          · rw [if_neg hc] at hst
            refine w_loopm (ι := Nat × Bool × Bool) (fun k => [(13, RVn k.1), (11, RVb k.2.1), (12, RVb k.2.2)]) (fun k => [(32, 1, s.1.map RVn), (25, 1, s.2.map RVi), (22, 1, q.1.map RVi), (1, 2, [.agg [RNss L, RNss R]])]) (fun k => k.1 ≤ T.length ∧ (k.2.1 || sWon q.1 (ks.drop k.1)) = sWon q.1 ks ∧ (k.2.2 && sAll q.1 (ks.drop k.1)) = sAll q.1 ks) (fun k => T.length - k.1) (0, false, true) (h0 := ?_) (hs := ?_) (round := ?_)
            · simp
            · refine le_eq (by (repeat' first | exact .nil | refine .keep ?_ | refine .any ?_); first | done | fail) rfl rfl
            · intro ⟨k, w, a⟩ ⟨hk, hw, ha⟩
              dsimp only at hk hw ha ⊢
              by_cases hkl : k < T.length
              · have b1 := e4 k (by omega)
                have b2 := e6 k hkl (by omega)
                rw [sWon_at (by omega) (by omega)] at hw
                rw [sAll_at (by omega) (by omega)] at ha
                clear hst hfull hsr hs1 hs2 hs3 e1 e4 e5 e6
                repeat' first
                  | refine w_seq ?_
                  | refine w_block ?_
                  | refine rb_n ?_
                  | refine rb_ret ?_
                  | refine rb_eq ?_
                  | refine rb_ne (by rfl) ?_
                  | refine w_exit ?_
                  | refine rt_exit ?_
                  | refine w_region ?_
                  | refine l_nil ?_
                  | refine rt_n ?_
                  | refine w_ret ?_
                  | refine rt_ret ?_
                  | refine w_skip ?_
                  | refine w_cond_t rfl ?_
                  | refine w_cond_f rfl ?_
                  | refine w_cnd rfl (fun hc => ?_) (fun hc => ?_)
                  | refine w_cd rfl (fun hc => ?_) (fun hc => ?_)
                  | refine w_cn rfl (fun hc => ?_) (fun hc => ?_)
                  | refine w_cond rfl (fun hc => ?_) (fun hc => ?_)
                  | (exfalso; omega)
                  | (refine l_o ?_; first | refine l_eqnil rfl (by kernel_rfl) (by intro b; simp only [nz]; rfl) (fun b hb => ?_) | refine l_op rfl (by first | (apply k_rem; first | exact ops_remn (n := 2) rfl rfl (by omega) | fail) | (apply k_callf; first | exact ops_callf (hfc := b2) | fail) | fail) (hk := ?_) | refine l_op (hk := ?_) | (refine l_g ?_; first | refine l_y rfl rfl rfl ?_ | refine l_n rfl rfl rfl rfl (hk := ?_) | refine l_n' rfl rfl rfl (hk := ?_) | refine l_spnd rfl rfl rfl (h1 := fun hc => ?_) (h2 := fun hc => ?_) | refine l_spd rfl rfl rfl (h1 := fun hc => ?_) (h2 := fun hc => ?_) | refine l_spn rfl rfl rfl (h1 := fun hc => ?_) (h2 := fun hc => ?_) | refine l_sp rfl rfl rfl (h1 := fun hc => ?_) (h2 := fun hc => ?_)))
                · refine rn_mk (k + 1, true, false) ?_ (by first | omega | (dsimp only; omega)) (le_eq (by (repeat' first | exact .nil | refine .keep ?_ | refine .any ?_); first | done | fail) rfl rfl)
                  grind
                · refine rn_mk (k + 1, w, false) ?_ (by first | omega | (dsimp only; omega)) (le_eq (by (repeat' first | exact .nil | refine .keep ?_ | refine .any ?_); first | done | fail) rfl rfl)
                  grind
                · refine rn_mk (k + 1, w, a) ?_ (by first | omega | (dsimp only; omega)) (le_eq (by (repeat' first | exact .nil | refine .keep ?_ | refine .any ?_); first | done | fail) rfl rfl)
                  grind
              · have hkn : ks.drop k = [] := List.drop_of_length_le (by omega)
                rw [hkn] at hw ha
                have hw2 : w = sWon q.1 ks := by rw [← hw]; cases w <;> rfl
                have ha2 : a = sAll q.1 ks := by rw [← ha]; cases a <;> rfl
                rw [← hw2, ← ha2] at hst
                have hx : (s.2.set i (r : Int)).length = 2 * L.length := by simp; omega
                clear hw ha hw2 ha2 hfull hsr hs3 e1 e4 e5 e6
                repeat' first
                  | refine w_seq ?_
                  | refine w_block ?_
                  | refine rb_n ?_
                  | refine rb_ret ?_
                  | refine rb_eq ?_
                  | refine rb_ne (by rfl) ?_
                  | refine w_exit ?_
                  | refine rt_exit ?_
                  | refine w_region ?_
                  | refine l_nil ?_
                  | refine rt_n ?_
                  | refine w_ret ?_
                  | refine rt_ret ?_
                  | refine w_skip ?_
                  | refine w_cond_t rfl ?_
                  | refine w_cond_f rfl ?_
                  | refine w_cnd rfl (fun hc => ?_) (fun hc => ?_)
                  | refine w_cd rfl (fun hc => ?_) (fun hc => ?_)
                  | refine w_cn rfl (fun hc => ?_) (fun hc => ?_)
                  | refine w_cond rfl (fun hc => ?_) (fun hc => ?_)
                  | (exfalso; omega)
                  | (refine l_o ?_; first | refine l_eqnil rfl (by kernel_rfl) (by intro b; simp only [nz]; rfl) (fun b hb => ?_) | refine l_op rfl (by first | (apply k_rem; first | exact ops_remn (n := 2) rfl rfl (by omega) | fail) | fail) (hk := ?_) | refine l_op (hk := ?_) | (refine l_g ?_; first | refine l_y rfl rfl rfl ?_ | refine l_n rfl rfl rfl rfl (hk := ?_) | refine l_n' rfl rfl rfl (hk := ?_) | refine l_spnd rfl rfl rfl (h1 := fun hc => ?_) (h2 := fun hc => ?_) | refine l_spd rfl rfl rfl (h1 := fun hc => ?_) (h2 := fun hc => ?_) | refine l_spn rfl rfl rfl (h1 := fun hc => ?_) (h2 := fun hc => ?_) | refine l_sp rfl rfl rfl (h1 := fun hc => ?_) (h2 := fun hc => ?_)))
                all_goals try exact absurd ((show w = true from by first | assumption | fail).symm.trans (show w = false from by first | assumption | fail)) (by decide)
                · rw [if_pos (by assumption)] at hst
                  refine rn_mk (i + 1) (by omega) (by omega) ?_
                  rw [hst]
                  refine le_eq (by (repeat' first | exact .nil | refine .keep ?_ | refine .any ?_); first | done | fail) rfl rfl
                · have h1 : ¬ w = true := by rw [‹w = false›]; simp
                  rw [if_neg h1, if_pos (by assumption)] at hst
                  refine rn_mk (i + 1) (by omega) (by omega) ?_
                  rw [hst]
                  refine le_eq (by (repeat' first | exact .nil | refine .keep ?_ | refine .any ?_); first | done | fail) rfl rfl
                · have h1 : ¬ w = true := by rw [‹w = false›]; simp
                  have h2 : ¬ a = true := by rw [‹a = false›]; simp
                  rw [if_neg h1, if_neg h2] at hst
                  refine rn_mk (i + 1) (by omega) (by omega) ?_
                  rw [hst]
                  refine le_eq (by (repeat' first | exact .nil | refine .keep ?_ | refine .any ?_); first | done | fail) rfl rfl
          · omega
        · repeat' first
            | refine w_seq ?_
            | refine w_block ?_
            | refine rb_n ?_
            | refine rb_ret ?_
            | refine rb_eq ?_
            | refine rb_ne (by rfl) ?_
            | refine w_exit ?_
            | refine rt_exit ?_
            | refine w_region ?_
            | refine l_nil ?_
            | refine rt_n ?_
            | refine w_ret ?_
            | refine rt_ret ?_
            | refine w_skip ?_
            | refine w_cond_t rfl ?_
            | refine w_cond_f rfl ?_
            | refine w_cnd rfl (fun hc => ?_) (fun hc => ?_)
            | refine w_cd rfl (fun hc => ?_) (fun hc => ?_)
            | refine w_cn rfl (fun hc => ?_) (fun hc => ?_)
            | refine w_cond rfl (fun hc => ?_) (fun hc => ?_)
            | (refine l_o ?_; first | refine l_eqnil rfl (by kernel_rfl) (by intro b; simp only [nz]; rfl) (fun b hb => ?_) | refine l_op rfl (by first | (apply k_mul; first | exact ops_muln (a := 2) rfl rfl (by omega) | fail) | fail) (hk := ?_) | refine l_op (hk := ?_) | (refine l_g ?_; first | refine l_y rfl rfl rfl ?_ | refine l_n rfl rfl rfl rfl (hk := ?_) | refine l_n' rfl rfl rfl (hk := ?_) | refine l_spnd rfl rfl rfl (h1 := fun hc => ?_) (h2 := fun hc => ?_) | refine l_spd rfl rfl rfl (h1 := fun hc => ?_) (h2 := fun hc => ?_) | refine l_spn rfl rfl rfl (h1 := fun hc => ?_) (h2 := fun hc => ?_) | refine l_sp rfl rfl rfl (h1 := fun hc => ?_) (h2 := fun hc => ?_)))
          all_goals try (exfalso; omega)
          obtain rfl : i = 2 * L.length := by omega
          have hbd : Bd (2 * L.length) q.2 := by rw [← hq]; exact bd_sRounds r (by omega) (by omega)
          have hbm := bd_scanA (nxt := nxtOf L R) (st := q.1) (r := r) hbd (by omega) (2 * L.length)
          generalize scanA (nxtOf L R) q.1 r q.2 (2 * L.length) = s at *
          refine w_loopm (ι := Nat) (fun k => [(15, RVn k)]) (fun k => [(32, 1, s.1.map RVn), (25, 1, ((s.1.take k).foldl stepB (q.1, s.2)).2.map RVi), (22, 1, ((s.1.take k).foldl stepB (q.1, s.2)).1.map RVi), (1, 2, [.agg [RNss L, RNss R]])]) (fun k => k ≤ s.1.length) (fun k => s.1.length - k) 0 (h0 := ?_) (hs := ?_) (round := ?_)
          · omega
          · refine le_eq (by (repeat' first | exact .nil | refine .keep ?_ | refine .any ?_); first | done | fail) rfl rfl
          · intro k hk
            have hfl := stepsB_len (s.1.take k) (q.1, s.2)
            have hbk := bd_stepsB (by omega) (s.1.take k) (q.1, s.2) hbm
            dsimp only at hfl
            by_cases hkl : k < s.1.length
            · have hst2 : (s.1.take (k + 1)).foldl stepB (q.1, s.2) = stepB ((s.1.take k).foldl stepB (q.1, s.2)) s.1[k] := by
                rw [List.take_succ_eq_append_getElem hkl, List.foldl_append]; rfl
              have b1 := hs3 _ (List.getElem_mem hkl)
              generalize (s.1.take k).foldl stepB (q.1, s.2) = p at *
              have b2 := hbk.gd (by omega) s.1[k]
              rw [stepB, gd (show s.1[k] < p.2.length by omega)] at hst2
              rw [gd (show s.1[k] < p.2.length by omega)] at b2
              have hx : (p.1.set s.1[k] 2).length = 2 * L.length := by simp; omega
              clear hst hfull hsr
              repeat' first
                | refine w_seq ?_
                | refine w_block ?_
                | refine rb_n ?_
                | refine rb_ret ?_
                | refine rb_eq ?_
                | refine rb_ne (by rfl) ?_
                | refine w_exit ?_
                | refine rt_exit ?_
                | refine w_region ?_
                | refine l_nil ?_
                | refine rt_n ?_
                | refine w_ret ?_
                | refine rt_ret ?_
                | refine w_skip ?_
                | refine w_cond_t rfl ?_
                | refine w_cond_f rfl ?_
                | refine w_cnd rfl (fun hc => ?_) (fun hc => ?_)
                | refine w_cd rfl (fun hc => ?_) (fun hc => ?_)
                | refine w_cn rfl (fun hc => ?_) (fun hc => ?_)
                | refine w_cond rfl (fun hc => ?_) (fun hc => ?_)
                | (exfalso; omega)
                | (refine l_o ?_; first | refine l_eqnil rfl (by kernel_rfl) (by intro b; simp only [nz]; rfl) (fun b hb => ?_) | refine l_op (hk := ?_) | (refine l_g ?_; first | refine l_y rfl rfl rfl ?_ | refine l_n rfl rfl rfl rfl (hk := ?_) | refine l_n' rfl rfl rfl (hk := ?_) | refine l_spnd rfl rfl rfl (h1 := fun hc => ?_) (h2 := fun hc => ?_) | refine l_spd rfl rfl rfl (h1 := fun hc => ?_) (h2 := fun hc => ?_) | refine l_spn rfl rfl rfl (h1 := fun hc => ?_) (h2 := fun hc => ?_) | refine l_sp rfl rfl rfl (h1 := fun hc => ?_) (h2 := fun hc => ?_)))
              · rw [if_pos (by assumption)] at hst2
                refine rn_mk (k + 1) (by omega) (by omega) ?_
                rw [hst2]
                refine le_eq (by (repeat' first | exact .nil | refine .keep ?_ | refine .any ?_); first | done | fail) rfl rfl
              · rw [if_neg (by assumption)] at hst2
                refine rn_mk (k + 1) (by omega) (by omega) ?_
                rw [hst2]
                refine le_eq (by (repeat' first | exact .nil | refine .keep ?_ | refine .any ?_); first | done | fail) rfl rfl
            · repeat' first
                | refine w_seq ?_
                | refine w_block ?_
                | refine rb_n ?_
                | refine rb_ret ?_
                | refine rb_eq ?_
                | refine rb_ne (by rfl) ?_
                | refine w_exit ?_
                | refine rt_exit ?_
                | refine w_region ?_
                | refine l_nil ?_
                | refine rt_n ?_
                | refine w_ret ?_
                | refine rt_ret ?_
                | refine w_skip ?_
                | refine w_cond_t rfl ?_
                | refine w_cond_f rfl ?_
                | refine w_cnd rfl (fun hc => ?_) (fun hc => ?_)
                | refine w_cd rfl (fun hc => ?_) (fun hc => ?_)
                | refine w_cn rfl (fun hc => ?_) (fun hc => ?_)
                | refine w_cond rfl (fun hc => ?_) (fun hc => ?_)
                | (exfalso; omega)
                | (refine l_o ?_; first | refine l_eqnil rfl (by kernel_rfl) (by intro b; simp only [nz]; rfl) (fun b hb => ?_) | refine l_op (hk := ?_) | (refine l_g ?_; first | refine l_y rfl rfl rfl ?_ | refine l_n rfl rfl rfl rfl (hk := ?_) | refine l_n' rfl rfl rfl (hk := ?_) | refine l_spnd rfl rfl rfl (h1 := fun hc => ?_) (h2 := fun hc => ?_) | refine l_spd rfl rfl rfl (h1 := fun hc => ?_) (h2 := fun hc => ?_) | refine l_spn rfl rfl rfl (h1 := fun hc => ?_) (h2 := fun hc => ?_) | refine l_sp rfl rfl rfl (h1 := fun hc => ?_) (h2 := fun hc => ?_)))
              obtain rfl : k = s.1.length := by omega
              rw [List.take_length] at *
              refine rn_mk (r + 1) (by omega) (by omega) ?_
              rw [hsr]
              refine le_dropd 32 (by simp only [nz]; rfl) (by simp only [nz, reduceIte, Nat.reduceEqDiff] <;> rfl) ?_
              refine le_eq (by (repeat' first | exact .nil | refine .keep ?_ | refine .any ?_); first | done | fail) rfl rfl
    · obtain rfl : r = 2 * L.length + 1 := by omega
      rw [hq]
      refine en_end (hf := Try.results54) (hr := ?_); simp only [ne, nf, nl, nr, lget, reduceIte, Nat.reduceEqDiff]; first | rfl | refine congrArg RVb ?_ | refine congrArg RVi ?_ | skip
end Go.Proofs.Ytoekdkoadienmaa
