/- ReadRows of the reference and of the program; its drawn law. For all texts of the lengths that texts have. -/
import Derived.Test.YtdignmbeiohhiaaCut
import Derived.Test.YtdignmbeiohhiaaRwLaws
namespace Go.Proofs.Ytdignmbeiohhiaa
open Eng
attribute [local irreducible] OpS OpG FC FCr Rel Fl Ef DR Fs
set_option linter.unusedSimpArgs false
set_option maxHeartbeats 0
set_option maxRecDepth 100000

/-- A line as a row. -/
def lineRw (x : List UInt8) : Option Rw := if posB 61 x < x.length then some (x.take (posB 61 x), x.drop (posB 61 x + 1)) else none
/-- Lines as rows; the last line is empty. -/
def linesRw : List (List UInt8) → Option (List Rw)
  | [] => none
  | x :: xs => match xs with
    | [] => if x = [] then some [] else none
    | _ :: _ => match lineRw x with
      | none => none
      | some r => (linesRw xs).map (r :: ·)
theorem spl_pos (b : UInt8) (acc s : List UInt8) : spl b acc s = if posB b s < s.length then (acc ++ s.take (posB b s)) :: spl b [] (s.drop (posB b s + 1)) else [acc ++ s] := by
  induction s generalizing acc with
  | nil => simp [spl, posB]
  | cons c s ih =>
    rw [spl, posB]
    by_cases h : c = b
    · simp [h]
    · rw [if_neg h, if_neg h, ih]
      by_cases h2 : posB b s < s.length
      · rw [if_pos h2, if_pos (by simp; omega)]; simp
      · rw [if_neg h2, if_neg (by simp; omega)]; simp
theorem spl_ne (b : UInt8) (acc s : List UInt8) : spl b acc s ≠ [] := by
  intro h
  have := spl_len b acc s
  rw [h] at this
  simp at this
def readRw (s : List UInt8) : Option (List Rw) := if 4000 < s.length then none else match linesRw (spl 10 [] s) with
  | none => none
  | some l => if goodRs l then some l else none
theorem linesRw_cons (x : List UInt8) (xs : List (List UInt8)) (h : xs ≠ []) : linesRw (x :: xs) = match lineRw x with | none => none | some r => (linesRw xs).map (r :: ·) := by
  cases xs with
  | nil => exact absurd rfl h
  | cons y ys => rfl
theorem lines_nil : linesRw (spl 10 [] []) = some [] := rfl
theorem lines_none (s : List UInt8) (h0 : s ≠ []) (h : ¬ posB 10 s < s.length) : linesRw (spl 10 [] s) = none := by
  rw [spl_pos, if_neg h, linesRw, if_neg (by simpa using h0)]
theorem lines_some (s : List UInt8) (h : posB 10 s < s.length) : linesRw (spl 10 [] s) = match lineRw (s.take (posB 10 s)) with | none => none | some r => (linesRw (spl 10 [] (s.drop (posB 10 s + 1)))).map (r :: ·) := by
  rw [spl_pos, if_pos h, linesRw_cons _ _ (spl_ne _ _ _), List.nil_append]
theorem lineRw_sm {x : List UInt8} {r : Rw} (h : lineRw x = some r) (hx : x.length ≤ 4000) : r.1.length ≤ 4000 ∧ r.2.length ≤ 4000 := by
  unfold lineRw at h
  split at h
  · injection h with h; subst h
    exact ⟨by simp; omega, by simp; omega⟩
  · cases h

theorem implRead_ok (s : List UInt8) (hs : s.length ≤ 9223372036854775807) : FCr Try.prog 35 [RV.str s] (.tup [ORws ((readRw s).getD []), RVb (readRw s).isSome]) := by
  refine (fcr_in Try.func35 rfl (by simp only [Try.ntmps35, anys, List.length_cons, List.length_nil, Nat.reduceAdd, Nat.reduceSub, List.replicate_succ, List.replicate_zero, List.cons_append, List.nil_append] <;> rfl) ?_)
  repeat' first
    | refine w_seq ?_
    | refine w_block ?_
    | refine rb_n ?_
    | refine rb_ret ?_
    | refine rb_eq ?_
    | refine rb_ne (by rfl) ?_
    | refine w_exit ?_
    | refine rt_exit ?_
    | refine w_region ?_
    | refine l_nil ?_
    | refine rt_n ?_
    | refine w_ret ?_
    | refine rt_ret ?_
    | refine w_skip ?_
    | refine w_cond_t rfl ?_
    | refine w_cond_f rfl ?_
    | refine w_cnd rfl (fun hc => ?_) (fun hc => ?_)
    | refine w_cd rfl (fun hc => ?_) (fun hc => ?_)
    | refine w_cn rfl (fun hc => ?_) (fun hc => ?_)
    | refine w_cond rfl (fun hc => ?_) (fun hc => ?_)
    | (refine l_o ?_; first | refine l_op (hk := ?_) | (refine l_g ?_; first | refine l_y rfl rfl rfl ?_ | refine l_n rfl rfl rfl rfl (hk := ?_) | refine l_n' rfl rfl rfl (hk := ?_) | refine l_spnd rfl rfl rfl (h1 := fun hc => ?_) (h2 := fun hc => ?_) | refine l_spd rfl rfl rfl (h1 := fun hc => ?_) (h2 := fun hc => ?_) | refine l_spn rfl rfl rfl (h1 := fun hc => ?_) (h2 := fun hc => ?_) | refine l_sp rfl rfl rfl (h1 := fun hc => ?_) (h2 := fun hc => ?_)))
  · refine en_endn ([ORws [], RVb false]) (hf := Try.results35) (hr := ?_); simp only [ne]; first | rfl | skip
    rw [readRw, if_pos (by omega)]
    rfl
  have hs4 : ¬ 4000 < s.length := by omega
  refine w_loopm (ι := List UInt8 × List Rw) (fun q => [(0, .str q.1), (4, .ref 14 0 q.2.length), (14, .any)]) (fun q => [(14, 2, q.2.map RRw)]) (fun q => q.1.length + q.2.length ≤ 4000 ∧ (∀ r ∈ q.2, r.1.length ≤ 4000 ∧ r.2.length ≤ 4000) ∧ (linesRw (spl 10 [] q.1)).map (q.2 ++ ·) = linesRw (spl 10 [] s)) (fun q => q.1.length) (s, []) (h0 := ?_) (hs := ?_) (round := ?_)
  · simp; omega
  · refine le_eq (by (repeat' first | exact .nil | refine .keep ?_ | refine .any ?_); first | done | fail) rfl rfl
  · intro ⟨t, rs⟩ ⟨h1, h2, h3⟩
    dsimp only at h1 h2 h3 ⊢
    by_cases h0 : t = []
    · subst h0
      rw [lines_nil] at h3
      simp only [Option.map_some, List.append_nil] at h3
      have hG := implGoodRs_ok rs (fun r hr => ⟨by have := (h2 r hr).1; omega, by have := (h2 r hr).2; omega⟩)
      cases eg : goodRs rs with
      | false =>
        rw [eg] at hG
        repeat' first
          | refine w_seq ?_
          | refine w_block ?_
          | refine rb_n ?_
          | refine rb_ret ?_
          | refine rb_eq ?_
          | refine rb_ne (by rfl) ?_
          | refine w_exit ?_
          | refine rt_exit ?_
          | refine w_region ?_
          | refine l_nil ?_
          | refine rt_n ?_
          | refine w_ret ?_
          | refine rt_ret ?_
          | refine w_skip ?_
          | refine w_cond_t rfl ?_
          | refine w_cond_f rfl ?_
          | refine w_cnd rfl (fun hc => ?_) (fun hc => ?_)
          | refine w_cd rfl (fun hc => ?_) (fun hc => ?_)
          | refine w_cn rfl (fun hc => ?_) (fun hc => ?_)
          | refine w_cond rfl (fun hc => ?_) (fun hc => ?_)
          | (exfalso; exact hc rfl)
          | (refine l_o ?_; first | refine l_op rfl (by first | (apply k_callf; first | exact ops_callz (hfc := hG) | fail) | fail) (hk := ?_) | refine l_op (hk := ?_) | (refine l_g ?_; first | refine l_y rfl rfl rfl ?_ | refine l_n rfl rfl rfl rfl (hk := ?_) | refine l_n' rfl rfl rfl (hk := ?_) | refine l_spnd rfl rfl rfl (h1 := fun hc => ?_) (h2 := fun hc => ?_) | refine l_spd rfl rfl rfl (h1 := fun hc => ?_) (h2 := fun hc => ?_) | refine l_spn rfl rfl rfl (h1 := fun hc => ?_) (h2 := fun hc => ?_) | refine l_sp rfl rfl rfl (h1 := fun hc => ?_) (h2 := fun hc => ?_)))
        refine en_endn ([ORws [], RVb false]) (hf := Try.results35) (hr := ?_); simp only [ne]; first | rfl | skip
        rw [readRw, if_neg hs4, ← h3]
        simp [eg]
      | true =>
        rw [eg] at hG
        repeat' first
          | refine w_seq ?_
          | refine w_block ?_
          | refine rb_n ?_
          | refine rb_ret ?_
          | refine rb_eq ?_
          | refine rb_ne (by rfl) ?_
          | refine w_exit ?_
          | refine rt_exit ?_
          | refine w_region ?_
          | refine l_nil ?_
          | refine rt_n ?_
          | refine w_ret ?_
          | refine rt_ret ?_
          | refine w_skip ?_
          | refine w_cond_t rfl ?_
          | refine w_cond_f rfl ?_
          | refine w_cnd rfl (fun hc => ?_) (fun hc => ?_)
          | refine w_cd rfl (fun hc => ?_) (fun hc => ?_)
          | refine w_cn rfl (fun hc => ?_) (fun hc => ?_)
          | refine w_cond rfl (fun hc => ?_) (fun hc => ?_)
          | (exfalso; exact hc rfl)
          | (refine l_o ?_; first | refine l_op rfl (by first | (apply k_callf; first | exact ops_callz (hfc := hG) | fail) | fail) (hk := ?_) | refine l_op (hk := ?_) | (refine l_g ?_; first | refine l_y rfl rfl rfl ?_ | refine l_n rfl rfl rfl rfl (hk := ?_) | refine l_n' rfl rfl rfl (hk := ?_) | refine l_spnd rfl rfl rfl (h1 := fun hc => ?_) (h2 := fun hc => ?_) | refine l_spd rfl rfl rfl (h1 := fun hc => ?_) (h2 := fun hc => ?_) | refine l_spn rfl rfl rfl (h1 := fun hc => ?_) (h2 := fun hc => ?_) | refine l_sp rfl rfl rfl (h1 := fun hc => ?_) (h2 := fun hc => ?_)))
        refine en_end (hf := Try.results35) (hr := ?_); simp only [ne, nf, nl, nr, lget, reduceIte, Nat.reduceEqDiff]; first | rfl | refine congrArg RVb ?_ | refine congrArg RVi ?_ | skip
        rw [readRw, if_neg hs4, ← h3]
        simp [eg]
    · by_cases hp : posB 10 t < t.length
      · have hC := cut_some t 10 hp (by omega)
        rw [lines_some t hp] at h3
        by_cases hq : posB 61 (t.take (posB 10 t)) < (t.take (posB 10 t)).length
        · have hC2 := cut_some (t.take (posB 10 t)) 61 hq (by simp; omega)
          have hline : lineRw (t.take (posB 10 t)) = some ((t.take (posB 10 t)).take (posB 61 (t.take (posB 10 t))), (t.take (posB 10 t)).drop (posB 61 (t.take (posB 10 t)) + 1)) := by rw [lineRw, if_pos hq]
          have hsm := lineRw_sm hline (by simp; omega)
          rw [hline] at h3
          have hd : (t.drop (posB 10 t + 1)).length = t.length - (posB 10 t + 1) := List.length_drop
          generalize (t.take (posB 10 t)).take (posB 61 (t.take (posB 10 t))) = K at *
          generalize (t.take (posB 10 t)).drop (posB 61 (t.take (posB 10 t)) + 1) = V at *
          generalize t.take (posB 10 t) = X at *
          generalize t.drop (posB 10 t + 1) = Y at *
          repeat' first
            | refine w_seq ?_
            | refine w_block ?_
            | refine rb_n ?_
            | refine rb_ret ?_
            | refine rb_eq ?_
            | refine rb_ne (by rfl) ?_
            | refine w_exit ?_
            | refine rt_exit ?_
            | refine w_region ?_
            | refine l_nil ?_
            | refine rt_n ?_
            | refine w_ret ?_
            | refine rt_ret ?_
            | refine w_skip ?_
            | refine w_cond_t rfl ?_
            | refine w_cond_f rfl ?_
            | refine w_cnd rfl (fun hc => ?_) (fun hc => ?_)
            | refine w_cd rfl (fun hc => ?_) (fun hc => ?_)
            | refine w_cn rfl (fun hc => ?_) (fun hc => ?_)
            | refine w_cond rfl (fun hc => ?_) (fun hc => ?_)
            | (exfalso; exact h0 (by first | assumption | exact Classical.not_not.1 hc))
            | (refine l_o ?_; first | refine l_op rfl (by first | (apply k_callf; first | exact ops_callf (d := 19) (hfc := hC) | exact ops_callf (d := 25) (hfc := hC2) | fail) | fail) (hk := ?_) | refine l_op (hk := ?_) | (refine l_g ?_; first | refine l_y rfl rfl rfl ?_ | refine l_n rfl rfl rfl rfl (hk := ?_) | refine l_n' rfl rfl rfl (hk := ?_) | refine l_spnd rfl rfl rfl (h1 := fun hc => ?_) (h2 := fun hc => ?_) | refine l_spd rfl rfl rfl (h1 := fun hc => ?_) (h2 := fun hc => ?_) | refine l_spn rfl rfl rfl (h1 := fun hc => ?_) (h2 := fun hc => ?_) | refine l_sp rfl rfl rfl (h1 := fun hc => ?_) (h2 := fun hc => ?_)))
          refine rn_mk (Y, rs ++ [(K, V)]) ?_ (by first | omega | (dsimp only; omega)) (le_eq (by (repeat' first | exact .nil | refine .keep ?_ | refine .any ?_); first | done | fail) rfl rfl)
          refine ⟨by simp; omega, ?_, ?_⟩
          · intro r hr
            rcases List.mem_append.1 hr with hr | hr
            · exact h2 r hr
            · rw [List.mem_singleton.1 hr]; exact hsm
          · dsimp only
            rw [← h3]
            cases linesRw (spl 10 [] Y) with
            | none => rfl
            | some z => simp
        · have hC2 := cut_none (t.take (posB 10 t)) 61 hq (by simp; omega)
          have hline : lineRw (t.take (posB 10 t)) = none := by rw [lineRw, if_neg hq]
          rw [hline] at h3
          generalize t.take (posB 10 t) = X at *
          generalize t.drop (posB 10 t + 1) = Y at *
          repeat' first
            | refine w_seq ?_
            | refine w_block ?_
            | refine rb_n ?_
            | refine rb_ret ?_
            | refine rb_eq ?_
            | refine rb_ne (by rfl) ?_
            | refine w_exit ?_
            | refine rt_exit ?_
            | refine w_region ?_
            | refine l_nil ?_
            | refine rt_n ?_
            | refine w_ret ?_
            | refine rt_ret ?_
            | refine w_skip ?_
            | refine w_cond_t rfl ?_
            | refine w_cond_f rfl ?_
            | refine w_cnd rfl (fun hc => ?_) (fun hc => ?_)
            | refine w_cd rfl (fun hc => ?_) (fun hc => ?_)
            | refine w_cn rfl (fun hc => ?_) (fun hc => ?_)
            | refine w_cond rfl (fun hc => ?_) (fun hc => ?_)
            | (exfalso; exact h0 (by first | assumption | exact Classical.not_not.1 hc))
            | (refine l_o ?_; first | refine l_op rfl (by first | (apply k_callf; first | exact ops_callf (d := 19) (hfc := hC) | exact ops_callf (d := 25) (hfc := hC2) | fail) | fail) (hk := ?_) | refine l_op (hk := ?_) | (refine l_g ?_; first | refine l_y rfl rfl rfl ?_ | refine l_n rfl rfl rfl rfl (hk := ?_) | refine l_n' rfl rfl rfl (hk := ?_) | refine l_spnd rfl rfl rfl (h1 := fun hc => ?_) (h2 := fun hc => ?_) | refine l_spd rfl rfl rfl (h1 := fun hc => ?_) (h2 := fun hc => ?_) | refine l_spn rfl rfl rfl (h1 := fun hc => ?_) (h2 := fun hc => ?_) | refine l_sp rfl rfl rfl (h1 := fun hc => ?_) (h2 := fun hc => ?_)))
          refine en_endn ([ORws [], RVb false]) (hf := Try.results35) (hr := ?_); simp only [ne]; first | rfl | skip
          rw [readRw, if_neg hs4, ← h3]
          rfl
      · have hC := cut_none t 10 hp (by omega)
        rw [lines_none t h0 hp] at h3
        by_cases hq : posB 61 t < t.length
        · have hC2 := cut_some t 61 hq (by omega)
          repeat' first
            | refine w_seq ?_
            | refine w_block ?_
            | refine rb_n ?_
            | refine rb_ret ?_
            | refine rb_eq ?_
            | refine rb_ne (by rfl) ?_
            | refine w_exit ?_
            | refine rt_exit ?_
            | refine w_region ?_
            | refine l_nil ?_
            | refine rt_n ?_
            | refine w_ret ?_
            | refine rt_ret ?_
            | refine w_skip ?_
            | refine w_cond_t rfl ?_
            | refine w_cond_f rfl ?_
            | refine w_cnd rfl (fun hc => ?_) (fun hc => ?_)
            | refine w_cd rfl (fun hc => ?_) (fun hc => ?_)
            | refine w_cn rfl (fun hc => ?_) (fun hc => ?_)
            | refine w_cond rfl (fun hc => ?_) (fun hc => ?_)
            | (exfalso; exact h0 (by first | assumption | exact Classical.not_not.1 hc))
            | (refine l_o ?_; first | refine l_op rfl (by first | (apply k_callf; first | exact ops_callf (d := 19) (hfc := hC) | exact ops_callf (d := 25) (hfc := hC2) | fail) | fail) (hk := ?_) | refine l_op (hk := ?_) | (refine l_g ?_; first | refine l_y rfl rfl rfl ?_ | refine l_n rfl rfl rfl rfl (hk := ?_) | refine l_n' rfl rfl rfl (hk := ?_) | refine l_spnd rfl rfl rfl (h1 := fun hc => ?_) (h2 := fun hc => ?_) | refine l_spd rfl rfl rfl (h1 := fun hc => ?_) (h2 := fun hc => ?_) | refine l_spn rfl rfl rfl (h1 := fun hc => ?_) (h2 := fun hc => ?_) | refine l_sp rfl rfl rfl (h1 := fun hc => ?_) (h2 := fun hc => ?_)))
          refine en_endn ([ORws [], RVb false]) (hf := Try.results35) (hr := ?_); simp only [ne]; first | rfl | skip
          rw [readRw, if_neg hs4, ← h3]
          rfl
        · have hC2 := cut_none t 61 hq (by omega)
          repeat' first
            | refine w_seq ?_
            | refine w_block ?_
            | refine rb_n ?_
            | refine rb_ret ?_
            | refine rb_eq ?_
            | refine rb_ne (by rfl) ?_
            | refine w_exit ?_
            | refine rt_exit ?_
            | refine w_region ?_
            | refine l_nil ?_
            | refine rt_n ?_
            | refine w_ret ?_
            | refine rt_ret ?_
            | refine w_skip ?_
            | refine w_cond_t rfl ?_
            | refine w_cond_f rfl ?_
            | refine w_cnd rfl (fun hc => ?_) (fun hc => ?_)
            | refine w_cd rfl (fun hc => ?_) (fun hc => ?_)
            | refine w_cn rfl (fun hc => ?_) (fun hc => ?_)
            | refine w_cond rfl (fun hc => ?_) (fun hc => ?_)
            | (exfalso; exact h0 (by first | assumption | exact Classical.not_not.1 hc))
            | (refine l_o ?_; first | refine l_op rfl (by first | (apply k_callf; first | exact ops_callf (d := 19) (hfc := hC) | exact ops_callf (d := 25) (hfc := hC2) | fail) | fail) (hk := ?_) | refine l_op (hk := ?_) | (refine l_g ?_; first | refine l_y rfl rfl rfl ?_ | refine l_n rfl rfl rfl rfl (hk := ?_) | refine l_n' rfl rfl rfl (hk := ?_) | refine l_spnd rfl rfl rfl (h1 := fun hc => ?_) (h2 := fun hc => ?_) | refine l_spd rfl rfl rfl (h1 := fun hc => ?_) (h2 := fun hc => ?_) | refine l_spn rfl rfl rfl (h1 := fun hc => ?_) (h2 := fun hc => ?_) | refine l_sp rfl rfl rfl (h1 := fun hc => ?_) (h2 := fun hc => ?_)))
          refine en_endn ([ORws [], RVb false]) (hf := Try.results35) (hr := ?_); simp only [ne]; first | rfl | skip
          rw [readRw, if_neg hs4, ← h3]
          rfl

theorem spl_sm (b : UInt8) (acc s : List UInt8) : ∀ x ∈ spl b acc s, x.length ≤ acc.length + s.length := by
  induction s generalizing acc with
  | nil => simp [spl]
  | cons c s ih =>
    rw [spl]
    split
    · intro x hx
      rcases List.mem_cons.1 hx with rfl | hx
      · omega
      · have := ih [] x hx
        simp at this ⊢; omega
    · intro x hx
      have := ih _ x hx
      simp at this ⊢; omega
theorem posB_ne (b : UInt8) (s : List UInt8) (k : Nat) (h : k < posB b s) (hk : k < s.length) : s[k] ≠ b := by
  induction s generalizing k with
  | nil => simp at hk
  | cons c s ih =>
    rw [posB] at h
    split at h
    · omega
    · rename_i hc
      cases k with
      | zero => exact hc
      | succ k => exact ih k (by omega) (by simpa using hk)
theorem posB_at (b : UInt8) (s : List UInt8) (h : posB b s < s.length) : s[posB b s] = b := by
  induction s with
  | nil => simp at h
  | cons c s ih =>
    by_cases hc : c = b
    · have e : posB b (c :: s) = 0 := by rw [posB, if_pos hc]
      simp only [e]
      exact hc
    · have e : posB b (c :: s) = posB b s + 1 := by rw [posB, if_neg hc]
      simp only [e]
      exact ih (by rw [e] at h; simpa using h)
theorem readRw_len (s : List UInt8) : ((readRw s).getD []).length ≤ 60 := by
  unfold readRw
  split
  · simp
  · split
    · simp
    · rename_i l _
      by_cases h : goodRs l = true
      · rw [if_pos h]; exact goodRs_len h
      · rw [if_neg h]; simp
end Go.Proofs.Ytdignmbeiohhiaa
