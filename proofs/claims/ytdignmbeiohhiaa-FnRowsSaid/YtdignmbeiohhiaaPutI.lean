/- PutRow of the program and of the reference. For all rows of the lengths that the theorems name. -/
import Derived.Test.YtdignmbeiohhiaaCloneR
import Derived.Test.YtdignmbeiohhiaaInsE
import Derived.Test.YtdignmbeiohhiaaPutRw
import Derived.Test.YtdignmbeiohhiaaRwFns
namespace Go.Proofs.Ytdignmbeiohhiaa
open Eng
attribute [local irreducible] OpS OpG FC FCr Rel Fl Ef DR Fs
set_option linter.unusedSimpArgs false
set_option maxHeartbeats 0
set_option maxRecDepth 100000

theorem putRw_plc {r : Rw} : ∀ {l : List Rw} {i : Nat}, Plc l r.1 i → putRw r l = if isAt l r.1 i = true then l.set i r else l.take i ++ r :: l.drop i
  | [], i, h => by
    have := h.le
    obtain rfl : i = 0 := by simpa using this
    rfl
  | q :: qs, i, h => by
    cases hb : bl q.1 r.1 with
    | true =>
      cases i with
      | zero =>
        have := h.hi 0 (by simp) (Nat.le_refl _)
        rw [List.getElem_cons_zero, hb] at this; cases this
      | succ j =>
        have hj : Plc qs r.1 j := ⟨by have := h.le; simpa using this, fun a ha => by have := h.lo (a + 1) (by omega); simpa using this, fun a ha hja => by have := h.hi (a + 1) (by simpa using ha) (by omega); simpa using this⟩
        rw [putRw, if_pos hb, putRw_plc hj]
        have e : isAt (q :: qs) r.1 (j + 1) = isAt qs r.1 j := by simp [isAt]
        rw [e]
        split
        · rw [List.set_cons_succ]
        · rw [List.take_succ_cons, List.drop_succ_cons, List.cons_append]
    | false =>
      have hi0 : i = 0 := by
        rcases Nat.eq_zero_or_pos i with e | e
        · exact e
        · have := h.lo 0 e
          rw [List.getElem_cons_zero, hb] at this; cases this
      subst hi0
      rw [putRw, if_neg (by rw [hb]; simp)]
      have e : isAt (q :: qs) r.1 0 = decide (q.1 = r.1) := by simp [isAt]
      rw [e]
      by_cases he : q.1 = r.1
      · rw [if_pos he, if_pos (decide_eq_true he)]; rfl
      · rw [if_neg he, if_neg (by simpa using he)]; rfl
theorem chk_cons {p : Option (List UInt8)} {r : Rw} {rs : List Rw} : chk p (r :: rs) = true ↔ goodRw r = true ∧ (∀ q, p = some q → bl q r.1 = true) ∧ chk (some r.1) rs = true := by
  rw [chk]
  constructor
  · intro h
    split at h
    · cases h
    · rename_i h1
      split at h
      · cases h
      · rename_i h2
        refine ⟨by simpa using h1, fun q hq => ?_, h⟩
        cases hb : bl q r.1 with
        | true => rfl
        | false => exact absurd ⟨q, hq, hb⟩ h2
  · rintro ⟨h1, h2, h3⟩
    rw [if_neg (by rw [h1]; simp), if_neg (by rintro ⟨q, hq, hb⟩; rw [h2 q hq] at hb; cases hb)]
    exact h3
theorem chk_put {r : Rw} (hr : goodRw r = true) : ∀ {l : List Rw} {p : Option (List UInt8)}, chk p l = true → (∀ q, p = some q → bl q r.1 = true) → chk p (putRw r l) = true
  | [], p, _, hp => chk_cons.2 ⟨hr, hp, rfl⟩
  | q :: qs, p, h, hp => by
    obtain ⟨h1, h2, h3⟩ := chk_cons.1 h
    rw [putRw]
    cases hb : bl q.1 r.1 with
    | true =>
      rw [if_pos rfl]
      exact chk_cons.2 ⟨h1, h2, chk_put hr h3 fun x hx => by cases hx; exact hb⟩
    | false =>
      rw [if_neg (by simp)]
      split
      · rename_i he
        exact chk_cons.2 ⟨hr, hp, by rw [← he]; exact h3⟩
      · rename_i he
        refine chk_cons.2 ⟨hr, hp, chk_cons.2 ⟨h1, fun x hx => ?_, h3⟩⟩
        cases hx
        rcases bl_tri _ _ hb with e | e
        · exact absurd e he
        · exact e
theorem goodRs_put {l : List Rw} {r : Rw} (h : goodRs l = true) (hr : goodRw r = true) : goodRs (putRw r l) = decide ((putRw r l).length ≤ 60) := by
  unfold goodRs at h ⊢
  split at h
  · cases h
  · by_cases hl : 60 < (putRw r l).length
    · rw [if_pos hl, decide_eq_false (by omega)]
    · rw [if_neg hl, decide_eq_true (by omega)]
      exact chk_put hr h fun q hq => by cases hq
def putOk (l : List Rw) (r : Rw) : Bool := goodRs l && goodRw r && decide ((putRw r l).length ≤ 60)
def putR (l : List Rw) (r : Rw) : List Rw := if putOk l r = true then putRw r l else []
theorem putR_len (l : List Rw) (r : Rw) : (putR l r).length ≤ 60 := by
  unfold putR
  split
  · rename_i h
    unfold putOk at h
    simp only [Bool.and_eq_true, decide_eq_true_eq] at h
    exact h.2
  · simp
theorem specPut_ok (l : List Rw) (r : Rw) (hl : ∀ q ∈ l, smRw q) (hr : smRw r) : FCr Try.prog 16 [RRws l, RRw r] (.tup [ORws (putR l r), RVb (putOk l r)]) := by
  have hG := specGoodRs_ok l hl
  have hR := l27Row_ok r hr.len (by have := hr.1; omega)
  unfold putR
  cases ho : putOk l r with
  | false =>
    rw [if_neg (by simp)]
    unfold putOk at ho
    cases eg : goodRs l with
    | false =>
      rw [eg] at hG
      refine (fcr_in Try.func16 rfl (by simp only [Try.ntmps16, anys, List.length_cons, List.length_nil, Nat.reduceAdd, Nat.reduceSub, List.replicate_succ, List.replicate_zero, List.cons_append, List.nil_append] <;> rfl) ?_)
      repeat' first
        | refine w_seq ?_
        | refine w_region ?_
        | refine l_nil ?_
        | refine rt_n ?_
        | refine w_ret ?_
        | refine rt_ret ?_
        | refine w_skip ?_
        | refine w_cond_t rfl ?_
        | refine w_cond_f rfl ?_
        | refine w_cnd rfl (fun hc => ?_) (fun hc => ?_)
        | refine w_cd rfl (fun hc => ?_) (fun hc => ?_)
        | refine w_cn rfl (fun hc => ?_) (fun hc => ?_)
        | refine w_cond rfl (fun hc => ?_) (fun hc => ?_)
        | (refine l_o ?_; first | refine l_op rfl (by first | (apply k_callf; first | exact ops_callf (d := 8) (hfc := hG) | fail) | fail) (hk := ?_) | refine l_op (hk := ?_) | (refine l_g ?_; first | refine l_y rfl rfl rfl ?_ | refine l_n rfl rfl rfl rfl (hk := ?_) | refine l_n' rfl rfl rfl (hk := ?_) | refine l_spnd rfl rfl rfl (h1 := fun hc => ?_) (h2 := fun hc => ?_) | refine l_spd rfl rfl rfl (h1 := fun hc => ?_) (h2 := fun hc => ?_) | refine l_spn rfl rfl rfl (h1 := fun hc => ?_) (h2 := fun hc => ?_) | refine l_sp rfl rfl rfl (h1 := fun hc => ?_) (h2 := fun hc => ?_)))
      refine en_endn ([ORws [], RVb false]) (hf := Try.results16) (hr := ?_); simp only [ne]; first | rfl | skip
    | true =>
      have h60 := goodRs_len eg
      rw [eg] at hG
      cases er : goodRw r with
      | false =>
        rw [er] at hR
        refine (fcr_in Try.func16 rfl (by simp only [Try.ntmps16, anys, List.length_cons, List.length_nil, Nat.reduceAdd, Nat.reduceSub, List.replicate_succ, List.replicate_zero, List.cons_append, List.nil_append] <;> rfl) ?_)
        repeat' first
          | refine w_seq ?_
          | refine w_region ?_
          | refine l_nil ?_
          | refine rt_n ?_
          | refine w_ret ?_
          | refine rt_ret ?_
          | refine w_skip ?_
          | refine w_cond_t rfl ?_
          | refine w_cond_f rfl ?_
          | refine w_cnd rfl (fun hc => ?_) (fun hc => ?_)
          | refine w_cd rfl (fun hc => ?_) (fun hc => ?_)
          | refine w_cn rfl (fun hc => ?_) (fun hc => ?_)
          | refine w_cond rfl (fun hc => ?_) (fun hc => ?_)
          | (refine l_o ?_; first | refine l_op rfl (by first | (apply k_callf; first | exact ops_callf (d := 8) (hfc := hG) | exact ops_callf (d := 12) (hfc := hR) | fail) | fail) (hk := ?_) | refine l_op (hk := ?_) | (refine l_g ?_; first | refine l_y rfl rfl rfl ?_ | refine l_n rfl rfl rfl rfl (hk := ?_) | refine l_n' rfl rfl rfl (hk := ?_) | refine l_spnd rfl rfl rfl (h1 := fun hc => ?_) (h2 := fun hc => ?_) | refine l_spd rfl rfl rfl (h1 := fun hc => ?_) (h2 := fun hc => ?_) | refine l_spn rfl rfl rfl (h1 := fun hc => ?_) (h2 := fun hc => ?_) | refine l_sp rfl rfl rfl (h1 := fun hc => ?_) (h2 := fun hc => ?_)))
        refine en_endn ([ORws [], RVb false]) (hf := Try.results16) (hr := ?_); simp only [ne]; first | rfl | skip
      | true =>
        rw [er] at hR
        have hP := l27Put_ok l r (by omega) hl hr
        have hG2 := specGoodRs_ok (putRw r l) fun q hq => (putRw_mem hq).elim (fun e => e ▸ hr) (hl q)
        rw [goodRs_put eg er] at hG2
        rw [eg, er, Bool.true_and, Bool.true_and] at ho
        rw [ho] at hG2
        refine (fcr_in Try.func16 rfl (by simp only [Try.ntmps16, anys, List.length_cons, List.length_nil, Nat.reduceAdd, Nat.reduceSub, List.replicate_succ, List.replicate_zero, List.cons_append, List.nil_append] <;> rfl) ?_)
        repeat' first
          | refine w_seq ?_
          | refine w_region ?_
          | refine l_nil ?_
          | refine rt_n ?_
          | refine w_ret ?_
          | refine rt_ret ?_
          | refine w_skip ?_
          | refine w_cond_t rfl ?_
          | refine w_cond_f rfl ?_
          | refine w_cnd rfl (fun hc => ?_) (fun hc => ?_)
          | refine w_cd rfl (fun hc => ?_) (fun hc => ?_)
          | refine w_cn rfl (fun hc => ?_) (fun hc => ?_)
          | refine w_cond rfl (fun hc => ?_) (fun hc => ?_)
          | (refine l_o ?_; first | refine l_op rfl (by first | (apply k_callf; first | exact ops_callf (d := 8) (hfc := hG) | exact ops_callf (d := 12) (hfc := hR) | exact ops_callv (d := 17) (hfc := hP) | exact ops_callz (d := 19) (hfc := hG2) | fail) | fail) (hk := ?_) | refine l_op (hk := ?_) | (refine l_g ?_; first | refine l_y rfl rfl rfl ?_ | refine l_n rfl rfl rfl rfl (hk := ?_) | refine l_n' rfl rfl rfl (hk := ?_) | refine l_spnd rfl rfl rfl (h1 := fun hc => ?_) (h2 := fun hc => ?_) | refine l_spd rfl rfl rfl (h1 := fun hc => ?_) (h2 := fun hc => ?_) | refine l_spn rfl rfl rfl (h1 := fun hc => ?_) (h2 := fun hc => ?_) | refine l_sp rfl rfl rfl (h1 := fun hc => ?_) (h2 := fun hc => ?_)))
        refine en_endn ([ORws [], RVb false]) (hf := Try.results16) (hr := ?_); simp only [ne]; first | rfl | skip
  | true =>
    rw [if_pos rfl]
    unfold putOk at ho
    simp only [Bool.and_eq_true] at ho
    obtain ⟨⟨eg, er⟩, hd⟩ := ho
    have h60 := goodRs_len eg
    rw [eg] at hG
    rw [er] at hR
    have hP := l27Put_ok l r (by omega) hl hr
    have hG2 := specGoodRs_ok (putRw r l) fun q hq => (putRw_mem hq).elim (fun e => e ▸ hr) (hl q)
    rw [goodRs_put eg er, hd] at hG2
    generalize putRw r l = A at *
    refine (fcr_in Try.func16 rfl (by simp only [Try.ntmps16, anys, List.length_cons, List.length_nil, Nat.reduceAdd, Nat.reduceSub, List.replicate_succ, List.replicate_zero, List.cons_append, List.nil_append] <;> rfl) ?_)
    repeat' first
      | refine w_seq ?_
      | refine w_region ?_
      | refine l_nil ?_
      | refine rt_n ?_
      | refine w_ret ?_
      | refine rt_ret ?_
      | refine w_skip ?_
      | refine w_cond_t rfl ?_
      | refine w_cond_f rfl ?_
      | refine w_cnd rfl (fun hc => ?_) (fun hc => ?_)
      | refine w_cd rfl (fun hc => ?_) (fun hc => ?_)
      | refine w_cn rfl (fun hc => ?_) (fun hc => ?_)
      | refine w_cond rfl (fun hc => ?_) (fun hc => ?_)
      | (refine l_o ?_; first | refine l_op rfl (by first | (apply k_callf; first | exact ops_callf (d := 8) (hfc := hG) | exact ops_callf (d := 12) (hfc := hR) | exact ops_callv (d := 17) (hfc := hP) | exact ops_callz (d := 19) (hfc := hG2) | fail) | fail) (hk := ?_) | refine l_op (hk := ?_) | (refine l_g ?_; first | refine l_y rfl rfl rfl ?_ | refine l_n rfl rfl rfl rfl (hk := ?_) | refine l_n' rfl rfl rfl (hk := ?_) | refine l_spnd rfl rfl rfl (h1 := fun hc => ?_) (h2 := fun hc => ?_) | refine l_spd rfl rfl rfl (h1 := fun hc => ?_) (h2 := fun hc => ?_) | refine l_spn rfl rfl rfl (h1 := fun hc => ?_) (h2 := fun hc => ?_) | refine l_sp rfl rfl rfl (h1 := fun hc => ?_) (h2 := fun hc => ?_)))
    refine en_end (hf := Try.results16) (hr := ?_); simp only [ne, nf, nl, nr, lget, reduceIte, Nat.reduceEqDiff]; first | rfl | refine congrArg RVb ?_ | refine congrArg RVi ?_ | skip
theorem implPut_ok (l : List Rw) (r : Rw) (hl : ∀ q ∈ l, smRw q) (hr : smRw r) : FCr Try.prog 19 [RRws l, RRw r] (.tup [ORws (putR l r), RVb (putOk l r)]) := by
  have hG := implGoodRs_ok l hl
  have hR := goodRow_ok r hr.len
  unfold putR putOk
  cases eg : goodRs l with
  | false =>
    rw [eg] at hG
    rw [Bool.false_and, Bool.false_and, if_neg (by simp)]
    refine (fcr_in Try.func19 rfl (by simp only [Try.ntmps19, anys, List.length_cons, List.length_nil, Nat.reduceAdd, Nat.reduceSub, List.replicate_succ, List.replicate_zero, List.cons_append, List.nil_append] <;> rfl) ?_)
    repeat' first
      | refine w_seq ?_
      | refine w_region ?_
      | refine l_nil ?_
      | refine rt_n ?_
      | refine w_ret ?_
      | refine rt_ret ?_
      | refine w_skip ?_
      | refine w_cond_t rfl ?_
      | refine w_cond_f rfl ?_
      | refine w_cnd rfl (fun hc => ?_) (fun hc => ?_)
      | refine w_cd rfl (fun hc => ?_) (fun hc => ?_)
      | refine w_cn rfl (fun hc => ?_) (fun hc => ?_)
      | refine w_cond rfl (fun hc => ?_) (fun hc => ?_)
      | (refine l_o ?_; first | refine l_op rfl (by first | (apply k_callf; first | exact ops_callf (d := 10) (hfc := hG) | fail) | fail) (hk := ?_) | refine l_op (hk := ?_) | (refine l_g ?_; first | refine l_y rfl rfl rfl ?_ | refine l_n rfl rfl rfl rfl (hk := ?_) | refine l_n' rfl rfl rfl (hk := ?_) | refine l_spnd rfl rfl rfl (h1 := fun hc => ?_) (h2 := fun hc => ?_) | refine l_spd rfl rfl rfl (h1 := fun hc => ?_) (h2 := fun hc => ?_) | refine l_spn rfl rfl rfl (h1 := fun hc => ?_) (h2 := fun hc => ?_) | refine l_sp rfl rfl rfl (h1 := fun hc => ?_) (h2 := fun hc => ?_)))
    refine en_endn ([ORws [], RVb false]) (hf := Try.results19) (hr := ?_); simp only [ne]; first | rfl | skip
  | true =>
    have h60 := goodRs_len eg
    rw [eg] at hG
    rw [Bool.true_and]
    cases er : goodRw r with
    | false =>
      rw [er] at hR
      rw [Bool.false_and, if_neg (by simp)]
      refine (fcr_in Try.func19 rfl (by simp only [Try.ntmps19, anys, List.length_cons, List.length_nil, Nat.reduceAdd, Nat.reduceSub, List.replicate_succ, List.replicate_zero, List.cons_append, List.nil_append] <;> rfl) ?_)
      repeat' first
        | refine w_seq ?_
        | refine w_region ?_
        | refine l_nil ?_
        | refine rt_n ?_
        | refine w_ret ?_
        | refine rt_ret ?_
        | refine w_skip ?_
        | refine w_cond_t rfl ?_
        | refine w_cond_f rfl ?_
        | refine w_cnd rfl (fun hc => ?_) (fun hc => ?_)
        | refine w_cd rfl (fun hc => ?_) (fun hc => ?_)
        | refine w_cn rfl (fun hc => ?_) (fun hc => ?_)
        | refine w_cond rfl (fun hc => ?_) (fun hc => ?_)
        | (refine l_o ?_; first | refine l_op rfl (by first | (apply k_callf; first | exact ops_callf (d := 10) (hfc := hG) | exact ops_callf (d := 14) (hfc := hR) | fail) | fail) (hk := ?_) | refine l_op (hk := ?_) | (refine l_g ?_; first | refine l_y rfl rfl rfl ?_ | refine l_n rfl rfl rfl rfl (hk := ?_) | refine l_n' rfl rfl rfl (hk := ?_) | refine l_spnd rfl rfl rfl (h1 := fun hc => ?_) (h2 := fun hc => ?_) | refine l_spd rfl rfl rfl (h1 := fun hc => ?_) (h2 := fun hc => ?_) | refine l_spn rfl rfl rfl (h1 := fun hc => ?_) (h2 := fun hc => ?_) | refine l_sp rfl rfl rfl (h1 := fun hc => ?_) (h2 := fun hc => ?_)))
      refine en_endn ([ORws [], RVb false]) (hf := Try.results19) (hr := ?_); simp only [ne]; first | rfl | skip
    | true =>
      rw [er] at hR
      rw [Bool.true_and]
      obtain ⟨i, hi⟩ := plc_ex r.1 l (goodRs_srt eg)
      have hP := placeOf_ok l r.1 i hi (by omega)
      have hA := putRw_plc hi
      have hil := hi.le
      have hCl := cloneRw_ok l (by omega)
      have hIn := insRow_ok l i r hil (by omega)
      cases ei : isAt l r.1 i with
      | true =>
        have hil2 : i < l.length := by
          rcases Nat.lt_or_ge i l.length with h | h
          · exact h
          · rw [isAt, List.getElem?_eq_none h] at ei; cases ei
        rw [ei] at hP
        rw [ei, if_pos rfl] at hA
        rw [hA]
        have hsl : (l.set i r).length ≤ 60 := by rw [List.length_set]; exact h60
        rw [decide_eq_true hsl, if_pos rfl]
        refine (fcr_in Try.func19 rfl (by simp only [Try.ntmps19, anys, List.length_cons, List.length_nil, Nat.reduceAdd, Nat.reduceSub, List.replicate_succ, List.replicate_zero, List.cons_append, List.nil_append] <;> rfl) ?_)
        repeat' first
          | refine w_seq ?_
          | refine w_region ?_
          | refine l_nil ?_
          | refine rt_n ?_
          | refine w_ret ?_
          | refine rt_ret ?_
          | refine w_skip ?_
          | refine w_cond_t rfl ?_
          | refine w_cond_f rfl ?_
          | refine w_cnd rfl (fun hc => ?_) (fun hc => ?_)
          | refine w_cd rfl (fun hc => ?_) (fun hc => ?_)
          | refine w_cn rfl (fun hc => ?_) (fun hc => ?_)
          | refine w_cond rfl (fun hc => ?_) (fun hc => ?_)
          | (exfalso; omega)
          | (refine l_o ?_; first | refine l_op rfl (by first | (apply k_callf; first | exact ops_callf (d := 10) (hfc := hG) | exact ops_callf (d := 14) (hfc := hR) | exact ops_callf (d := 21) (hfc := hP) | exact ops_callv (d := 25) (hfc := hCl) | fail) | fail) (hk := ?_) | refine l_op (hk := ?_) | (refine l_g ?_; first | refine l_y rfl rfl rfl ?_ | refine l_n rfl rfl rfl rfl (hk := ?_) | refine l_n' rfl rfl rfl (hk := ?_) | refine l_spnd rfl rfl rfl (h1 := fun hc => ?_) (h2 := fun hc => ?_) | refine l_spd rfl rfl rfl (h1 := fun hc => ?_) (h2 := fun hc => ?_) | refine l_spn rfl rfl rfl (h1 := fun hc => ?_) (h2 := fun hc => ?_) | refine l_sp rfl rfl rfl (h1 := fun hc => ?_) (h2 := fun hc => ?_)))
        rw [show l.length = (l.set i (r.1, r.2)).length from List.length_set.symm]
        refine en_end (hf := Try.results19) (hr := ?_); simp only [ne, nf, nl, nr, lget, reduceIte, Nat.reduceEqDiff]; first | rfl | refine congrArg RVb ?_ | refine congrArg RVi ?_ | skip
      | false =>
        rw [ei] at hP
        rw [ei, if_neg (by simp)] at hA
        rw [hA]
        generalize l.take i ++ r :: l.drop i = A at *
        by_cases hA60 : A.length ≤ 60
        · rw [decide_eq_true hA60, if_pos rfl]
          refine (fcr_in Try.func19 rfl (by simp only [Try.ntmps19, anys, List.length_cons, List.length_nil, Nat.reduceAdd, Nat.reduceSub, List.replicate_succ, List.replicate_zero, List.cons_append, List.nil_append] <;> rfl) ?_)
          repeat' first
            | refine w_seq ?_
            | refine w_region ?_
            | refine l_nil ?_
            | refine rt_n ?_
            | refine w_ret ?_
            | refine rt_ret ?_
            | refine w_skip ?_
            | refine w_cond_t rfl ?_
            | refine w_cond_f rfl ?_
            | refine w_cnd rfl (fun hc => ?_) (fun hc => ?_)
            | refine w_cd rfl (fun hc => ?_) (fun hc => ?_)
            | refine w_cn rfl (fun hc => ?_) (fun hc => ?_)
            | refine w_cond rfl (fun hc => ?_) (fun hc => ?_)
            | (exfalso; omega)
            | (refine l_o ?_; first | refine l_op rfl (by first | (apply k_callf; first | exact ops_callG (d := 35) [25, 34] [25, 34] ([]) (hfc := hIn) | exact ops_callf (d := 10) (hfc := hG) | exact ops_callf (d := 14) (hfc := hR) | exact ops_callf (d := 21) (hfc := hP) | exact ops_callv (d := 25) (hfc := hCl) | fail) | fail) (hk := ?_) | refine l_op (hk := ?_) | (refine l_g ?_; first | refine l_y rfl rfl rfl ?_ | refine l_n rfl rfl rfl rfl (hk := ?_) | refine l_n' rfl rfl rfl (hk := ?_) | refine l_spnd rfl rfl rfl (h1 := fun hc => ?_) (h2 := fun hc => ?_) | refine l_spd rfl rfl rfl (h1 := fun hc => ?_) (h2 := fun hc => ?_) | refine l_spn rfl rfl rfl (h1 := fun hc => ?_) (h2 := fun hc => ?_) | refine l_sp rfl rfl rfl (h1 := fun hc => ?_) (h2 := fun hc => ?_)))
          refine en_end (hf := Try.results19) (hr := ?_); simp only [ne, nf, nl, nr, lget, reduceIte, Nat.reduceEqDiff]; first | rfl | refine congrArg RVb ?_ | refine congrArg RVi ?_ | skip
        · rw [decide_eq_false hA60, if_neg (by simp)]
          refine (fcr_in Try.func19 rfl (by simp only [Try.ntmps19, anys, List.length_cons, List.length_nil, Nat.reduceAdd, Nat.reduceSub, List.replicate_succ, List.replicate_zero, List.cons_append, List.nil_append] <;> rfl) ?_)
          repeat' first
            | refine w_seq ?_
            | refine w_region ?_
            | refine l_nil ?_
            | refine rt_n ?_
            | refine w_ret ?_
            | refine rt_ret ?_
            | refine w_skip ?_
            | refine w_cond_t rfl ?_
            | refine w_cond_f rfl ?_
            | refine w_cnd rfl (fun hc => ?_) (fun hc => ?_)
            | refine w_cd rfl (fun hc => ?_) (fun hc => ?_)
            | refine w_cn rfl (fun hc => ?_) (fun hc => ?_)
            | refine w_cond rfl (fun hc => ?_) (fun hc => ?_)
            | (exfalso; omega)
            | (refine l_o ?_; first | refine l_op rfl (by first | (apply k_callf; first | exact ops_callG (d := 35) [25, 34] [25, 34] ([]) (hfc := hIn) | exact ops_callf (d := 10) (hfc := hG) | exact ops_callf (d := 14) (hfc := hR) | exact ops_callf (d := 21) (hfc := hP) | exact ops_callv (d := 25) (hfc := hCl) | fail) | fail) (hk := ?_) | refine l_op (hk := ?_) | (refine l_g ?_; first | refine l_y rfl rfl rfl ?_ | refine l_n rfl rfl rfl rfl (hk := ?_) | refine l_n' rfl rfl rfl (hk := ?_) | refine l_spnd rfl rfl rfl (h1 := fun hc => ?_) (h2 := fun hc => ?_) | refine l_spd rfl rfl rfl (h1 := fun hc => ?_) (h2 := fun hc => ?_) | refine l_spn rfl rfl rfl (h1 := fun hc => ?_) (h2 := fun hc => ?_) | refine l_sp rfl rfl rfl (h1 := fun hc => ?_) (h2 := fun hc => ?_)))
          refine en_endn ([ORws [], RVb false]) (hf := Try.results19) (hr := ?_); simp only [ne]; first | rfl | skip
end Go.Proofs.Ytdignmbeiohhiaa
