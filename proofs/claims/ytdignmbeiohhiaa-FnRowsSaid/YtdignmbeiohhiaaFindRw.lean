/- FindRow of the reference and of the program; its drawn law. For all rows and texts of the lengths that texts have. -/
import Derived.Test.YtdignmbeiohhiaaFind
import Derived.Test.YtdignmbeiohhiaaRwLaws
namespace Go.Proofs.Ytdignmbeiohhiaa
open Eng
attribute [local irreducible] OpS OpG FC FCr Rel Fl Ef DR Fs
set_option linter.unusedSimpArgs false
set_option maxHeartbeats 0
set_option maxRecDepth 100000

theorem fnd_lt {l : List Rw} {key : List UInt8} : fnd l key < l.length := by
  have h : ∀ (m : List Rw) (k : Nat), fndFrom key k m < ((k + m.length : Nat) : Int) := by
    intro m
    induction m with
    | nil => intro k; simp [fndFrom]; omega
    | cons r m ih =>
      intro k
      rw [fndFrom]
      split
      · simp; omega
      · have := ih (k + 1); simp at this ⊢; omega
  have := h l 0
  simpa [fnd] using this
theorem implFind_ok (l : List Rw) (key : List UInt8) (hl : ∀ r ∈ l, smRw r) (hll : l.length ≤ 1048576) : FCr Try.prog 36 [RRws l, RV.str key] (.tup [RV.str ((findRw l key).getD []), RVb (findRw l key).isSome]) := by
  have hG := implGoodRs_ok l hl
  cases eg : goodRs l with
  | false =>
    rw [eg] at hG
    refine (fcr_in Try.func36 rfl (by simp only [Try.ntmps36, anys, List.length_cons, List.length_nil, Nat.reduceAdd, Nat.reduceSub, List.replicate_succ, List.replicate_zero, List.cons_append, List.nil_append] <;> rfl) ?_)
    repeat' first
      | refine w_seq ?_
      | refine w_region ?_
      | refine l_nil ?_
      | refine rt_n ?_
      | refine w_ret ?_
      | refine rt_ret ?_
      | refine w_skip ?_
      | refine w_cond_t rfl ?_
      | refine w_cond_f rfl ?_
      | refine w_cnd rfl (fun hc => ?_) (fun hc => ?_)
      | refine w_cd rfl (fun hc => ?_) (fun hc => ?_)
      | refine w_cn rfl (fun hc => ?_) (fun hc => ?_)
      | refine w_cond rfl (fun hc => ?_) (fun hc => ?_)
      | (refine l_o ?_; first | refine l_op rfl (by first | (apply k_callf; first | exact ops_callf (d := 9) (hfc := hG) | fail) | fail) (hk := ?_) | refine l_op (hk := ?_))
    refine en_end (hf := Try.results36) (hr := ?_); simp only [ne, nf, nl, nr, lget, reduceIte, Nat.reduceEqDiff]; first | rfl | refine congrArg RVb ?_ | refine congrArg RVi ?_ | skip
    simp only [findRw, eg]
    rfl
  | true =>
    rw [eg] at hG
    have hs := goodRs_srt eg
    obtain ⟨i, hi⟩ := plc_ex key l hs
    have hP := placeOf_ok l key i hi hll
    have hf := fnd_at hs hi
    cases ei : isAt l key i with
    | false =>
      rw [ei] at hP hf
      refine (fcr_in Try.func36 rfl (by simp only [Try.ntmps36, anys, List.length_cons, List.length_nil, Nat.reduceAdd, Nat.reduceSub, List.replicate_succ, List.replicate_zero, List.cons_append, List.nil_append] <;> rfl) ?_)
      repeat' first
        | refine w_seq ?_
        | refine w_region ?_
        | refine l_nil ?_
        | refine rt_n ?_
        | refine w_ret ?_
        | refine rt_ret ?_
        | refine w_skip ?_
        | refine w_cond_t rfl ?_
        | refine w_cond_f rfl ?_
        | refine w_cnd rfl (fun hc => ?_) (fun hc => ?_)
        | refine w_cd rfl (fun hc => ?_) (fun hc => ?_)
        | refine w_cn rfl (fun hc => ?_) (fun hc => ?_)
        | refine w_cond rfl (fun hc => ?_) (fun hc => ?_)
        | (refine l_o ?_; first | refine l_op rfl (by first | (apply k_callf; first | exact ops_callf (d := 9) (hfc := hG) | exact ops_callf (d := 14) (hfc := hP) | fail) | fail) (hk := ?_) | refine l_op (hk := ?_))
      refine en_end (hf := Try.results36) (hr := ?_); simp only [ne, nf, nl, nr, lget, reduceIte, Nat.reduceEqDiff]; first | rfl | refine congrArg RVb ?_ | refine congrArg RVi ?_ | skip
      rw [findRw, if_neg (by rw [eg]; simp), hf, if_pos (by simp)]
      rfl
    | true =>
      have hil : i < l.length := by
        rcases Nat.lt_or_ge i l.length with h | h
        · exact h
        · rw [isAt, List.getElem?_eq_none h] at ei; cases ei
      rw [ei] at hP hf
      refine (fcr_in Try.func36 rfl (by simp only [Try.ntmps36, anys, List.length_cons, List.length_nil, Nat.reduceAdd, Nat.reduceSub, List.replicate_succ, List.replicate_zero, List.cons_append, List.nil_append] <;> rfl) ?_)
      repeat' first
        | refine w_seq ?_
        | refine w_region ?_
        | refine l_nil ?_
        | refine rt_n ?_
        | refine w_ret ?_
        | refine rt_ret ?_
        | refine w_skip ?_
        | refine w_cond_t rfl ?_
        | refine w_cond_f rfl ?_
        | refine w_cnd rfl (fun hc => ?_) (fun hc => ?_)
        | refine w_cd rfl (fun hc => ?_) (fun hc => ?_)
        | refine w_cn rfl (fun hc => ?_) (fun hc => ?_)
        | refine w_cond rfl (fun hc => ?_) (fun hc => ?_)
        | (refine l_o ?_; first | refine l_op rfl (by first | (apply k_callf; first | exact ops_callf (d := 9) (hfc := hG) | exact ops_callf (d := 14) (hfc := hP) | fail) | fail) (hk := ?_) | refine l_op (hk := ?_))
      refine en_end (hf := Try.results36) (hr := ?_); simp only [ne, nf, nl, nr, lget, reduceIte, Nat.reduceEqDiff]; first | rfl | refine congrArg RVb ?_ | refine congrArg RVi ?_ | skip
      rw [findRw, if_neg (by rw [eg]; simp), hf, if_pos rfl, if_neg (by omega), Int.toNat_natCast, List.getElem?_eq_getElem hil]
      rfl
end Go.Proofs.Ytdignmbeiohhiaa
