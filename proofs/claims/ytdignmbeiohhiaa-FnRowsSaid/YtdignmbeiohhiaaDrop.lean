/- DropRow of the reference and of the program. For all rows and texts of the lengths that the theorems name. -/
import Derived.Test.YtdignmbeiohhiaaCloneR
import Derived.Test.YtdignmbeiohhiaaSlc
import Derived.Test.YtdignmbeiohhiaaUnlLaw
namespace Go.Proofs.Ytdignmbeiohhiaa
open Eng
attribute [local irreducible] OpS OpG FC FCr Rel Fl Ef DR Fs
set_option linter.unusedSimpArgs false
set_option maxHeartbeats 0
set_option maxRecDepth 100000

theorem delLen (l : List Rw) (i : Nat) (hi : i < l.length) : (List.take i l ++ List.take (l.length - (i + 1)) (List.drop (i + 1) l) ++ List.drop (i + (l.length - (i + 1))) l).length = l.length := by simp; omega
theorem delTake (l : List Rw) (i : Nat) (hi : i < l.length) : (List.take (i + (l.length - (i + 1))) (List.take i l ++ List.take (l.length - (i + 1)) (List.drop (i + 1) l) ++ List.drop (i + (l.length - (i + 1))) l) ++ List.replicate (l.length - (i + (l.length - (i + 1)))) ([], []) ++ List.drop (i + (l.length - (i + 1)) + (l.length - (i + (l.length - (i + 1))))) (List.take i l ++ List.take (l.length - (i + 1)) (List.drop (i + 1) l) ++ List.drop (i + (l.length - (i + 1))) l)).take (i + (l.length - (i + 1))) = l.take i ++ l.drop (i + 1) := by
  have h1 : (l.drop (i + 1)).length = l.length - (i + 1) := List.length_drop
  have h2 : List.take (l.length - (i + 1)) (List.drop (i + 1) l) = l.drop (i + 1) := List.take_of_length_le (by omega)
  have h3 : (l.take i ++ l.drop (i + 1)).length = i + (l.length - (i + 1)) := by simp; omega
  rw [h2, List.take_left' h3, List.append_assoc, List.take_left' h3]
theorem delTake2 (l : List Rw) (i : Nat) (hi : i < l.length) (h : ¬ i + 1 < l.length) : (List.take i l ++ List.replicate (l.length - i) ([], []) ++ List.drop (i + (l.length - i)) l).take i = l.take i ++ l.drop (i + 1) := by
  have h3 : (l.take i).length = i := by simp; omega
  rw [List.append_assoc, List.take_left' h3, List.drop_of_length_le (show l.length ≤ i + 1 by omega), List.append_nil]
theorem deleteRw_ok (l : List Rw) (i : Nat) (hi : i < l.length) (hl : l.length ≤ 1048576) : FC Try.prog 83 [.ref 1000000000000 0 l.length, RVn i, RVn (i + 1)] [(1000000000000, 2, l.map RRw)] (fun rv O => rv = ORws (l.take i ++ l.drop (i + 1)) ∧ O = []) := by
  have h0 : l ≠ [] := by rintro rfl; simp at hi
  have h0m : l.map RRw ≠ [] := by simpa using h0
  have hlm : (l.map RRw).length = l.length := by simp
  refine (fc_in Try.func83 rfl (by simp only [Try.ntmps83, anys, List.length_cons, List.length_nil, Nat.reduceAdd, Nat.reduceSub, List.replicate_succ, List.replicate_zero, List.cons_append, List.nil_append] <;> rfl) ?_)
  by_cases hlast : i + 1 < l.length
  · repeat' first
      | refine w_seq ?_
      | refine w_region ?_
      | refine l_nil ?_
      | refine rt_n ?_
      | refine w_ret ?_
      | refine rt_ret ?_
      | refine w_skip ?_
      | refine w_cond_t rfl ?_
      | refine w_cond_f rfl ?_
      | refine w_cnd rfl (fun hc => ?_) (fun hc => ?_)
      | refine w_cd rfl (fun hc => ?_) (fun hc => ?_)
      | refine w_cn rfl (fun hc => ?_) (fun hc => ?_)
      | refine w_cond rfl (fun hc => ?_) (fun hc => ?_)
      | (exfalso; omega)
      | (refine l_o ?_; first | refine l_eqnil rfl (by kernel_rfl) (by intro b; simp only [nz]; rfl) (fun b hb => ?_) | refine l_op rfl (by first | (apply k_slice; first | exact ops_rcut3 rfl rfl rfl rfl rfl (by omega) (by omega) (by omega) h0m (by kernel_rfl) (by kernel_rfl) | exact ops_rfront rfl rfl rfl (by omega) h0m (by kernel_rfl) (by kernel_rfl) | exact ops_rcutl rfl rfl rfl (by omega) (by omega) (by kernel_rfl) (by kernel_rfl) | exact ops_rmid (h := l.length) rfl rfl rfl rfl (by omega) (by rw [List.length_map, delLen l i hi]; omega) (by kernel_rfl) (by kernel_rfl) | fail) | (apply k_clear; first | exact ops_clear ([], []) (zv := .agg #[.string ⟨#[]⟩, .string ⟨#[]⟩]) pe_rw rfl rfl (by omega) (by rw [delLen l i hi]; omega) (by kernel_rfl) (by kernel_rfl) rfl | fail) | fail) (hk := ?_) | refine l_op (hk := ?_))
      | refine e_nil ?_
      | (refine e_o ?_; first | refine e_fl rfl (by first | exact .pl (by first | (apply q_slice; first | exact fs_rfront rfl rfl rfl rfl (by omega) h0m (by kernel_rfl) (by kernel_rfl) | exact fs_rcutl rfl rfl rfl rfl (by omega) (by omega) (by kernel_rfl) (by kernel_rfl) | exact fs_rmid (h := l.length) rfl rfl rfl rfl (by omega) (by rw [List.length_map, delLen l i hi]; omega) (by kernel_rfl) (by kernel_rfl) | fail) | fail) | fail) (hk := ?_) | refine e_fl (hk := ?_) | refine e_ef rfl (by first | exact .append_in pe_rw rfl rfl rfl h0 (by omega) (by omega) (by kernel_rfl) (by kernel_rfl) | fail) (hk := ?_) | refine e_ef (hk := ?_))
      | (refine w_o ?_; first | refine w_drawS (id := 5) (rdP [(2, 1000000000000), (5, 1000000000000)]) (fun k => [6, 7].contains k) [[],[]] (by kernel_rfl) rfl (by kernel_rfl) (by simp [nm, nset, -List.map_take, -List.map_drop]) ?_)
    have hlen : i + (l.length - (i + 1)) = (l.take i ++ l.drop (i + 1)).length := by simp; omega
    refine en_le _ (le_cut' 1000000000000 (i + (l.length - (i + 1))) pe_rw rfl (delTake l i hi) (by simp only [nz, nf, nl, nb, nr, ng, nq, nu, reduceIte, Nat.reduceEqDiff, Nat.reduceAdd]; rfl)) ?_
    rw [hlen]
    refine en_end (hf := Try.results83) (hr := ?_); simp only [ne, nf, nl, nr, lget, reduceIte, Nat.reduceEqDiff]; first | rfl | refine congrArg RVb ?_ | refine congrArg RVi ?_ | skip
  · have hil : i + 1 = l.length := by omega
    repeat' first
      | refine w_seq ?_
      | refine w_region ?_
      | refine l_nil ?_
      | refine rt_n ?_
      | refine w_ret ?_
      | refine rt_ret ?_
      | refine w_skip ?_
      | refine w_cond_t rfl ?_
      | refine w_cond_f rfl ?_
      | refine w_cnd rfl (fun hc => ?_) (fun hc => ?_)
      | refine w_cd rfl (fun hc => ?_) (fun hc => ?_)
      | refine w_cn rfl (fun hc => ?_) (fun hc => ?_)
      | refine w_cond rfl (fun hc => ?_) (fun hc => ?_)
      | (exfalso; omega)
      | (refine l_o ?_; first | refine l_eqnil rfl (by kernel_rfl) (by intro b; simp only [nz]; rfl) (fun b hb => ?_) | refine l_op rfl (by first | (apply k_slice; first | exact ops_rcut3 rfl rfl rfl rfl rfl (by omega) (by omega) (by omega) h0m (by kernel_rfl) (by kernel_rfl) | exact ops_rfront rfl rfl rfl (by omega) h0m (by kernel_rfl) (by kernel_rfl) | exact ops_rcutz rfl rfl rfl (by omega) (by omega) h0m (by kernel_rfl) (by kernel_rfl) | exact ops_rmid (l := i) (h := l.length) rfl rfl rfl rfl (by omega) (by omega) (by kernel_rfl) (by kernel_rfl) | fail) | (apply k_clear; first | exact ops_clear ([], []) (zv := .agg #[.string ⟨#[]⟩, .string ⟨#[]⟩]) pe_rw rfl rfl (by omega) (by omega) (by kernel_rfl) (by kernel_rfl) rfl | fail) | fail) (hk := ?_) | refine l_op (hk := ?_))
      | refine e_nil ?_
      | (refine e_o ?_; first | refine e_fl rfl (by first | exact .pl (by first | (apply q_slice; first | exact fs_rfront rfl rfl rfl rfl (by omega) h0m (by kernel_rfl) (by kernel_rfl) | exact fs_rcutz rfl rfl rfl rfl (by omega) (by omega) h0m (by kernel_rfl) (by kernel_rfl) | exact fs_rmid (l := i) (h := l.length) rfl rfl rfl rfl (by omega) (by omega) (by kernel_rfl) (by kernel_rfl) | fail) | fail) | fail) (hk := ?_) | refine e_fl (hk := ?_) | refine e_ef rfl (by first | exact .append_z rfl rfl rfl h0m (by omega) (by kernel_rfl) (by kernel_rfl) | fail) (hk := ?_) | refine e_ef (hk := ?_))
      | (refine w_o ?_; first | refine w_drawS (id := 5) (rdP [(2, 1000000000000), (5, 1000000000000)]) (fun k => [6, 7].contains k) [[],[]] (by kernel_rfl) rfl (by kernel_rfl) (by simp [nm, nset, -List.map_take, -List.map_drop]) ?_)
    have hlen : i = (l.take i ++ l.drop (i + 1)).length := by simp; omega
    refine en_le _ (le_cut' 1000000000000 i pe_rw rfl (delTake2 l i hi (by omega)) (by simp only [nz, nf, nl, nb, nr, ng, nq, nu, reduceIte, Nat.reduceEqDiff, Nat.reduceAdd]; rfl)) ?_
    generalize l.take i ++ l.drop (i + 1) = X at *
    subst hlen
    refine en_end (hf := Try.results83) (hr := ?_); simp only [ne, nf, nl, nr, lget, reduceIte, Nat.reduceEqDiff]; first | rfl | refine congrArg RVb ?_ | refine congrArg RVi ?_ | skip
def dropRw (l : List Rw) (key : List UInt8) : Option (List Rw) := if goodRs l = false then none else if fnd l key < 0 then none else some (l.take (fnd l key).toNat ++ l.drop ((fnd l key).toNat + 1))
theorem dropRw_len (l : List Rw) (key : List UInt8) : ((dropRw l key).getD []).length ≤ 60 := by
  unfold dropRw
  split
  · simp
  · rename_i h
    have := goodRs_len (by simpa using h)
    split
    · simp
    · simp; omega
theorem implDrop_ok (l : List Rw) (key : List UInt8) (hl : ∀ r ∈ l, smRw r) : FCr Try.prog 37 [RRws l, RV.str key] (.tup [ORws ((dropRw l key).getD []), RVb (dropRw l key).isSome]) := by
  have hG := implGoodRs_ok l hl
  cases eg : goodRs l with
  | false =>
    rw [eg] at hG
    refine (fcr_in Try.func37 rfl (by simp only [Try.ntmps37, anys, List.length_cons, List.length_nil, Nat.reduceAdd, Nat.reduceSub, List.replicate_succ, List.replicate_zero, List.cons_append, List.nil_append] <;> rfl) ?_)
    repeat' first
      | refine w_seq ?_
      | refine w_region ?_
      | refine l_nil ?_
      | refine rt_n ?_
      | refine w_ret ?_
      | refine rt_ret ?_
      | refine w_skip ?_
      | refine w_cond_t rfl ?_
      | refine w_cond_f rfl ?_
      | refine w_cnd rfl (fun hc => ?_) (fun hc => ?_)
      | refine w_cd rfl (fun hc => ?_) (fun hc => ?_)
      | refine w_cn rfl (fun hc => ?_) (fun hc => ?_)
      | refine w_cond rfl (fun hc => ?_) (fun hc => ?_)
      | (refine l_o ?_; first | refine l_op rfl (by first | (apply k_callf; first | exact ops_callf (d := 9) (hfc := hG) | fail) | fail) (hk := ?_) | refine l_op (hk := ?_))
    refine en_endn ([ORws [], RVb false]) (hf := Try.results37) (hr := ?_); simp only [ne]; first | rfl | skip
    simp only [dropRw, eg]
    rfl
  | true =>
    have h60 := goodRs_len eg
    rw [eg] at hG
    have hs := goodRs_srt eg
    obtain ⟨i, hi⟩ := plc_ex key l hs
    have hP := placeOf_ok l key i hi (by omega)
    have hf := fnd_at hs hi
    cases ei : isAt l key i with
    | false =>
      rw [ei] at hP hf
      refine (fcr_in Try.func37 rfl (by simp only [Try.ntmps37, anys, List.length_cons, List.length_nil, Nat.reduceAdd, Nat.reduceSub, List.replicate_succ, List.replicate_zero, List.cons_append, List.nil_append] <;> rfl) ?_)
      repeat' first
        | refine w_seq ?_
        | refine w_region ?_
        | refine l_nil ?_
        | refine rt_n ?_
        | refine w_ret ?_
        | refine rt_ret ?_
        | refine w_skip ?_
        | refine w_cond_t rfl ?_
        | refine w_cond_f rfl ?_
        | refine w_cnd rfl (fun hc => ?_) (fun hc => ?_)
        | refine w_cd rfl (fun hc => ?_) (fun hc => ?_)
        | refine w_cn rfl (fun hc => ?_) (fun hc => ?_)
        | refine w_cond rfl (fun hc => ?_) (fun hc => ?_)
        | (refine l_o ?_; first | refine l_op rfl (by first | (apply k_callf; first | exact ops_callf (d := 9) (hfc := hG) | exact ops_callf (d := 14) (hfc := hP) | fail) | fail) (hk := ?_) | refine l_op (hk := ?_))
      refine en_endn ([ORws [], RVb false]) (hf := Try.results37) (hr := ?_); simp only [ne]; first | rfl | skip
      rw [dropRw, if_neg (by rw [eg]; simp), hf, if_pos (by simp)]
      rfl
    | true =>
      have hil : i < l.length := by
        rcases Nat.lt_or_ge i l.length with h | h
        · exact h
        · rw [isAt, List.getElem?_eq_none h] at ei; cases ei
      rw [ei] at hP hf
      have hres : dropRw l key = some (l.take i ++ l.drop (i + 1)) := by rw [dropRw, if_neg (by rw [eg]; simp), hf, if_pos rfl, if_neg (by omega), Int.toNat_natCast]
      rw [hres]
      have hD := deleteRw_ok l i hil (by omega)
      refine (fcr_in Try.func37 rfl (by simp only [Try.ntmps37, anys, List.length_cons, List.length_nil, Nat.reduceAdd, Nat.reduceSub, List.replicate_succ, List.replicate_zero, List.cons_append, List.nil_append] <;> rfl) ?_)
      repeat' first
        | refine w_seq ?_
        | refine w_region ?_
        | refine l_nil ?_
        | refine rt_n ?_
        | refine w_ret ?_
        | refine rt_ret ?_
        | refine w_skip ?_
        | refine w_cond_t rfl ?_
        | refine w_cond_f rfl ?_
        | refine w_cnd rfl (fun hc => ?_) (fun hc => ?_)
        | refine w_cd rfl (fun hc => ?_) (fun hc => ?_)
        | refine w_cn rfl (fun hc => ?_) (fun hc => ?_)
        | refine w_cond rfl (fun hc => ?_) (fun hc => ?_)
        | (refine l_o ?_; first | refine l_op rfl (by first | (apply k_add; first | exact ops_addn (a := i) (b := 1) rfl rfl (by omega) | fail) | (apply k_callf; first | exact ops_callG (d := 24) [20] [20] ([]) (hfc := hD) | exact ops_callf (d := 9) (hfc := hG) | exact ops_callf (d := 14) (hfc := hP) | exact ops_callv (d := 20) (hfc := cloneRw_ok l (by omega)) | fail) | fail) (hk := ?_) | refine l_op (hk := ?_))
      refine en_end (hf := Try.results37) (hr := ?_); simp only [ne, nf, nl, nr, lget, reduceIte, Nat.reduceEqDiff]; first | rfl | refine congrArg RVb ?_ | refine congrArg RVi ?_ | skip
end Go.Proofs.Ytdignmbeiohhiaa
