/- Tables as texts, the rows with a worth, where a key stands: what the reference and the program say. For all rows of the lengths that the theorems name. -/
import Derived.Test.YtdignmbeiohhiaaGoodRs
namespace Go.Proofs.Ytdignmbeiohhiaa
open Eng
attribute [local irreducible] OpS OpG FC FCr Rel Fl Ef DR Fs
set_option linter.unusedSimpArgs false
set_option maxHeartbeats 0
set_option maxRecDepth 100000

theorem goodRs_len {l : List Rw} (h : goodRs l = true) : l.length ≤ 60 := by
  unfold goodRs at h; split at h
  · cases h
  · omega
/-- The text of a table. -/
def txtRs : List Rw → List UInt8
  | [] => []
  | r :: rs => r.1 ++ (61 :: (r.2 ++ (10 :: txtRs rs)))
def rowsTxt (l : List Rw) : Option (List UInt8) := if goodRs l = false then none else if 4000 < (txtRs l).length then none else some (txtRs l)
theorem implText_ok (l : List Rw) (hl : ∀ r ∈ l, smRw r) : FCr Try.prog 33 [RRws l] (.tup [RV.str ((rowsTxt l).getD []), RVb (rowsTxt l).isSome]) := by
  refine fcr_lens fun hL => ?_
  simp only [lnk] at hL
  have hG := implGoodRs_ok l hl
  cases eg : goodRs l with
  | false =>
    rw [eg] at hG
    refine (fcr_in Try.func33 rfl (by simp only [Try.ntmps33, anys, List.length_cons, List.length_nil, Nat.reduceAdd, Nat.reduceSub, List.replicate_succ, List.replicate_zero, List.cons_append, List.nil_append] <;> rfl) ?_)
    repeat' first
      | refine w_seq ?_
      | refine w_block ?_
      | refine rb_n ?_
      | refine rb_ret ?_
      | refine rb_eq ?_
      | refine rb_ne (by rfl) ?_
      | refine w_exit ?_
      | refine rt_exit ?_
      | refine w_region ?_
      | refine l_nil ?_
      | refine rt_n ?_
      | refine w_ret ?_
      | refine rt_ret ?_
      | refine w_skip ?_
      | refine w_cond_t rfl ?_
      | refine w_cond_f rfl ?_
      | refine w_cnd rfl (fun hc => ?_) (fun hc => ?_)
      | refine w_cd rfl (fun hc => ?_) (fun hc => ?_)
      | refine w_cn rfl (fun hc => ?_) (fun hc => ?_)
      | refine w_cond rfl (fun hc => ?_) (fun hc => ?_)
      | (refine l_o ?_; first | refine l_op rfl (by first | (apply k_callf; first | exact ops_callf (hfc := hG) | fail) | fail) (hk := ?_) | refine l_op (hk := ?_))
    refine en_end (hf := Try.results33) (hr := ?_); simp only [ne, nf, nl, nr, lget, reduceIte, Nat.reduceEqDiff]; first | rfl | refine congrArg RVb ?_ | refine congrArg RVi ?_ | skip
    simp only [rowsTxt, eg]
    rfl
  | true =>
    have h60 := goodRs_len eg
    rw [eg] at hG
    refine (fcr_in Try.func33 rfl (by simp only [Try.ntmps33, anys, List.length_cons, List.length_nil, Nat.reduceAdd, Nat.reduceSub, List.replicate_succ, List.replicate_zero, List.cons_append, List.nil_append] <;> rfl) ?_)
    repeat' first
      | refine w_seq ?_
      | refine w_block ?_
      | refine rb_n ?_
      | refine rb_ret ?_
      | refine rb_eq ?_
      | refine rb_ne (by rfl) ?_
      | refine w_exit ?_
      | refine rt_exit ?_
      | refine w_region ?_
      | refine l_nil ?_
      | refine rt_n ?_
      | refine w_ret ?_
      | refine rt_ret ?_
      | refine w_skip ?_
      | refine w_cond_t rfl ?_
      | refine w_cond_f rfl ?_
      | refine w_cnd rfl (fun hc => ?_) (fun hc => ?_)
      | refine w_cd rfl (fun hc => ?_) (fun hc => ?_)
      | refine w_cn rfl (fun hc => ?_) (fun hc => ?_)
      | refine w_cond rfl (fun hc => ?_) (fun hc => ?_)
      | (refine l_o ?_; first | refine l_op rfl (by first | (apply k_callf; first | exact ops_callf (hfc := hG) | fail) | fail) (hk := ?_) | refine l_op (hk := ?_))
    refine w_loopm (ι := Nat × List UInt8) (fun q => [(12, RVn q.1), (4, .str q.2)]) (fun _ => []) (fun q => q.1 ≤ l.length ∧ q.2.length ≤ q.1 * 3000000 ∧ q.2 ++ txtRs (l.drop q.1) = txtRs l) (fun q => l.length - q.1) (0, []) (h0 := ?_) (hs := ?_) (round := ?_)
    · simp
    · refine le_eq (by (repeat' first | exact .nil | refine .keep ?_ | refine .any ?_); first | done | fail) rfl rfl
    · intro ⟨k, out⟩ ⟨h1, h2, h3⟩
      dsimp only at h1 h2 h3 ⊢
      by_cases hk : k < l.length
      · obtain ⟨s1, s2⟩ := hl _ (List.getElem_mem hk)
        rw [dc hk, txtRs] at h3
        repeat' first
          | refine w_seq ?_
          | refine w_block ?_
          | refine rb_n ?_
          | refine rb_ret ?_
          | refine rb_eq ?_
          | refine rb_ne (by rfl) ?_
          | refine w_exit ?_
          | refine rt_exit ?_
          | refine w_region ?_
          | refine l_nil ?_
          | refine rt_n ?_
          | refine w_ret ?_
          | refine rt_ret ?_
          | refine w_skip ?_
          | refine w_cond_t rfl ?_
          | refine w_cond_f rfl ?_
          | refine w_cnd rfl (fun hc => ?_) (fun hc => ?_)
          | refine w_cd rfl (fun hc => ?_) (fun hc => ?_)
          | refine w_cn rfl (fun hc => ?_) (fun hc => ?_)
          | refine w_cond rfl (fun hc => ?_) (fun hc => ?_)
          | (exfalso; omega)
          | (refine l_o ?_; first | refine l_op rfl (by first | (apply k_add; first | exact ops_cat (p := l[k].1) (q := [61]) rfl rfl (by simp; omega) | exact ops_cat (p := l[k].1 ++ [61]) (q := l[k].2) rfl rfl (by simp; omega) | exact ops_cat (p := (l[k].1 ++ [61]) ++ l[k].2) (q := [10]) rfl rfl (by simp; omega) | exact ops_cat (p := out) (q := ((l[k].1 ++ [61]) ++ l[k].2) ++ [10]) rfl rfl (by simp; omega) | fail) | fail) (hk := ?_) | refine l_op (hk := ?_))
        refine rn_mk (k + 1, out ++ (((l[k].1 ++ [61]) ++ l[k].2) ++ [10])) ?_ (by first | omega | (dsimp only; omega)) (le_dropd 6 (by simp only [nz]; rfl) (by simp only [nz, reduceIte, Nat.reduceEqDiff] <;> rfl) (le_eq (by (repeat' first | exact .nil | refine .keep ?_ | refine .any ?_); first | done | fail) rfl rfl))
        refine ⟨by dsimp only; omega, by simp; omega, ?_⟩
        dsimp only
        rw [← h3]
        simp
      · repeat' first
          | refine w_seq ?_
          | refine w_block ?_
          | refine rb_n ?_
          | refine rb_ret ?_
          | refine rb_eq ?_
          | refine rb_ne (by rfl) ?_
          | refine w_exit ?_
          | refine rt_exit ?_
          | refine w_region ?_
          | refine l_nil ?_
          | refine rt_n ?_
          | refine w_ret ?_
          | refine rt_ret ?_
          | refine w_skip ?_
          | refine w_cond_t rfl ?_
          | refine w_cond_f rfl ?_
          | refine w_cnd rfl (fun hc => ?_) (fun hc => ?_)
          | refine w_cd rfl (fun hc => ?_) (fun hc => ?_)
          | refine w_cn rfl (fun hc => ?_) (fun hc => ?_)
          | refine w_cond rfl (fun hc => ?_) (fun hc => ?_)
          | (exfalso; omega)
          | (refine l_o ?_; first | refine l_op (hk := ?_))
        all_goals
          rw [show l.drop k = [] from List.drop_of_length_le (by omega), txtRs, List.append_nil] at h3
          subst h3
        · refine en_end (hf := Try.results33) (hr := ?_); simp only [ne, nf, nl, nr, lget, reduceIte, Nat.reduceEqDiff]; first | rfl | refine congrArg RVb ?_ | refine congrArg RVi ?_ | skip
          rw [rowsTxt, if_neg (by rw [eg]; simp), if_pos (by omega)]
          rfl
        · refine en_end (hf := Try.results33) (hr := ?_); simp only [ne, nf, nl, nr, lget, reduceIte, Nat.reduceEqDiff]; first | rfl | refine congrArg RVb ?_ | refine congrArg RVi ?_ | skip
          rw [rowsTxt, if_neg (by rw [eg]; simp), if_neg (by omega)]
          rfl
theorem specText_ok (l : List Rw) (hl : ∀ r ∈ l, smRw r) : FCr Try.prog 34 [RRws l] (.tup [RV.str ((rowsTxt l).getD []), RVb (rowsTxt l).isSome]) := by
  refine fcr_lens fun hL => ?_
  simp only [lnk] at hL
  have hG := specGoodRs_ok l hl
  cases eg : goodRs l with
  | false =>
    rw [eg] at hG
    refine (fcr_in Try.func34 rfl (by simp only [Try.ntmps34, anys, List.length_cons, List.length_nil, Nat.reduceAdd, Nat.reduceSub, List.replicate_succ, List.replicate_zero, List.cons_append, List.nil_append] <;> rfl) ?_)
    repeat' first
      | refine w_seq ?_
      | refine w_block ?_
      | refine rb_n ?_
      | refine rb_ret ?_
      | refine rb_eq ?_
      | refine rb_ne (by rfl) ?_
      | refine w_exit ?_
      | refine rt_exit ?_
      | refine w_region ?_
      | refine l_nil ?_
      | refine rt_n ?_
      | refine w_ret ?_
      | refine rt_ret ?_
      | refine w_skip ?_
      | refine w_cond_t rfl ?_
      | refine w_cond_f rfl ?_
      | refine w_cnd rfl (fun hc => ?_) (fun hc => ?_)
      | refine w_cd rfl (fun hc => ?_) (fun hc => ?_)
      | refine w_cn rfl (fun hc => ?_) (fun hc => ?_)
      | refine w_cond rfl (fun hc => ?_) (fun hc => ?_)
      | (refine l_o ?_; first | refine l_op rfl (by first | (apply k_callf; first | exact ops_callf (hfc := hG) | fail) | fail) (hk := ?_) | refine l_op (hk := ?_))
      | refine d_nil ?_
      | (refine d_o ?_; first | refine d_fl (hk := ?_) | refine d_ef rfl (by first | exact .callf (hfc := hG) | fail) (hk := ?_) | refine d_ef (hk := ?_))
      | (refine w_o ?_; first | refine w_draw (id := 7) (fun _ => true) (fun k => [].contains k) [] 64 (by kernel_rfl) rfl (by kernel_rfl) (by simp [nm, nset, -List.map_take, -List.map_drop]) ?_)
    refine en_end (hf := Try.results34) (hr := ?_); simp only [ne, nf, nl, nr, lget, reduceIte, Nat.reduceEqDiff]; first | rfl | refine congrArg RVb ?_ | refine congrArg RVi ?_ | skip
    simp only [rowsTxt, eg]
    rfl
  | true =>
    have h60 := goodRs_len eg
    rw [eg] at hG
    refine (fcr_in Try.func34 rfl (by simp only [Try.ntmps34, anys, List.length_cons, List.length_nil, Nat.reduceAdd, Nat.reduceSub, List.replicate_succ, List.replicate_zero, List.cons_append, List.nil_append] <;> rfl) ?_)
    repeat' first
      | refine w_seq ?_
      | refine w_block ?_
      | refine rb_n ?_
      | refine rb_ret ?_
      | refine rb_eq ?_
      | refine rb_ne (by rfl) ?_
      | refine w_exit ?_
      | refine rt_exit ?_
      | refine w_region ?_
      | refine l_nil ?_
      | refine rt_n ?_
      | refine w_ret ?_
      | refine rt_ret ?_
      | refine w_skip ?_
      | refine w_cond_t rfl ?_
      | refine w_cond_f rfl ?_
      | refine w_cnd rfl (fun hc => ?_) (fun hc => ?_)
      | refine w_cd rfl (fun hc => ?_) (fun hc => ?_)
      | refine w_cn rfl (fun hc => ?_) (fun hc => ?_)
      | refine w_cond rfl (fun hc => ?_) (fun hc => ?_)
      | (refine l_o ?_; first | refine l_op rfl (by first | (apply k_callf; first | exact ops_callf (hfc := hG) | fail) | fail) (hk := ?_) | refine l_op (hk := ?_))
      | refine d_nil ?_
      | (refine d_o ?_; first | refine d_fl (hk := ?_) | refine d_ef rfl (by first | exact .callf (hfc := hG) | fail) (hk := ?_) | refine d_ef (hk := ?_))
      | (refine w_o ?_; first | refine w_draw (id := 7) (fun _ => true) (fun k => [].contains k) [] 64 (by kernel_rfl) rfl (by kernel_rfl) (by simp [nm, nset, -List.map_take, -List.map_drop]) ?_)
    refine w_loopm (ι := Nat × List UInt8) (fun q => [(5, RVn q.1), (4, .str q.2)]) (fun _ => []) (fun q => q.1 ≤ l.length ∧ q.2.length ≤ q.1 * 3000000 ∧ q.2 ++ txtRs (l.drop q.1) = txtRs l) (fun q => l.length - q.1) (0, []) (h0 := ?_) (hs := ?_) (round := ?_)
    · simp
    · refine le_eq (by (repeat' first | exact .nil | refine .keep ?_ | refine .any ?_); first | done | fail) rfl rfl
    · intro ⟨k, out⟩ ⟨h1, h2, h3⟩
      dsimp only at h1 h2 h3 ⊢
      by_cases hk : k < l.length
      · obtain ⟨s1, s2⟩ := hl _ (List.getElem_mem hk)
        rw [dc hk, txtRs] at h3
        repeat' first
          | refine w_seq ?_
          | refine w_block ?_
          | refine rb_n ?_
          | refine rb_ret ?_
          | refine rb_eq ?_
          | refine rb_ne (by rfl) ?_
          | refine w_exit ?_
          | refine rt_exit ?_
          | refine w_region ?_
          | refine l_nil ?_
          | refine rt_n ?_
          | refine w_ret ?_
          | refine rt_ret ?_
          | refine w_skip ?_
          | refine w_cond_t rfl ?_
          | refine w_cond_f rfl ?_
          | refine w_cnd rfl (fun hc => ?_) (fun hc => ?_)
          | refine w_cd rfl (fun hc => ?_) (fun hc => ?_)
          | refine w_cn rfl (fun hc => ?_) (fun hc => ?_)
          | refine w_cond rfl (fun hc => ?_) (fun hc => ?_)
          | (exfalso; omega)
          | (refine l_o ?_; first | refine l_op rfl (by first | (apply k_add; first | exact ops_cat (p := out) (q := l[k].1) rfl rfl (by simp; omega) | exact ops_cat (p := out ++ l[k].1) (q := [61]) rfl rfl (by simp; omega) | exact ops_cat (p := out ++ l[k].1 ++ [61]) (q := l[k].2) rfl rfl (by simp; omega) | exact ops_cat (p := out ++ l[k].1 ++ [61] ++ l[k].2) (q := [10]) rfl rfl (by simp; omega) | fail) | fail) (hk := ?_) | refine l_op (hk := ?_))
          | refine d_nil ?_
          | (refine d_o ?_; first | refine d_fl rfl (by first | exact .pl (by first | (apply q_add; first | exact fs_cat (p := out) (q := l[k].1) rfl rfl (by simp; omega) | exact fs_cat (p := out ++ l[k].1) (q := [61]) rfl rfl (by simp; omega) | exact fs_cat (p := out ++ l[k].1 ++ [61]) (q := l[k].2) rfl rfl (by simp; omega) | exact fs_cat (p := out ++ l[k].1 ++ [61] ++ l[k].2) (q := [10]) rfl rfl (by simp; omega) | fail) | fail) | fail) (hk := ?_) | refine d_fl (hk := ?_) | refine d_ef (hk := ?_))
          | (refine w_o ?_; first | refine w_draw (id := 7) (fun _ => true) (fun k => [].contains k) [] 64 (by kernel_rfl) rfl (by kernel_rfl) (by simp [nm, nset, -List.map_take, -List.map_drop]) ?_)
        refine rn_mk (k + 1, out ++ l[k].1 ++ [61] ++ l[k].2 ++ [10]) ?_ (by first | omega | (dsimp only; omega)) (le_eq (by (repeat' first | exact .nil | refine .keep ?_ | refine .any ?_); first | done | fail) rfl rfl)
        refine ⟨by dsimp only; omega, by simp; omega, ?_⟩
        dsimp only
        rw [← h3]
        simp
      · repeat' first
          | refine w_seq ?_
          | refine w_block ?_
          | refine rb_n ?_
          | refine rb_ret ?_
          | refine rb_eq ?_
          | refine rb_ne (by rfl) ?_
          | refine w_exit ?_
          | refine rt_exit ?_
          | refine w_region ?_
          | refine l_nil ?_
          | refine rt_n ?_
          | refine w_ret ?_
          | refine rt_ret ?_
          | refine w_skip ?_
          | refine w_cond_t rfl ?_
          | refine w_cond_f rfl ?_
          | refine w_cnd rfl (fun hc => ?_) (fun hc => ?_)
          | refine w_cd rfl (fun hc => ?_) (fun hc => ?_)
          | refine w_cn rfl (fun hc => ?_) (fun hc => ?_)
          | refine w_cond rfl (fun hc => ?_) (fun hc => ?_)
          | (exfalso; omega)
          | (refine l_o ?_; first | refine l_op (hk := ?_))
          | refine d_nil ?_
          | (refine d_o ?_; first | refine d_fl (hk := ?_) | refine d_ef (hk := ?_))
          | (refine w_o ?_; first | refine w_draw (id := 7) (fun _ => true) (fun k => [].contains k) [] 64 (by kernel_rfl) rfl (by kernel_rfl) (by simp [nm, nset, -List.map_take, -List.map_drop]) ?_)
        all_goals
          rw [show l.drop k = [] from List.drop_of_length_le (by omega), txtRs, List.append_nil] at h3
          subst h3
        · refine en_end (hf := Try.results34) (hr := ?_); simp only [ne, nf, nl, nr, lget, reduceIte, Nat.reduceEqDiff]; first | rfl | refine congrArg RVb ?_ | refine congrArg RVi ?_ | skip
          rw [rowsTxt, if_neg (by rw [eg]; simp), if_pos (by omega)]
          rfl
        · refine en_end (hf := Try.results34) (hr := ?_); simp only [ne, nf, nl, nr, lget, reduceIte, Nat.reduceEqDiff]; first | rfl | refine congrArg RVb ?_ | refine congrArg RVi ?_ | skip
          rw [rowsTxt, if_neg (by rw [eg]; simp), if_neg (by omega)]
          rfl

/-- The keys of the rows with a worth. -/
def keysW (w : List UInt8) : List Rw → List (List UInt8)
  | [] => []
  | r :: rs => if r.2 = w then r.1 :: keysW w rs else keysW w rs
def rowsW (l : List Rw) (w : List UInt8) : Option (List (List UInt8)) := if goodRs l = false then none else some (keysW w l)
theorem implWith_ok (l : List Rw) (w : List UInt8) (hl : ∀ r ∈ l, smRw r) : FCr Try.prog 38 [RRws l, RV.str w] (.tup [OSs ((rowsW l w).getD []), RVb (rowsW l w).isSome]) := by
  refine fcr_lens fun hL => ?_
  simp only [lnk] at hL
  have hG := implGoodRs_ok l hl
  cases eg : goodRs l with
  | false =>
    rw [eg] at hG
    refine (fcr_in Try.func38 rfl (by simp only [Try.ntmps38, anys, List.length_cons, List.length_nil, Nat.reduceAdd, Nat.reduceSub, List.replicate_succ, List.replicate_zero, List.cons_append, List.nil_append] <;> rfl) ?_)
    repeat' first
      | refine w_seq ?_
      | refine w_block ?_
      | refine rb_n ?_
      | refine rb_ret ?_
      | refine rb_eq ?_
      | refine rb_ne (by rfl) ?_
      | refine w_exit ?_
      | refine rt_exit ?_
      | refine w_region ?_
      | refine l_nil ?_
      | refine rt_n ?_
      | refine w_ret ?_
      | refine rt_ret ?_
      | refine w_skip ?_
      | refine w_cond_t rfl ?_
      | refine w_cond_f rfl ?_
      | refine w_cnd rfl (fun hc => ?_) (fun hc => ?_)
      | refine w_cd rfl (fun hc => ?_) (fun hc => ?_)
      | refine w_cn rfl (fun hc => ?_) (fun hc => ?_)
      | refine w_cond rfl (fun hc => ?_) (fun hc => ?_)
      | (refine l_o ?_; first | refine l_eqnil rfl (by kernel_rfl) (by intro b; simp only [nz]; rfl) (fun b hb => ?_) | refine l_op rfl (by first | (apply k_callf; first | exact ops_callf (hfc := hG) | fail) | fail) (hk := ?_) | refine l_op (hk := ?_))
    refine en_endn ([OSs [], RVb false]) (hf := Try.results38) (hr := ?_); simp only [ne]; first | rfl | skip
    simp only [rowsW, eg]
    rfl
  | true =>
    have h60 := goodRs_len eg
    rw [eg] at hG
    refine (fcr_in Try.func38 rfl (by simp only [Try.ntmps38, anys, List.length_cons, List.length_nil, Nat.reduceAdd, Nat.reduceSub, List.replicate_succ, List.replicate_zero, List.cons_append, List.nil_append] <;> rfl) ?_)
    repeat' first
      | refine w_seq ?_
      | refine w_block ?_
      | refine rb_n ?_
      | refine rb_ret ?_
      | refine rb_eq ?_
      | refine rb_ne (by rfl) ?_
      | refine w_exit ?_
      | refine rt_exit ?_
      | refine w_region ?_
      | refine l_nil ?_
      | refine rt_n ?_
      | refine w_ret ?_
      | refine rt_ret ?_
      | refine w_skip ?_
      | refine w_cond_t rfl ?_
      | refine w_cond_f rfl ?_
      | refine w_cnd rfl (fun hc => ?_) (fun hc => ?_)
      | refine w_cd rfl (fun hc => ?_) (fun hc => ?_)
      | refine w_cn rfl (fun hc => ?_) (fun hc => ?_)
      | refine w_cond rfl (fun hc => ?_) (fun hc => ?_)
      | (refine l_o ?_; first | refine l_eqnil rfl (by kernel_rfl) (by intro b; simp only [nz]; rfl) (fun b hb => ?_) | refine l_op rfl (by first | (apply k_callf; first | exact ops_callf (hfc := hG) | fail) | fail) (hk := ?_) | refine l_op (hk := ?_))
    refine w_loopm (ι := Nat × List (List UInt8)) (fun q => [(15, RVn q.1), (6, .ref 12 0 q.2.length), (12, .any)]) (fun q => [(12, 1, q.2.map RV.str)]) (fun q => q.1 ≤ l.length ∧ q.2.length ≤ q.1 ∧ q.2 ++ keysW w (l.drop q.1) = keysW w l) (fun q => l.length - q.1) (0, []) (h0 := ?_) (hs := ?_) (round := ?_)
    · simp
    · refine le_eq (by (repeat' first | exact .nil | refine .keep ?_ | refine .any ?_); first | done | fail) rfl rfl
    · intro ⟨k, out⟩ ⟨h1, h2, h3⟩
      dsimp only at h1 h2 h3 ⊢
      by_cases hk : k < l.length
      · rw [dc hk, keysW] at h3
        repeat' first
          | refine w_seq ?_
          | refine w_block ?_
          | refine rb_n ?_
          | refine rb_ret ?_
          | refine rb_eq ?_
          | refine rb_ne (by rfl) ?_
          | refine w_exit ?_
          | refine rt_exit ?_
          | refine w_region ?_
          | refine l_nil ?_
          | refine rt_n ?_
          | refine w_ret ?_
          | refine rt_ret ?_
          | refine w_skip ?_
          | refine w_cond_t rfl ?_
          | refine w_cond_f rfl ?_
          | refine w_cnd rfl (fun hc => ?_) (fun hc => ?_)
          | refine w_cd rfl (fun hc => ?_) (fun hc => ?_)
          | refine w_cn rfl (fun hc => ?_) (fun hc => ?_)
          | refine w_cond rfl (fun hc => ?_) (fun hc => ?_)
          | (exfalso; omega)
          | (refine l_o ?_; first | refine l_eqnil rfl (by kernel_rfl) (by intro b; simp only [nz]; rfl) (fun b hb => ?_) | refine l_op (hk := ?_))
        · rw [if_pos hc] at h3
          refine rn_mk (k + 1, out ++ [l[k].1]) ?_ (by first | omega | (dsimp only; omega)) (le_dropd 8 (by simp only [nz]; rfl) (by simp only [nz, reduceIte, Nat.reduceEqDiff] <;> rfl) (le_eq (by (repeat' first | exact .nil | refine .keep ?_ | refine .any ?_); first | done | fail) rfl rfl))
          refine ⟨by dsimp only; omega, by simp; omega, ?_⟩
          dsimp only
          rw [← h3]
          simp
        · rw [if_neg hc] at h3
          refine rn_mk (k + 1, out) ?_ (by first | omega | (dsimp only; omega)) (le_dropd 8 (by simp only [nz]; rfl) (by simp only [nz, reduceIte, Nat.reduceEqDiff] <;> rfl) (le_eq (by (repeat' first | exact .nil | refine .keep ?_ | refine .any ?_); first | done | fail) rfl rfl))
          exact ⟨by dsimp only; omega, by dsimp only; omega, h3⟩
      · repeat' first
          | refine w_seq ?_
          | refine w_block ?_
          | refine rb_n ?_
          | refine rb_ret ?_
          | refine rb_eq ?_
          | refine rb_ne (by rfl) ?_
          | refine w_exit ?_
          | refine rt_exit ?_
          | refine w_region ?_
          | refine l_nil ?_
          | refine rt_n ?_
          | refine w_ret ?_
          | refine rt_ret ?_
          | refine w_skip ?_
          | refine w_cond_t rfl ?_
          | refine w_cond_f rfl ?_
          | refine w_cnd rfl (fun hc => ?_) (fun hc => ?_)
          | refine w_cd rfl (fun hc => ?_) (fun hc => ?_)
          | refine w_cn rfl (fun hc => ?_) (fun hc => ?_)
          | refine w_cond rfl (fun hc => ?_) (fun hc => ?_)
          | (exfalso; omega)
          | (refine l_o ?_; first | refine l_eqnil rfl (by kernel_rfl) (by intro b; simp only [nz]; rfl) (fun b hb => ?_) | refine l_op (hk := ?_))
        rw [show l.drop k = [] from List.drop_of_length_le (by omega), keysW, List.append_nil] at h3
        subst h3
        refine en_end (hf := Try.results38) (hr := ?_); simp only [ne, nf, nl, nr, lget, reduceIte, Nat.reduceEqDiff]; first | rfl | refine congrArg RVb ?_ | refine congrArg RVi ?_ | skip
        rw [rowsW, if_neg (by rw [eg]; simp)]
        rfl
end Go.Proofs.Ytdignmbeiohhiaa
