/- DropRow of the reference and of the program. For all rows and texts of the lengths that the theorems name. -/
import Derived.Test.YthbnjmcehpmliaaSlc
import Derived.Test.YthbnjmcehpmliaaUnlLaw
namespace Go.Proofs.Ythbnjmcehpmliaa
open Eng
attribute [local irreducible] OpS OpG FC FCr Rel Fl Ef DR Fs
set_option linter.unusedSimpArgs false
set_option maxHeartbeats 0
set_option maxRecDepth 100000

theorem cloneRw_ok (l : List Rw) (hl : l.length ≤ 1048576) : FCr Try.prog 55 [RRws l] (ORws l) := by
  refine (fcr_in Try.func55 rfl (by simp only [Try.ntmps55, anys, List.length_cons, List.length_nil, Nat.reduceAdd, Nat.reduceSub, List.replicate_succ, List.replicate_zero, List.cons_append, List.nil_append] <;> rfl) ?_)
  repeat' first
    | refine w_seq ?_
    | refine w_region ?_
    | refine l_nil ?_
    | refine rt_n ?_
    | refine w_ret ?_
    | refine rt_ret ?_
    | refine w_skip ?_
    | refine w_cond_t rfl ?_
    | refine w_cond_f rfl ?_
    | refine w_cnd rfl (fun hc => ?_) (fun hc => ?_)
    | refine w_cd rfl (fun hc => ?_) (fun hc => ?_)
    | refine w_cn rfl (fun hc => ?_) (fun hc => ?_)
    | refine w_cond rfl (fun hc => ?_) (fun hc => ?_)
    | (refine l_o ?_; first | refine l_eqnil rfl (by kernel_rfl) (by intro b; simp only [nz]; rfl) (fun b hb => ?_) | refine l_op (hk := ?_))
  · have hl0 : l = [] := by simpa using hb hc
    subst hl0
    refine en_le _ (le_nil 2 100 2 (by omega) rfl (by simp [nm]) (by simp [nm]) (by simp only [nz]; rfl)) ?_
    refine en_end (hf := Try.results55) (hr := ?_); simp only [ne, nf, nl, nr, lget, reduceIte, Nat.reduceEqDiff]; first | rfl | refine congrArg RVb ?_ | refine congrArg RVi ?_ | skip
  · refine en_end (hf := Try.results55) (hr := ?_); simp only [ne, nf, nl, nr, lget, reduceIte, Nat.reduceEqDiff]; first | rfl | refine congrArg RVb ?_ | refine congrArg RVi ?_ | skip
theorem delLen (l : List Rw) (i : Nat) (hi : i < l.length) : (List.take i l ++ List.take (l.length - (i + 1)) (List.drop (i + 1) l) ++ List.drop (i + (l.length - (i + 1))) l).length = l.length := by simp; omega
theorem delTake (l : List Rw) (i : Nat) (hi : i < l.length) : (List.take (i + (l.length - (i + 1))) (List.take i l ++ List.take (l.length - (i + 1)) (List.drop (i + 1) l) ++ List.drop (i + (l.length - (i + 1))) l) ++ List.replicate (l.length - (i + (l.length - (i + 1)))) ([], []) ++ List.drop (i + (l.length - (i + 1)) + (l.length - (i + (l.length - (i + 1))))) (List.take i l ++ List.take (l.length - (i + 1)) (List.drop (i + 1) l) ++ List.drop (i + (l.length - (i + 1))) l)).take (i + (l.length - (i + 1))) = l.take i ++ l.drop (i + 1) := by
  have h1 : (l.drop (i + 1)).length = l.length - (i + 1) := List.length_drop
  have h2 : List.take (l.length - (i + 1)) (List.drop (i + 1) l) = l.drop (i + 1) := List.take_of_length_le (by omega)
  have h3 : (l.take i ++ l.drop (i + 1)).length = i + (l.length - (i + 1)) := by simp; omega
  rw [h2, List.take_left' h3, List.append_assoc, List.take_left' h3]
theorem delTake2 (l : List Rw) (i : Nat) (hi : i < l.length) (h : ¬ i + 1 < l.length) : (List.take i l ++ List.replicate (l.length - i) ([], []) ++ List.drop (i + (l.length - i)) l).take i = l.take i ++ l.drop (i + 1) := by
  have h3 : (l.take i).length = i := by simp; omega
  rw [List.append_assoc, List.take_left' h3, List.drop_of_length_le (show l.length ≤ i + 1 by omega), List.append_nil]
theorem deleteRw_ok (l : List Rw) (i : Nat) (hi : i < l.length) (hl : l.length ≤ 1048576) : FC Try.prog 54 [.ref 1000000000000 0 l.length, RVn i, RVn (i + 1)] [(1000000000000, 2, l.map RRw)] (fun rv O => rv = ORws (l.take i ++ l.drop (i + 1)) ∧ O = []) := by
  have h0 : l ≠ [] := by rintro rfl; simp at hi
  have h0m : l.map RRw ≠ [] := by simpa using h0
  have hlm : (l.map RRw).length = l.length := by simp
  refine (fc_in Try.func54 rfl (by simp only [Try.ntmps54, anys, List.length_cons, List.length_nil, Nat.reduceAdd, Nat.reduceSub, List.replicate_succ, List.replicate_zero, List.cons_append, List.nil_append] <;> rfl) ?_)
  by_cases hlast : i + 1 < l.length
  · repeat' first
      | refine w_seq ?_
      | refine w_region ?_
      | refine l_nil ?_
      | refine rt_n ?_
      | refine w_ret ?_
      | refine rt_ret ?_
      | refine w_skip ?_
      | refine w_cond_t rfl ?_
      | refine w_cond_f rfl ?_
      | refine w_cnd rfl (fun hc => ?_) (fun hc => ?_)
      | refine w_cd rfl (fun hc => ?_) (fun hc => ?_)
      | refine w_cn rfl (fun hc => ?_) (fun hc => ?_)
      | refine w_cond rfl (fun hc => ?_) (fun hc => ?_)
      | (exfalso; omega)
      | (refine l_o ?_; first | refine l_eqnil rfl (by kernel_rfl) (by intro b; simp only [nz]; rfl) (fun b hb => ?_) | refine l_op rfl (by first | (apply k_slice; first | exact ops_rcut3 rfl rfl rfl rfl rfl (by omega) (by omega) (by omega) h0m (by kernel_rfl) (by kernel_rfl) | exact ops_rfront rfl rfl rfl (by omega) h0m (by kernel_rfl) (by kernel_rfl) | exact ops_rcutl rfl rfl rfl (by omega) (by omega) (by kernel_rfl) (by kernel_rfl) | exact ops_rmid (h := l.length) rfl rfl rfl rfl (by omega) (by rw [List.length_map, delLen l i hi]; omega) (by kernel_rfl) (by kernel_rfl) | fail) | (apply k_clear; first | exact ops_clear ([], []) (zv := .agg #[.string ⟨#[]⟩, .string ⟨#[]⟩]) pe_rw rfl rfl (by omega) (by rw [delLen l i hi]; omega) (by kernel_rfl) (by kernel_rfl) rfl | fail) | fail) (hk := ?_) | refine l_op (hk := ?_))
      | refine e_nil ?_
      | (refine e_o ?_; first | refine e_fl rfl (by first | exact .pl (by first | (apply q_slice; first | exact fs_rfront rfl rfl rfl rfl (by omega) h0m (by kernel_rfl) (by kernel_rfl) | exact fs_rcutl rfl rfl rfl rfl (by omega) (by omega) (by kernel_rfl) (by kernel_rfl) | exact fs_rmid (h := l.length) rfl rfl rfl rfl (by omega) (by rw [List.length_map, delLen l i hi]; omega) (by kernel_rfl) (by kernel_rfl) | fail) | fail) | fail) (hk := ?_) | refine e_fl (hk := ?_) | refine e_ef rfl (by first | exact .append_in pe_rw rfl rfl rfl h0 (by omega) (by omega) (by kernel_rfl) (by kernel_rfl) | fail) (hk := ?_) | refine e_ef (hk := ?_))
      | (refine w_o ?_; first | refine w_drawS (id := 5) (rdP [(2, 1000000000000), (5, 1000000000000)]) (fun k => [6, 7].contains k) [[],[]] (by kernel_rfl) rfl (by kernel_rfl) (by simp [nm, nset, -List.map_take, -List.map_drop]) ?_)
    have hlen : i + (l.length - (i + 1)) = (l.take i ++ l.drop (i + 1)).length := by simp; omega
    refine en_le _ (le_cut' 1000000000000 (i + (l.length - (i + 1))) pe_rw rfl (delTake l i hi) (by simp only [nz, nf, nl, nb, nr, ng, nq, nu, reduceIte, Nat.reduceEqDiff, Nat.reduceAdd]; rfl)) ?_
    rw [hlen]
    refine en_end (hf := Try.results54) (hr := ?_); simp only [ne, nf, nl, nr, lget, reduceIte, Nat.reduceEqDiff]; first | rfl | refine congrArg RVb ?_ | refine congrArg RVi ?_ | skip
  · have hil : i + 1 = l.length := by omega
    repeat' first
      | refine w_seq ?_
      | refine w_region ?_
      | refine l_nil ?_
      | refine rt_n ?_
      | refine w_ret ?_
      | refine rt_ret ?_
      | refine w_skip ?_
      | refine w_cond_t rfl ?_
      | refine w_cond_f rfl ?_
      | refine w_cnd rfl (fun hc => ?_) (fun hc => ?_)
      | refine w_cd rfl (fun hc => ?_) (fun hc => ?_)
      | refine w_cn rfl (fun hc => ?_) (fun hc => ?_)
      | refine w_cond rfl (fun hc => ?_) (fun hc => ?_)
      | (exfalso; omega)
      | (refine l_o ?_; first | refine l_eqnil rfl (by kernel_rfl) (by intro b; simp only [nz]; rfl) (fun b hb => ?_) | refine l_op rfl (by first | (apply k_slice; first | exact ops_rcut3 rfl rfl rfl rfl rfl (by omega) (by omega) (by omega) h0m (by kernel_rfl) (by kernel_rfl) | exact ops_rfront rfl rfl rfl (by omega) h0m (by kernel_rfl) (by kernel_rfl) | exact ops_rcutz rfl rfl rfl (by omega) (by omega) h0m (by kernel_rfl) (by kernel_rfl) | exact ops_rmid (l := i) (h := l.length) rfl rfl rfl rfl (by omega) (by omega) (by kernel_rfl) (by kernel_rfl) | fail) | (apply k_clear; first | exact ops_clear ([], []) (zv := .agg #[.string ⟨#[]⟩, .string ⟨#[]⟩]) pe_rw rfl rfl (by omega) (by omega) (by kernel_rfl) (by kernel_rfl) rfl | fail) | fail) (hk := ?_) | refine l_op (hk := ?_))
      | refine e_nil ?_
      | (refine e_o ?_; first | refine e_fl rfl (by first | exact .pl (by first | (apply q_slice; first | exact fs_rfront rfl rfl rfl rfl (by omega) h0m (by kernel_rfl) (by kernel_rfl) | exact fs_rcutz rfl rfl rfl rfl (by omega) (by omega) h0m (by kernel_rfl) (by kernel_rfl) | exact fs_rmid (l := i) (h := l.length) rfl rfl rfl rfl (by omega) (by omega) (by kernel_rfl) (by kernel_rfl) | fail) | fail) | fail) (hk := ?_) | refine e_fl (hk := ?_) | refine e_ef rfl (by first | exact .append_z rfl rfl rfl h0m (by omega) (by kernel_rfl) (by kernel_rfl) | fail) (hk := ?_) | refine e_ef (hk := ?_))
      | (refine w_o ?_; first | refine w_drawS (id := 5) (rdP [(2, 1000000000000), (5, 1000000000000)]) (fun k => [6, 7].contains k) [[],[]] (by kernel_rfl) rfl (by kernel_rfl) (by simp [nm, nset, -List.map_take, -List.map_drop]) ?_)
    have hlen : i = (l.take i ++ l.drop (i + 1)).length := by simp; omega
    refine en_le _ (le_cut' 1000000000000 i pe_rw rfl (delTake2 l i hi (by omega)) (by simp only [nz, nf, nl, nb, nr, ng, nq, nu, reduceIte, Nat.reduceEqDiff, Nat.reduceAdd]; rfl)) ?_
    generalize l.take i ++ l.drop (i + 1) = X at *
    subst hlen
    refine en_end (hf := Try.results54) (hr := ?_); simp only [ne, nf, nl, nr, lget, reduceIte, Nat.reduceEqDiff]; first | rfl | refine congrArg RVb ?_ | refine congrArg RVi ?_ | skip
def dropRw (l : List Rw) (key : List UInt8) : Option (List Rw) := if goodRs l = false then none else if fnd l key < 0 then none else some (l.take (fnd l key).toNat ++ l.drop ((fnd l key).toNat + 1))
theorem dropRw_len (l : List Rw) (key : List UInt8) : ((dropRw l key).getD []).length ≤ 60 := by
  unfold dropRw
  split
  · simp
  · rename_i h
    have := goodRs_len (by simpa using h)
    split
    · simp
    · simp; omega
theorem specDrop_ok (l : List Rw) (key : List UInt8) (hl : ∀ r ∈ l, smRw r) : FCr Try.prog 29 [RRws l, RV.str key] (.tup [ORws ((dropRw l key).getD []), RVb (dropRw l key).isSome]) := by
  have hG := specGoodRs_ok l hl
  have hF := l27Find_ok l key
  have hlt := (fnd_bounds l key).2
  cases eg : goodRs l with
  | false =>
    rw [eg] at hG
    refine (fcr_in Try.func29 rfl (by simp only [Try.ntmps29, anys, List.length_cons, List.length_nil, Nat.reduceAdd, Nat.reduceSub, List.replicate_succ, List.replicate_zero, List.cons_append, List.nil_append] <;> rfl) ?_)
    repeat' first
      | refine w_seq ?_
      | refine w_region ?_
      | refine l_nil ?_
      | refine rt_n ?_
      | refine w_ret ?_
      | refine rt_ret ?_
      | refine w_skip ?_
      | refine w_cond_t rfl ?_
      | refine w_cond_f rfl ?_
      | refine w_cnd rfl (fun hc => ?_) (fun hc => ?_)
      | refine w_cd rfl (fun hc => ?_) (fun hc => ?_)
      | refine w_cn rfl (fun hc => ?_) (fun hc => ?_)
      | refine w_cond rfl (fun hc => ?_) (fun hc => ?_)
      | (refine l_o ?_; first | refine l_op rfl (by first | (apply k_callf; first | exact ops_callf (d := 9) (hfc := hF) | exact ops_callf (d := 11) (hfc := hG) | fail) | fail) (hk := ?_) | refine l_op (hk := ?_) | (refine l_g ?_; first | refine l_y rfl rfl rfl ?_ | refine l_n rfl rfl rfl rfl (hk := ?_) | refine l_n' rfl rfl rfl (hk := ?_) | refine l_spnd rfl rfl rfl (h1 := fun hc => ?_) (h2 := fun hc => ?_) | refine l_spd rfl rfl rfl (h1 := fun hc => ?_) (h2 := fun hc => ?_) | refine l_spn rfl rfl rfl (h1 := fun hc => ?_) (h2 := fun hc => ?_) | refine l_sp rfl rfl rfl (h1 := fun hc => ?_) (h2 := fun hc => ?_)))
      | refine d_nil ?_
      | (refine d_o ?_; first | refine d_fl (hk := ?_) | refine d_ef rfl (by first | exact .callf (d := 9) (hfc := hF) | exact .callf (d := 11) (hfc := hG) | exact .callfY (d := 9) (hfc := hF) | exact .callfY (d := 11) (hfc := hG) | fail) (hk := ?_) | refine d_ef (hk := ?_) | (refine d_g ?_; first | refine d_spnd rfl rfl rfl (h1 := fun hc => ?_) (h2 := fun hc => ?_) | refine d_spd rfl rfl rfl (h1 := fun hc => ?_) (h2 := fun hc => ?_) | refine d_spn rfl rfl rfl (h1 := fun hc => ?_) (h2 := fun hc => ?_) | refine d_sp rfl rfl rfl (h1 := fun hc => ?_) (h2 := fun hc => ?_)))
      | (refine w_o ?_; first | refine w_draw (id := 4) (fun _ => true) (fun k => [0, 4, 9].contains k) [[], [], []] 64 (by kernel_rfl) rfl (by kernel_rfl) (by simp [nm, nset, -List.map_take, -List.map_drop]) ?_)
    refine en_endn ([ORws [], RVb false]) (hf := Try.results29) (hr := ?_); simp only [ne]; first | rfl | skip
    simp only [dropRw, eg]
    rfl
  | true =>
    have h60 := goodRs_len eg
    rw [eg] at hG
    by_cases h0 : fnd l key < 0
    · refine (fcr_in Try.func29 rfl (by simp only [Try.ntmps29, anys, List.length_cons, List.length_nil, Nat.reduceAdd, Nat.reduceSub, List.replicate_succ, List.replicate_zero, List.cons_append, List.nil_append] <;> rfl) ?_)
      repeat' first
        | refine w_seq ?_
        | refine w_region ?_
        | refine l_nil ?_
        | refine rt_n ?_
        | refine w_ret ?_
        | refine rt_ret ?_
        | refine w_skip ?_
        | refine w_cond_t rfl ?_
        | refine w_cond_f rfl ?_
        | refine w_cnd rfl (fun hc => ?_) (fun hc => ?_)
        | refine w_cd rfl (fun hc => ?_) (fun hc => ?_)
        | refine w_cn rfl (fun hc => ?_) (fun hc => ?_)
        | refine w_cond rfl (fun hc => ?_) (fun hc => ?_)
        | (exfalso; omega)
        | (refine l_o ?_; first | refine l_op rfl (by first | (apply k_callf; first | exact ops_callf (d := 9) (hfc := hF) | exact ops_callf (d := 11) (hfc := hG) | fail) | fail) (hk := ?_) | refine l_op (hk := ?_) | (refine l_g ?_; first | refine l_y rfl rfl rfl ?_ | refine l_n rfl rfl rfl rfl (hk := ?_) | refine l_n' rfl rfl rfl (hk := ?_) | refine l_spnd rfl rfl rfl (h1 := fun hc => ?_) (h2 := fun hc => ?_) | refine l_spd rfl rfl rfl (h1 := fun hc => ?_) (h2 := fun hc => ?_) | refine l_spn rfl rfl rfl (h1 := fun hc => ?_) (h2 := fun hc => ?_) | refine l_sp rfl rfl rfl (h1 := fun hc => ?_) (h2 := fun hc => ?_)))
        | refine d_nil ?_
        | (refine d_o ?_; first | refine d_fl (hk := ?_) | refine d_ef rfl (by first | exact .callf (d := 9) (hfc := hF) | exact .callf (d := 11) (hfc := hG) | exact .callfY (d := 9) (hfc := hF) | exact .callfY (d := 11) (hfc := hG) | fail) (hk := ?_) | refine d_ef (hk := ?_) | (refine d_g ?_; first | refine d_spnd rfl rfl rfl (h1 := fun hc => ?_) (h2 := fun hc => ?_) | refine d_spd rfl rfl rfl (h1 := fun hc => ?_) (h2 := fun hc => ?_) | refine d_spn rfl rfl rfl (h1 := fun hc => ?_) (h2 := fun hc => ?_) | refine d_sp rfl rfl rfl (h1 := fun hc => ?_) (h2 := fun hc => ?_)))
        | (refine w_o ?_; first | refine w_draw (id := 4) (fun _ => true) (fun k => [0, 4, 9].contains k) [[], [], []] 64 (by kernel_rfl) rfl (by kernel_rfl) (by simp [nm, nset, -List.map_take, -List.map_drop]) ?_)
      refine en_endn ([ORws [], RVb false]) (hf := Try.results29) (hr := ?_); simp only [ne]; first | rfl | skip
      rw [dropRw, if_neg (by rw [eg]; simp), if_pos h0]
      rfl
    · obtain ⟨n, hn⟩ := Int.eq_ofNat_of_zero_le (show 0 ≤ fnd l key by omega)
      rw [hn] at hF h0
      have hnl : n < l.length := by omega
      have hres : dropRw l key = some (l.take n ++ l.drop (n + 1)) := by rw [dropRw, if_neg (by rw [eg]; simp), hn, if_neg h0, Int.toNat_natCast]
      rw [hres]
      refine (fcr_in Try.func29 rfl (by simp only [Try.ntmps29, anys, List.length_cons, List.length_nil, Nat.reduceAdd, Nat.reduceSub, List.replicate_succ, List.replicate_zero, List.cons_append, List.nil_append] <;> rfl) ?_)
      repeat' first
        | refine w_seq ?_
        | refine w_region ?_
        | refine l_nil ?_
        | refine rt_n ?_
        | refine w_ret ?_
        | refine rt_ret ?_
        | refine w_skip ?_
        | refine w_cond_t rfl ?_
        | refine w_cond_f rfl ?_
        | refine w_cnd rfl (fun hc => ?_) (fun hc => ?_)
        | refine w_cd rfl (fun hc => ?_) (fun hc => ?_)
        | refine w_cn rfl (fun hc => ?_) (fun hc => ?_)
        | refine w_cond rfl (fun hc => ?_) (fun hc => ?_)
        | (exfalso; omega)
        | (refine l_o ?_; first | refine l_op rfl (by first | (apply k_add; first | exact ops_addn (a := n) (b := 1) rfl rfl (by omega) | fail) | (apply k_slice; first | exact ops_cuthm (kk := 2) rfl rfl (by omega) (by kernel_rfl) (by kernel_rfl) (by decide) (fun _ => rfl) | exact ops_cutlm (kk := 2) rfl rfl (by omega) (by kernel_rfl) (by kernel_rfl) (by decide) (fun _ => rfl) | fail) | (apply k_callf; first | exact ops_callf (d := 9) (hfc := hF) | exact ops_callf (d := 11) (hfc := hG) | fail) | fail) (hk := ?_) | refine l_op (hk := ?_) | (refine l_g ?_; first | refine l_y rfl rfl rfl ?_ | refine l_n rfl rfl rfl rfl (hk := ?_) | refine l_n' rfl rfl rfl (hk := ?_) | refine l_spnd rfl rfl rfl (h1 := fun hc => ?_) (h2 := fun hc => ?_) | refine l_spd rfl rfl rfl (h1 := fun hc => ?_) (h2 := fun hc => ?_) | refine l_spn rfl rfl rfl (h1 := fun hc => ?_) (h2 := fun hc => ?_) | refine l_sp rfl rfl rfl (h1 := fun hc => ?_) (h2 := fun hc => ?_)))
        | refine d_nil ?_
        | (refine d_o ?_; first | refine d_fl rfl (by first | exact .pl (by first | (apply q_add; first | exact fs_addn (a := n) (b := 1) rfl rfl (by omega) | fail) | (apply q_slice; first | exact fs_cuthm (kk := 2) rfl rfl (by omega) (by kernel_rfl) (by kernel_rfl) (by decide) (fun _ => rfl) | exact fs_cutlm (kk := 2) rfl rfl (by omega) (by kernel_rfl) (by kernel_rfl) (by decide) (fun _ => rfl) | fail) | fail) | exact .ye rfl rfl rfl (by first | (apply q_add; first | exact fs_addn (a := n) (b := 1) rfl rfl (by omega) | fail) | (apply q_slice; first | exact fs_cuthm (kk := 2) rfl rfl (by omega) (by kernel_rfl) (by kernel_rfl) (by decide) (fun _ => rfl) | exact fs_cutlm (kk := 2) rfl rfl (by omega) (by kernel_rfl) (by kernel_rfl) (by decide) (fun _ => rfl) | fail) | fail) | fail) (hk := ?_) | refine d_fl (hk := ?_) | refine d_ef rfl (by first | exact .callf (d := 9) (hfc := hF) | exact .callf (d := 11) (hfc := hG) | exact .callfY (d := 9) (hfc := hF) | exact .callfY (d := 11) (hfc := hG) | fail) (hk := ?_) | refine d_ef (hk := ?_) | (refine d_g ?_; first | refine d_spnd rfl rfl rfl (h1 := fun hc => ?_) (h2 := fun hc => ?_) | refine d_spd rfl rfl rfl (h1 := fun hc => ?_) (h2 := fun hc => ?_) | refine d_spn rfl rfl rfl (h1 := fun hc => ?_) (h2 := fun hc => ?_) | refine d_sp rfl rfl rfl (h1 := fun hc => ?_) (h2 := fun hc => ?_)))
        | (refine w_o ?_; first | refine w_draw (id := 4) (roL []) (fun k => [0, 4, 9, 10].contains k) [[17],[21],[26],[]] 64 (by kernel_rfl) rfl (by kernel_rfl) (by simp [nm, nset, -List.map_take, -List.map_drop]) ?_)
      refine en_end (hf := Try.results29) (hr := ?_); simp only [ne, nf, nl, nr, lget, reduceIte, Nat.reduceEqDiff]; first | rfl | refine congrArg RVb ?_ | refine congrArg RVi ?_ | skip
theorem implDrop_ok (l : List Rw) (key : List UInt8) (hl : ∀ r ∈ l, smRw r) : FCr Try.prog 30 [RRws l, RV.str key] (.tup [ORws ((dropRw l key).getD []), RVb (dropRw l key).isSome]) := by
  have hG := implGoodRs_ok l hl
  cases eg : goodRs l with
  | false =>
    rw [eg] at hG
    refine (fcr_in Try.func30 rfl (by simp only [Try.ntmps30, anys, List.length_cons, List.length_nil, Nat.reduceAdd, Nat.reduceSub, List.replicate_succ, List.replicate_zero, List.cons_append, List.nil_append] <;> rfl) ?_)
    repeat' first
      | refine w_seq ?_
      | refine w_region ?_
      | refine l_nil ?_
      | refine rt_n ?_
      | refine w_ret ?_
      | refine rt_ret ?_
      | refine w_skip ?_
      | refine w_cond_t rfl ?_
      | refine w_cond_f rfl ?_
      | refine w_cnd rfl (fun hc => ?_) (fun hc => ?_)
      | refine w_cd rfl (fun hc => ?_) (fun hc => ?_)
      | refine w_cn rfl (fun hc => ?_) (fun hc => ?_)
      | refine w_cond rfl (fun hc => ?_) (fun hc => ?_)
      | (refine l_o ?_; first | refine l_op rfl (by first | (apply k_callf; first | exact ops_callf (d := 9) (hfc := hG) | fail) | fail) (hk := ?_) | refine l_op (hk := ?_))
    refine en_endn ([ORws [], RVb false]) (hf := Try.results30) (hr := ?_); simp only [ne]; first | rfl | skip
    simp only [dropRw, eg]
    rfl
  | true =>
    have h60 := goodRs_len eg
    rw [eg] at hG
    have hs := goodRs_srt eg
    obtain ⟨i, hi⟩ := plc_ex key l hs
    have hP := placeOf_ok l key i hi (by omega)
    have hf := fnd_at hs hi
    cases ei : isAt l key i with
    | false =>
      rw [ei] at hP hf
      refine (fcr_in Try.func30 rfl (by simp only [Try.ntmps30, anys, List.length_cons, List.length_nil, Nat.reduceAdd, Nat.reduceSub, List.replicate_succ, List.replicate_zero, List.cons_append, List.nil_append] <;> rfl) ?_)
      repeat' first
        | refine w_seq ?_
        | refine w_region ?_
        | refine l_nil ?_
        | refine rt_n ?_
        | refine w_ret ?_
        | refine rt_ret ?_
        | refine w_skip ?_
        | refine w_cond_t rfl ?_
        | refine w_cond_f rfl ?_
        | refine w_cnd rfl (fun hc => ?_) (fun hc => ?_)
        | refine w_cd rfl (fun hc => ?_) (fun hc => ?_)
        | refine w_cn rfl (fun hc => ?_) (fun hc => ?_)
        | refine w_cond rfl (fun hc => ?_) (fun hc => ?_)
        | (refine l_o ?_; first | refine l_op rfl (by first | (apply k_callf; first | exact ops_callf (d := 9) (hfc := hG) | exact ops_callf (d := 14) (hfc := hP) | fail) | fail) (hk := ?_) | refine l_op (hk := ?_))
      refine en_endn ([ORws [], RVb false]) (hf := Try.results30) (hr := ?_); simp only [ne]; first | rfl | skip
      rw [dropRw, if_neg (by rw [eg]; simp), hf, if_pos (by simp)]
      rfl
    | true =>
      have hil : i < l.length := by
        rcases Nat.lt_or_ge i l.length with h | h
        · exact h
        · rw [isAt, List.getElem?_eq_none h] at ei; cases ei
      rw [ei] at hP hf
      have hres : dropRw l key = some (l.take i ++ l.drop (i + 1)) := by rw [dropRw, if_neg (by rw [eg]; simp), hf, if_pos rfl, if_neg (by omega), Int.toNat_natCast]
      rw [hres]
      have hD := deleteRw_ok l i hil (by omega)
      refine (fcr_in Try.func30 rfl (by simp only [Try.ntmps30, anys, List.length_cons, List.length_nil, Nat.reduceAdd, Nat.reduceSub, List.replicate_succ, List.replicate_zero, List.cons_append, List.nil_append] <;> rfl) ?_)
      repeat' first
        | refine w_seq ?_
        | refine w_region ?_
        | refine l_nil ?_
        | refine rt_n ?_
        | refine w_ret ?_
        | refine rt_ret ?_
        | refine w_skip ?_
        | refine w_cond_t rfl ?_
        | refine w_cond_f rfl ?_
        | refine w_cnd rfl (fun hc => ?_) (fun hc => ?_)
        | refine w_cd rfl (fun hc => ?_) (fun hc => ?_)
        | refine w_cn rfl (fun hc => ?_) (fun hc => ?_)
        | refine w_cond rfl (fun hc => ?_) (fun hc => ?_)
        | (refine l_o ?_; first | refine l_op rfl (by first | (apply k_add; first | exact ops_addn (a := i) (b := 1) rfl rfl (by omega) | fail) | (apply k_callf; first | exact ops_callG (d := 24) [20] [20] ([]) (hfc := hD) | exact ops_callf (d := 9) (hfc := hG) | exact ops_callf (d := 14) (hfc := hP) | exact ops_callv (d := 20) (hfc := cloneRw_ok l (by omega)) | fail) | fail) (hk := ?_) | refine l_op (hk := ?_))
      refine en_end (hf := Try.results30) (hr := ?_); simp only [ne, nf, nl, nr, lget, reduceIte, Nat.reduceEqDiff]; first | rfl | refine congrArg RVb ?_ | refine congrArg RVi ?_ | skip
theorem lawDropRow_ok (l : List Rw) (key : List UInt8) (hl : ∀ r ∈ l, lenRw r) : FCr Try.prog 7 [RRws l, RV.str key] (RVb true) := by
  have hz := szRowS_ok l 1048576 (by omega) (by omega) hl
  refine (fcr_in Try.func7 rfl (by simp only [Try.ntmps7, anys, List.length_cons, List.length_nil, Nat.reduceAdd, Nat.reduceSub, List.replicate_succ, List.replicate_zero, List.cons_append, List.nil_append] <;> rfl) ?_)
  repeat' first
    | refine w_seq ?_
    | refine w_region ?_
    | refine l_nil ?_
    | refine rt_n ?_
    | refine w_ret ?_
    | refine rt_ret ?_
    | refine w_skip ?_
    | refine w_cond_t rfl ?_
    | refine w_cond_f rfl ?_
    | refine w_cnd rfl (fun hc => ?_) (fun hc => ?_)
    | refine w_cd rfl (fun hc => ?_) (fun hc => ?_)
    | refine w_cn rfl (fun hc => ?_) (fun hc => ?_)
    | refine w_cond rfl (fun hc => ?_) (fun hc => ?_)
    | (refine l_o ?_; first | refine l_op rfl (by first | (apply k_callf; first | exact ops_callz (hfc := hz) | fail) | fail) (hk := ?_) | refine l_op (hk := ?_) | (refine l_g ?_; first | refine l_y rfl rfl rfl ?_ | refine l_n rfl rfl rfl rfl (hk := ?_) | refine l_n' rfl rfl rfl (hk := ?_) | refine l_spnd rfl rfl rfl (h1 := fun hc => ?_) (h2 := fun hc => ?_) | refine l_spd rfl rfl rfl (h1 := fun hc => ?_) (h2 := fun hc => ?_) | refine l_spn rfl rfl rfl (h1 := fun hc => ?_) (h2 := fun hc => ?_) | refine l_sp rfl rfl rfl (h1 := fun hc => ?_) (h2 := fun hc => ?_)))
  · refine en_one (hf := Try.results7) (h := ?_); simp only [lget]; first | refine congrArg RVb ?_ | refine congrArg RVi ?_ | skip
  · refine en_one (hf := Try.results7) (h := ?_); simp only [lget]; first | refine congrArg RVb ?_ | refine congrArg RVi ?_ | skip
  obtain ⟨b1, b2⟩ := smRws (l := l) (left := 1048576) (by omega) (by omega)
  have hS := specDrop_ok l key b2
  have hI := implDrop_ok l key b2
  have hlen := dropRw_len l key
  generalize (dropRw l key).getD [] = A at *
  generalize (dropRw l key).isSome = o at *
  have hH := heldRowS_ok (fromR 1 A.length) 1 (by rw [fromR_length]; omega)
  rw [heldRw_fromR, fromR_length, if_pos rfl] at hH
  have l1 := fromR_length 1 A.length
  have t1 := List.take_of_length_le (l := (fromR 1 A.length).map RRw) (i := A.length) (by simp [l1])
  repeat' first
    | refine w_seq ?_
    | refine w_region ?_
    | refine l_nil ?_
    | refine rt_n ?_
    | refine w_ret ?_
    | refine rt_ret ?_
    | refine w_skip ?_
    | refine w_cond_t rfl ?_
    | refine w_cond_f rfl ?_
    | refine w_cnd rfl (fun hc => ?_) (fun hc => ?_)
    | refine w_cd rfl (fun hc => ?_) (fun hc => ?_)
    | refine w_cn rfl (fun hc => ?_) (fun hc => ?_)
    | refine w_cond rfl (fun hc => ?_) (fun hc => ?_)
    | (refine l_o ?_; first | refine l_op rfl (by first | (apply k_callf; first | exact ops_callz (by simp [view1, viewC, olook, nz, nf, nr, l1, t1]) rfl (by kernel_rfl) hH (by simp [ns]) | exact ops_callm1 (d := 55) 32 ((fromR 1 l.length).map RRw) rfl rfl rfl (by kernel_rfl) (markRowS_ok l 1 (by omega)) (by simp [nm]) (by simp [nm]) (by simp [ns]) (by simp [RV.resOkT, RV.resOk, RV.isAgg, nm]) (by simp [ns]) (by simp [nz, nm]) (by simp [nz, nm]) | exact ops_callm1 (d := 71) 1036 ((fromR 1 A.length).map RRw) rfl rfl rfl (by kernel_rfl) (markRowS_ok A 1 (by omega)) (by simp [nm]) (by simp [nm]) (by simp [ns]) (by simp [RV.resOkT, RV.resOk, RV.isAgg, nm]) (by simp [ns]) (by simp [nz, nm]) (by simp [nz, nm]) | exact ops_callv (d := 32) (hfc := toRowS_ok l b1) | exact ops_callv (d := 36) (hfc := hI) | exact ops_callz (d := 51) (hfc := eqRowS_ok l l) | exact ops_callz (hfc := toRowS_ok l b1) | exact ops_callz (hfc := hS) | exact ops_callz (hfc := hI) | exact ops_callz (hfc := eqRowS_ok A A) | fail) | fail) (hk := ?_) | refine l_op (hk := ?_) | (refine l_g ?_; first | refine l_y rfl rfl rfl ?_ | refine l_n rfl rfl rfl rfl (hk := ?_) | refine l_n' rfl rfl rfl (hk := ?_) | refine l_spnd rfl rfl rfl (h1 := fun hc => ?_) (h2 := fun hc => ?_) | refine l_spd rfl rfl rfl (h1 := fun hc => ?_) (h2 := fun hc => ?_) | refine l_spn rfl rfl rfl (h1 := fun hc => ?_) (h2 := fun hc => ?_) | refine l_sp rfl rfl rfl (h1 := fun hc => ?_) (h2 := fun hc => ?_)))
  all_goals first
    | exact absurd rfl hc
    | (exfalso; omega)
    | (refine en_one (hf := Try.results7) (h := ?_); simp only [lget]; first | refine congrArg RVb ?_ | refine congrArg RVi ?_ | skip; done)
    | trace_state
end Go.Proofs.Ythbnjmcehpmliaa
