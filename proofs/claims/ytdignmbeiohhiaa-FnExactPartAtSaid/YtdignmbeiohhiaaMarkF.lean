/- Forms marked and looked at again, as the drawn laws do it. For all forms of the lengths that the theorems name. -/
import Derived.Test.YtdignmbeiohhiaaMarks
import Derived.Test.YtdignmbeiohhiaaNds
namespace Go.Proofs.Ytdignmbeiohhiaa
open Eng
attribute [local irreducible] OpS OpG FC FCr Rel Fl Ef DR Fs
set_option linter.unusedSimpArgs false
set_option maxHeartbeats 0
set_option maxRecDepth 100000

/-- Nodes marked one behind the other, the first i of them. -/
def markF (k : Nat) : List NdI → Nat → List NdI
  | [], _ => []
  | r :: rs, 0 => r :: rs
  | r :: rs, i + 1 => (fromN k r.1.length, fromN (k + r.1.length) r.2.length) :: markF (k + (r.1.length + r.2.length)) rs i
def lensF : List NdI → Nat → Nat
  | [], _ => 0
  | _ :: _, 0 => 0
  | r :: rs, i + 1 => r.1.length + r.2.length + lensF rs i
theorem markF_length (k : Nat) (L : List NdI) (i : Nat) : (markF k L i).length = L.length := by
  induction L generalizing k i with
  | nil => cases i <;> rfl
  | cons r rs ih => cases i <;> simp [markF, ih]
theorem markF_zero (k : Nat) (L : List NdI) : markF k L 0 = L := by cases L <;> rfl
theorem lensF_zero (L : List NdI) : lensF L 0 = 0 := by cases L <;> rfl
theorem markF_at {k : Nat} {L : List NdI} {i : Nat} (h : i < L.length) : (markF k L i)[i]? = some L[i] := by
  induction L generalizing k i with
  | nil => simp at h
  | cons r rs ih =>
    cases i with
    | zero => rfl
    | succ i => simp [markF]; simpa using ih (k := k + (r.1.length + r.2.length)) (i := i) (by simpa using h)
theorem markF_set {k : Nat} {L : List NdI} {i : Nat} (h : i < L.length) : (markF k L i).set i (fromN (k + lensF L i) L[i].1.length, fromN (k + lensF L i + L[i].1.length) L[i].2.length) = markF k L (i + 1) := by
  induction L generalizing k i with
  | nil => simp at h
  | cons r rs ih =>
    cases i with
    | zero => simp [markF, lensF, markF_zero]
    | succ i =>
      simp only [markF, List.set_cons_succ, lensF, List.getElem_cons_succ]
      rw [← ih (k := k + (r.1.length + r.2.length)) (i := i) (by simpa using h), Nat.add_assoc k (r.1.length + r.2.length)]
theorem lensF_succ {L : List NdI} {i : Nat} (h : i < L.length) : lensF L (i + 1) = lensF L i + (L[i].1.length + L[i].2.length) := by
  induction L generalizing i with
  | nil => simp at h
  | cons r rs ih =>
    cases i with
    | zero => simp [lensF, lensF_zero]
    | succ i => simp only [lensF, List.getElem_cons_succ]; have := ih (i := i) (by simpa using h); omega
theorem lensF_le {L : List NdI} {i : Nat} (h : i ≤ L.length) : lensF L i ≤ lensF L L.length := by
  induction L generalizing i with
  | nil => simp [lensF]
  | cons r rs ih =>
    cases i with
    | zero => simp [lensF]
    | succ i => simp only [lensF, List.length_cons]; have := ih (i := i) (by simpa using h); omega
theorem names_set_sub {x : Nat} {e : RV} : ∀ {l : List RV} {i : Nat}, x ∈ RV.namesL (l.set i e) → x ∈ RV.namesL l ∨ x ∈ RV.namesL [e]
  | [], _, h => by cases h
  | a :: l, 0, h => by
    rw [List.set_cons_zero] at h
    have e1 : ∀ (b : RV) (m : List RV), RV.namesL (b :: m) = RV.namesL [b] ++ RV.namesL m := fun b m => by simp [RV.namesL]
    rw [e1] at h ⊢
    rcases List.mem_append.1 h with h | h
    · exact .inr h
    · exact .inl (List.mem_append_right _ h)
  | a :: l, i + 1, h => by
    rw [List.set_cons_succ] at h
    have e1 : ∀ (b : RV) (m : List RV), RV.namesL (b :: m) = RV.namesL [b] ++ RV.namesL m := fun b m => by simp [RV.namesL]
    rw [e1] at h ⊢
    rcases List.mem_append.1 h with h | h
    · exact .inl (List.mem_append_left _ h)
    · rcases names_set_sub h with h | h
      · exact .inl (List.mem_append_right _ h)
      · exact .inr h
theorem names_ONdI (L : List NdI) : RV.namesL (L.map ONdI) = [] := namesL_map0 _ _ fun _ => by simp [nm]
theorem names_ndset {L : List NdI} {i n len m : Nat} {b : List Int} (h : m ≠ n) : m ∉ RV.namesL ((L.map ONdI).set i (.agg [.ref n 0 len, OIs b])) := fun hx => by
  rcases names_set_sub hx with h1 | h1
  · rw [names_ONdI] at h1; cases h1
  · simp [nm] at h1; exact h h1
theorem markNodeS_ok (L : List NdI) (k : Nat) (hL : L.length ≤ 1099511627776) (h : k + lensF L L.length ≤ 1099511627776) : FC Try.prog 108 [.ref 1000000000000 0 L.length, RVi k] [(1000000000000, 2, L.map ONdI)]
    (fun rv O => rv = RVi ((k + lensF L L.length : Nat) : Int) ∧ O = [(1000000000000, 2, (markF k L L.length).map ONdI)]) := by
  refine (fc_in Try.func108 rfl (by simp only [Try.ntmps108, anys, List.length_cons, List.length_nil, Nat.reduceAdd, Nat.reduceSub, List.replicate_succ, List.replicate_zero, List.cons_append, List.nil_append] <;> rfl) ?_)
  repeat' first
    | refine w_seq ?_
    | refine w_block ?_
    | refine rb_n ?_
    | refine rb_ret ?_
    | refine rb_eq ?_
    | refine rb_ne (by rfl) ?_
    | refine w_exit ?_
    | refine rt_exit ?_
    | refine w_region ?_
    | refine l_nil ?_
    | refine rt_n ?_
    | refine w_ret ?_
    | refine rt_ret ?_
    | refine w_skip ?_
    | refine w_cond_t rfl ?_
    | refine w_cond_f rfl ?_
    | refine w_cnd rfl (fun hc => ?_) (fun hc => ?_)
    | refine w_cd rfl (fun hc => ?_) (fun hc => ?_)
    | refine w_cn rfl (fun hc => ?_) (fun hc => ?_)
    | refine w_cond rfl (fun hc => ?_) (fun hc => ?_)
    | (refine l_o ?_; first | refine l_op (hk := ?_))
  refine w_loopm (ι := Nat) (fun i => [(5, RVi i), (1, RVi ((k + lensF L i : Nat) : Int))]) (fun i => [(1000000000000, 2, (markF k L i).map ONdI)]) (fun i => i ≤ L.length) (fun i => L.length - i) 0 (h0 := ?_) (hs := ?_) (round := ?_)
  · omega
  · rw [lensF_zero]
    refine le_eq ?_ rfl ?_
    · (repeat' first | exact .nil | refine .keep ?_ | refine .any ?_); first | done | fail
    · rw [markF_zero]
  · intro i hi
    have hml := markF_length k L i
    by_cases hil : i < L.length
    · have hb := lensF_le hi
      have hs := lensF_succ hil
      have hb2 := lensF_le (L := L) (i := i + 1) hil
      have hat := markF_at (k := k) hil
      have hset := markF_set (k := k) hil
      have m1 := markIntS_ok L[i].1 (k + lensF L i) (by omega)
      have m2 := markIntS_ok L[i].2 (k + lensF L i + L[i].1.length) (by omega)
      have f1 := fromN_length (k + lensF L i) L[i].1.length
      have f2 := fromN_length (k + lensF L i + L[i].1.length) L[i].2.length
      have hlt : i < (markF k L i).length := by omega
      have hM0 : ¬ markF k L i = [] := fun e => by rw [e] at hlt; simp at hlt
      generalize markF k L i = M at *
      generalize L[i] = r at *
      obtain ⟨a, b⟩ := r
      dsimp only at *
      generalize fromN (k + lensF L i) a.length = A at *
      generalize fromN (k + lensF L i + a.length) b.length = B at *
      repeat' first
        | refine w_seq ?_
        | refine w_block ?_
        | refine rb_n ?_
        | refine rb_ret ?_
        | refine rb_eq ?_
        | refine rb_ne (by rfl) ?_
        | refine w_exit ?_
        | refine rt_exit ?_
        | refine w_region ?_
        | refine l_nil ?_
        | refine rt_n ?_
        | refine w_ret ?_
        | refine rt_ret ?_
        | refine w_skip ?_
        | refine w_cond_t rfl ?_
        | refine w_cond_f rfl ?_
        | refine w_cnd rfl (fun hc => ?_) (fun hc => ?_)
        | refine w_cd rfl (fun hc => ?_) (fun hc => ?_)
        | refine w_cn rfl (fun hc => ?_) (fun hc => ?_)
        | refine w_cond rfl (fun hc => ?_) (fun hc => ?_)
        | (exfalso; omega)
        | (refine l_o ?_; first | refine l_op rfl (by first | (apply k_indexAddr; first | exact ops_idx_ref rfl rfl (by omega) rfl (by simp [hM0]) (by kernel_rfl) (by kernel_rfl) | fail) | (apply k_load; first | exact ops_load_own rfl rfl (by rw [List.getElem?_map, hat]; rfl) rfl (by decide +kernel) (by simp [nm]) (by simp [nm]) | exact ops_load_own rfl rfl (List.getElem?_set_self (by rw [List.length_map]; omega)) rfl (by decide +kernel) (by simp [nm]) (by simp [nm, names_ndset, hM0]) | fail) | (apply k_callf; first | exact ops_callm1 (d := 18) 16 (A.map RVi) rfl rfl rfl (by kernel_rfl) m1 (by simp [nm]) (by simp [nm]) (by simp [ns]) (by simp [RV.resOkT, RV.resOk, RV.isAgg, nm]) (by simp [ns]) (by simp [nz, nm, hM0]) (by simp [nz, nm, hM0]) | exact ops_callm1 (d := 25) 23 (B.map RVi) rfl rfl rfl (by kernel_rfl) m2 (by simp [nm]) (by simp [nm]) (by simp [ns]) (by simp [RV.resOkT, RV.resOk, RV.isAgg, nm]) (by simp [ns]) (by simp [nz, nm, hM0]) (by simp [nz, nm, hM0]) | fail) | fail) (hk := ?_) | refine l_op (hk := ?_))
      refine rn_mk (i + 1) (by omega) (by omega) ?_
      rw [← hset, hs, show k + (lensF L i + (a.length + b.length)) = k + lensF L i + a.length + b.length by omega]
      refine le_trans (le_seal 1000000000000 i 0 16 rfl (List.getElem?_set_self (by rw [List.length_set, List.length_map]; omega)) rfl rfl (by simp [f1]) (namesL_map0 _ _ fun _ => rfl) (by decide) rfl rfl) (le_trans (le_seal 1000000000000 i 1 23 rfl (List.getElem?_set_self (by rw [List.length_set, List.length_set, List.length_map]; omega)) rfl rfl (by simp [f2]) (namesL_map0 _ _ fun _ => rfl) (by decide) rfl rfl) (le_eq (by (repeat' first | exact .nil | refine .keep ?_ | refine .any ?_); first | done | fail) rfl ?_))
      simp only [oset, oerase, reduceIte, Nat.reduceEqDiff, RV.setCell, List.set_set, List.map_set, List.set_cons_zero, List.set_cons_succ]
    · obtain rfl : i = L.length := by omega
      repeat' first
        | refine w_seq ?_
        | refine w_block ?_
        | refine rb_n ?_
        | refine rb_ret ?_
        | refine rb_eq ?_
        | refine rb_ne (by rfl) ?_
        | refine w_exit ?_
        | refine rt_exit ?_
        | refine w_region ?_
        | refine l_nil ?_
        | refine rt_n ?_
        | refine w_ret ?_
        | refine rt_ret ?_
        | refine w_skip ?_
        | refine w_cond_t rfl ?_
        | refine w_cond_f rfl ?_
        | refine w_cnd rfl (fun hc => ?_) (fun hc => ?_)
        | refine w_cd rfl (fun hc => ?_) (fun hc => ?_)
        | refine w_cn rfl (fun hc => ?_) (fun hc => ?_)
        | refine w_cond rfl (fun hc => ?_) (fun hc => ?_)
        | (exfalso; omega)
        | (refine l_o ?_; first | refine l_op (hk := ?_))
      refine en_endm [] (hf := Try.results108) (hO := ?_) (hr := ?_)
      · rfl
      · rfl
/-- Whether nodes hold the numbers from k on. -/
def heldF (k : Nat) : List NdI → Bool
  | [] => true
  | r :: rs => heldI k r.1 && heldI (k + r.1.length) r.2 && heldF (k + (r.1.length + r.2.length)) rs
theorem heldNodeS_ok (L : List NdI) (k : Nat) (hL : L.length ≤ 1099511627776) (h : k + lensF L L.length ≤ 1099511627776) : FCr Try.prog 109 [.sh (L.map RNdI), RVi k] (RVi (if heldF k L then ((k + lensF L L.length : Nat) : Int) else -1)) := by
  refine (fcr_in Try.func109 rfl (by simp only [Try.ntmps109, anys, List.length_cons, List.length_nil, Nat.reduceAdd, Nat.reduceSub, List.replicate_succ, List.replicate_zero, List.cons_append, List.nil_append] <;> rfl) ?_)
  repeat' first
    | refine w_seq ?_
    | refine w_block ?_
    | refine rb_n ?_
    | refine rb_ret ?_
    | refine rb_eq ?_
    | refine rb_ne (by rfl) ?_
    | refine w_exit ?_
    | refine rt_exit ?_
    | refine w_region ?_
    | refine l_nil ?_
    | refine rt_n ?_
    | refine w_ret ?_
    | refine rt_ret ?_
    | refine w_skip ?_
    | refine w_cond_t rfl ?_
    | refine w_cond_f rfl ?_
    | refine w_cnd rfl (fun hc => ?_) (fun hc => ?_)
    | refine w_cd rfl (fun hc => ?_) (fun hc => ?_)
    | refine w_cn rfl (fun hc => ?_) (fun hc => ?_)
    | refine w_cond rfl (fun hc => ?_) (fun hc => ?_)
    | (refine l_o ?_; first | refine l_op (hk := ?_))
  refine w_loopm (ι := Nat) (fun i => [(5, RVi i), (1, RVi ((k + lensF L i : Nat) : Int))]) (fun _ => []) (fun i => i ≤ L.length ∧ heldF (k + lensF L i) (L.drop i) = heldF k L) (fun i => L.length - i) 0 (h0 := ?_) (hs := ?_) (round := ?_)
  · simp [lensF_zero]
  · rw [lensF_zero]
    refine le_eq (by (repeat' first | exact .nil | refine .keep ?_ | refine .any ?_); first | done | fail) rfl rfl
  · intro i ⟨hi, hg⟩
    have hb := lensF_le hi
    by_cases hil : i < L.length
    · have hs := lensF_succ hil
      have hb2 := lensF_le (L := L) (i := i + 1) hil
      have m1 := heldIntS_ok L[i].1 (k + lensF L i) (by omega)
      have m2 := heldIntS_ok L[i].2 (k + lensF L i + L[i].1.length) (by omega)
      rw [dc hil, heldF] at hg
      cases h1 : heldI (k + lensF L i) L[i].1 with
      | false =>
        rw [h1] at m1 hg
        rw [if_neg (by decide)] at m1
        repeat' first
          | refine w_seq ?_
          | refine w_block ?_
          | refine rb_n ?_
          | refine rb_ret ?_
          | refine rb_eq ?_
          | refine rb_ne (by rfl) ?_
          | refine w_exit ?_
          | refine rt_exit ?_
          | refine w_region ?_
          | refine l_nil ?_
          | refine rt_n ?_
          | refine w_ret ?_
          | refine rt_ret ?_
          | refine w_skip ?_
          | refine w_cond_t rfl ?_
          | refine w_cond_f rfl ?_
          | refine w_cnd rfl (fun hc => ?_) (fun hc => ?_)
          | refine w_cd rfl (fun hc => ?_) (fun hc => ?_)
          | refine w_cn rfl (fun hc => ?_) (fun hc => ?_)
          | refine w_cond rfl (fun hc => ?_) (fun hc => ?_)
          | (exfalso; omega)
          | (refine l_o ?_; first | refine l_op rfl (by first | (apply k_callf; first | exact ops_callf (d := 18) (hfc := m1) | fail) | fail) (hk := ?_) | refine l_op (hk := ?_))
        refine en_one (hf := Try.results109) (h := ?_); simp only [lget]; first | refine congrArg RVb ?_ | refine congrArg RVi ?_ | skip
        rw [← hg]; rfl
      | true =>
        rw [h1] at m1 hg
        rw [if_pos rfl] at m1
        cases h2 : heldI (k + lensF L i + L[i].1.length) L[i].2 with
        | false =>
          rw [h2] at m2 hg
          rw [if_neg (by decide)] at m2
          repeat' first
            | refine w_seq ?_
            | refine w_block ?_
            | refine rb_n ?_
            | refine rb_ret ?_
            | refine rb_eq ?_
            | refine rb_ne (by rfl) ?_
            | refine w_exit ?_
            | refine rt_exit ?_
            | refine w_region ?_
            | refine l_nil ?_
            | refine rt_n ?_
            | refine w_ret ?_
            | refine rt_ret ?_
            | refine w_skip ?_
            | refine w_cond_t rfl ?_
            | refine w_cond_f rfl ?_
            | refine w_cnd rfl (fun hc => ?_) (fun hc => ?_)
            | refine w_cd rfl (fun hc => ?_) (fun hc => ?_)
            | refine w_cn rfl (fun hc => ?_) (fun hc => ?_)
            | refine w_cond rfl (fun hc => ?_) (fun hc => ?_)
            | (exfalso; omega)
            | (refine l_o ?_; first | refine l_op rfl (by first | (apply k_callf; first | exact ops_callf (d := 18) (hfc := m1) | exact ops_callf (d := 27) (hfc := m2) | fail) | fail) (hk := ?_) | refine l_op (hk := ?_))
          refine en_one (hf := Try.results109) (h := ?_); simp only [lget]; first | refine congrArg RVb ?_ | refine congrArg RVi ?_ | skip
          rw [← hg]; rfl
        | true =>
          rw [h2] at m2 hg
          rw [if_pos rfl] at m2
          repeat' first
            | refine w_seq ?_
            | refine w_block ?_
            | refine rb_n ?_
            | refine rb_ret ?_
            | refine rb_eq ?_
            | refine rb_ne (by rfl) ?_
            | refine w_exit ?_
            | refine rt_exit ?_
            | refine w_region ?_
            | refine l_nil ?_
            | refine rt_n ?_
            | refine w_ret ?_
            | refine rt_ret ?_
            | refine w_skip ?_
            | refine w_cond_t rfl ?_
            | refine w_cond_f rfl ?_
            | refine w_cnd rfl (fun hc => ?_) (fun hc => ?_)
            | refine w_cd rfl (fun hc => ?_) (fun hc => ?_)
            | refine w_cn rfl (fun hc => ?_) (fun hc => ?_)
            | refine w_cond rfl (fun hc => ?_) (fun hc => ?_)
            | (exfalso; omega)
            | (refine l_o ?_; first | refine l_op rfl (by first | (apply k_callf; first | exact ops_callf (d := 18) (hfc := m1) | exact ops_callf (d := 27) (hfc := m2) | fail) | fail) (hk := ?_) | refine l_op (hk := ?_))
          rw [Bool.true_and, Bool.true_and] at hg
          refine rn_mk (i + 1) ⟨by omega, by rw [hs, ← Nat.add_assoc]; exact hg⟩ (by omega) ?_
          rw [hs, show k + (lensF L i + (L[i].1.length + L[i].2.length)) = k + lensF L i + L[i].1.length + L[i].2.length by omega]
          refine le_eq (by (repeat' first | exact .nil | refine .keep ?_ | refine .any ?_); first | done | fail) rfl rfl
    · obtain rfl : i = L.length := by omega
      rw [List.drop_of_length_le (Nat.le_refl _), heldF] at hg
      rw [← hg, if_pos rfl]
      repeat' first
        | refine w_seq ?_
        | refine w_block ?_
        | refine rb_n ?_
        | refine rb_ret ?_
        | refine rb_eq ?_
        | refine rb_ne (by rfl) ?_
        | refine w_exit ?_
        | refine rt_exit ?_
        | refine w_region ?_
        | refine l_nil ?_
        | refine rt_n ?_
        | refine w_ret ?_
        | refine rt_ret ?_
        | refine w_skip ?_
        | refine w_cond_t rfl ?_
        | refine w_cond_f rfl ?_
        | refine w_cnd rfl (fun hc => ?_) (fun hc => ?_)
        | refine w_cd rfl (fun hc => ?_) (fun hc => ?_)
        | refine w_cn rfl (fun hc => ?_) (fun hc => ?_)
        | refine w_cond rfl (fun hc => ?_) (fun hc => ?_)
        | (exfalso; omega)
        | (refine l_o ?_; first | refine l_op (hk := ?_))
      refine en_one (hf := Try.results109) (h := ?_); simp only [lget]; first | refine congrArg RVb ?_ | refine congrArg RVi ?_ | skip
theorem markForm_ok (L : List NdI) (k : Nat) (hL : L.length ≤ 1099511627776) (h : k + lensF L L.length ≤ 1099511627776) :
    FC Try.prog 61 [.agg [.ref 1000000000000 0 L.length], RVi k] [(1000000000000, 2, L.map ONdI)]
    (fun rv O => rv = RVi ((k + lensF L L.length : Nat) : Int) ∧ O = [(1000000000000, 2, (markF k L L.length).map ONdI)]) := by
  refine (fc_in Try.func61 rfl (by simp only [Try.ntmps61, anys, List.length_cons, List.length_nil, Nat.reduceAdd, Nat.reduceSub, List.replicate_succ, List.replicate_zero, List.cons_append, List.nil_append] <;> rfl) ?_)
  repeat' first
    | refine w_seq ?_
    | refine w_region ?_
    | refine l_nil ?_
    | refine rt_n ?_
    | refine w_ret ?_
    | refine rt_ret ?_
    | refine w_skip ?_
    | (refine l_o ?_; first | refine l_op rfl (by first | (apply k_callf; first | exact ops_callm1 1000000000000 ((markF k L L.length).map ONdI) rfl rfl rfl (by kernel_rfl) (markNodeS_ok L k hL h) (by simp [nm]) (by simp [nm, names_ONdI]) (by simp [ns]) (by simp [RV.resOkT, RV.resOk, RV.isAgg, nm]) (by simp [ns]) (by simp [nz, nm]) (by simp [nz, nm]) | fail) | fail) (hk := ?_) | refine l_op (hk := ?_))
  refine en_endm ([(2, 1, [.agg [.ref 1000000000000 0 L.length]])]) (hf := Try.results61) (hO := ?_) (hr := ?_)
  · rfl
  · rfl
theorem heldForm_ok (L : List NdI) (k : Nat) (hL : L.length ≤ 1099511627776) (h : k + lensF L L.length ≤ 1099511627776) : FCr Try.prog 62 [RFm L, RVi k] (RVi (if heldF k L then ((k + lensF L L.length : Nat) : Int) else -1)) := by
  have hN := heldNodeS_ok L k hL h
  cases hh : heldF k L with
  | false =>
    rw [hh] at hN
    rw [if_neg (by decide)] at hN ⊢
    refine (fcr_in Try.func62 rfl (by simp only [Try.ntmps62, anys, List.length_cons, List.length_nil, Nat.reduceAdd, Nat.reduceSub, List.replicate_succ, List.replicate_zero, List.cons_append, List.nil_append] <;> rfl) ?_)
    repeat' first
      | refine w_seq ?_
      | refine w_region ?_
      | refine l_nil ?_
      | refine rt_n ?_
      | refine w_ret ?_
      | refine rt_ret ?_
      | refine w_skip ?_
      | refine w_cond_t rfl ?_
      | refine w_cond_f rfl ?_
      | refine w_cnd rfl (fun hc => ?_) (fun hc => ?_)
      | refine w_cd rfl (fun hc => ?_) (fun hc => ?_)
      | refine w_cn rfl (fun hc => ?_) (fun hc => ?_)
      | refine w_cond rfl (fun hc => ?_) (fun hc => ?_)
      | (refine l_o ?_; first | refine l_op rfl (by first | (apply k_callf; first | exact ops_callf (hfc := hN) | fail) | fail) (hk := ?_) | refine l_op (hk := ?_))
    refine en_one (hf := Try.results62) (h := ?_); simp only [lget]; first | refine congrArg RVb ?_ | refine congrArg RVi ?_ | skip
  | true =>
    rw [hh] at hN
    rw [if_pos rfl] at hN ⊢
    refine (fcr_in Try.func62 rfl (by simp only [Try.ntmps62, anys, List.length_cons, List.length_nil, Nat.reduceAdd, Nat.reduceSub, List.replicate_succ, List.replicate_zero, List.cons_append, List.nil_append] <;> rfl) ?_)
    repeat' first
      | refine w_seq ?_
      | refine w_region ?_
      | refine l_nil ?_
      | refine rt_n ?_
      | refine w_ret ?_
      | refine rt_ret ?_
      | refine w_skip ?_
      | refine w_cond_t rfl ?_
      | refine w_cond_f rfl ?_
      | refine w_cnd rfl (fun hc => ?_) (fun hc => ?_)
      | refine w_cd rfl (fun hc => ?_) (fun hc => ?_)
      | refine w_cn rfl (fun hc => ?_) (fun hc => ?_)
      | refine w_cond rfl (fun hc => ?_) (fun hc => ?_)
      | (exfalso; omega)
      | (refine l_o ?_; first | refine l_op rfl (by first | (apply k_callf; first | exact ops_callf (hfc := hN) | fail) | fail) (hk := ?_) | refine l_op (hk := ?_))
    refine en_one (hf := Try.results62) (h := ?_); simp only [lget]; first | refine congrArg RVb ?_ | refine congrArg RVi ?_ | skip
theorem markF_all (k : Nat) (L : List NdI) : lensF (markF k L L.length) (markF k L L.length).length = lensF L L.length ∧ heldF k (markF k L L.length) = true := by
  induction L generalizing k with
  | nil => exact ⟨rfl, rfl⟩
  | cons r rs ih =>
    have h := ih (k + (r.1.length + r.2.length))
    simp only [List.length_cons, markF, lensF, fromN_length, heldF, heldI_fromN]
    exact ⟨by omega, by simpa using h.2⟩
theorem lensF_szNds (l : List NdI) (left : Int) (h0 : 0 ≤ left) (h : 0 ≤ szNds l left) : (lensF l l.length : Int) + szNds l left = left := by
  induction l generalizing left with
  | nil => simp [lensF, szNds]
  | cons r rs ih =>
    simp only [szNds] at h ⊢
    split at h
    · omega
    · rename_i hh
      rw [if_neg hh]
      have := ih (szNd r left) (by omega) h
      have e : szNd r left = left - r.1.length - r.2.length := by
        unfold szNd at hh ⊢
        split
        · rename_i h1; rw [if_pos h1] at hh; omega
        · rename_i h1
          rw [if_neg h1] at hh
          split
          · rename_i h2; rw [if_pos h2] at hh; omega
          · rfl
      simp only [lensF, List.length_cons]
      omega
theorem lensF_szFm {L : List NdI} {left : Int} (h : 0 ≤ szFm L left) : (lensF L L.length : Int) ≤ left := by
  unfold szFm at h
  split at h
  · omega
  · have := lensF_szNds L (left - L.length) (by omega) h
    omega
end Go.Proofs.Ytdignmbeiohhiaa
