/- Boards measured, copied, compared, marked and looked at again, as the drawn laws do it. -/
import Derived.Test.YtijjcakbhnolhaaDoorDomP
import Derived.Test.YtijjcakbhnolhaaDoorMarkR
import Derived.Test.YtijjcakbhnolhaaDoorOpsN
namespace Go.Proofs.YtijjcakbhnolhaaDoor
open Eng
attribute [local irreducible] OpS OpG FC FCr Rel Fl Ef DR Fs
attribute [local simp] RV.fzR_names
set_option linter.unusedSimpArgs false
set_option linter.unusedVariables false
set_option maxHeartbeats 0
set_option maxRecDepth 100000

def szL : List (List UInt8) → Int → Int
  | [], left => left
  | r :: rs, left => if left - r.length < 0 then -1 else szL rs (left - r.length)
def szB (R : Bd) (left : Int) : Int := if left - R.length < 0 then -1 else szL R (left - R.length)
theorem szL_neg (l : List (List UInt8)) (left : Int) (h : 0 ≤ left) : szL l left < 0 → szL l left = -1 := by
  induction l generalizing left with
  | nil => simp only [szL]; omega
  | cons r rs ih =>
    simp only [szL]
    split
    · intro _; rfl
    · exact ih _ (by omega)
theorem szL_len (l : List (List UInt8)) (left : Int) (h : ¬ szL l left < 0) (h0 : 0 ≤ left) : ∀ r ∈ l, (r.length : Int) ≤ left := by
  induction l generalizing left with
  | nil => simp
  | cons x xs ih =>
    simp only [szL] at h
    split at h
    · omega
    · intro r hr
      rcases List.mem_cons.1 hr with rfl | hr
      · omega
      · have := ih _ h (by omega) r hr; omega
theorem szStringS_ok (l : List (List UInt8)) (left : Int) (h0 : 0 ≤ left) (h1 : left ≤ 1048576) (hl : ∀ r ∈ l, r.length ≤ 9223372036854775807) : FCr Tryd.prog 13 [RSs l, RVi left] (RVi (szB l left)) := by
  refine fcr_lens fun hL => ?_
  simp only [lnk] at hL
  refine (fcr_in Tryd.func13 rfl (by simp only [Tryd.ntmps13, anys, List.length_cons, List.length_nil, Nat.reduceAdd, Nat.reduceSub, List.replicate_succ, List.replicate_zero, List.cons_append, List.nil_append] <;> rfl) ?_)
  repeat' first | apply w_seq | apply w_block | apply rb_n | apply rb_ret | apply rb_eq | refine rb_ne (by rfl) ?_ | apply w_exit | apply rt_exit | apply w_region | apply l_nil | apply rt_n | apply w_ret | apply rt_ret | apply w_skip | refine w_cond_t rfl ?_ | refine w_cond_f rfl ?_ | ((first | refine w_cnd rfl ?_ ?_ | refine w_cd rfl ?_ ?_ | refine w_cn rfl ?_ ?_ | refine w_cond rfl ?_ ?_) <;> intro hc) | (refine l_o ?_; first | refine l_op (hk := ?_))
  · refine en_one (hf := Tryd.results13) (h := ?_); simp only [lget]; first | refine congrArg RVb ?_ | refine congrArg RVi ?_ | skip
    simp [szB, *]
  have hn := hc; clear hc
  refine w_loopm (ι := Nat × Int) (fun k => [(5, RVi k.1), (1, RVi k.2)]) (fun _ => []) (fun k => k.1 ≤ l.length ∧ 0 ≤ k.2 ∧ k.2 ≤ 1048576 ∧ szL (l.drop k.1) k.2 = szL l (left - l.length)) (fun k => l.length - k.1) (0, left - l.length) (h0 := ?_) (hs := ?_) (round := ?_)
  · simp; omega
  · refine le_eq (by (repeat' first | exact .nil | refine .keep ?_ | refine .any ?_); first | done | fail) rfl rfl
  · intro ⟨k, p⟩ ⟨hk, hp0, hp1, hg⟩
    dsimp only at hk hp0 hp1 hg ⊢
    by_cases hkl : k < l.length
    · have hr := hl _ (List.getElem_mem hkl)
      rw [dc hkl, szL] at hg
      repeat' first | apply w_seq | apply w_block | apply rb_n | apply rb_ret | apply rb_eq | refine rb_ne (by rfl) ?_ | apply w_exit | apply rt_exit | apply w_region | apply l_nil | apply rt_n | apply w_ret | apply rt_ret | apply w_skip | refine w_cond_t rfl ?_ | refine w_cond_f rfl ?_ | ((first | refine w_cnd rfl ?_ ?_ | refine w_cd rfl ?_ ?_ | refine w_cn rfl ?_ ?_ | refine w_cond rfl ?_ ?_) <;> intro hc) | (exfalso; omega) | (refine l_o ?_; first | refine l_op (hk := ?_))
      · refine en_one (hf := Tryd.results13) (h := ?_); simp only [lget]; first | refine congrArg RVb ?_ | refine congrArg RVi ?_ | skip
        rw [if_pos hc] at hg
        rw [szB, if_neg hn, ← hg]
      · rw [if_neg hc] at hg
        refine rn_mk (k + 1, p - l[k].length) ?_ (by first | omega | (dsimp only; omega)) (le_eq (by (repeat' first | exact .nil | refine .keep ?_ | refine .any ?_); first | done | fail) rfl rfl)
        exact ⟨by omega, by omega, by omega, hg⟩
    · repeat' first | apply w_seq | apply w_block | apply rb_n | apply rb_ret | apply rb_eq | refine rb_ne (by rfl) ?_ | apply w_exit | apply rt_exit | apply w_region | apply l_nil | apply rt_n | apply w_ret | apply rt_ret | apply w_skip | refine w_cond_t rfl ?_ | refine w_cond_f rfl ?_ | ((first | refine w_cnd rfl ?_ ?_ | refine w_cd rfl ?_ ?_ | refine w_cn rfl ?_ ?_ | refine w_cond rfl ?_ ?_) <;> intro hc) | (exfalso; omega) | (refine l_o ?_; first | refine l_op (hk := ?_))
      rw [List.drop_of_length_le (by omega), szL] at hg
      refine en_one (hf := Tryd.results13) (h := ?_); simp only [lget]; first | refine congrArg RVb ?_ | refine congrArg RVi ?_ | skip
      rw [szB, if_neg hn, ← hg]
theorem szBoard_ok (l : Bd) (left : Int) (h0 : 0 ≤ left) (h1 : left ≤ 1048576) (hl : ∀ r ∈ l, r.length ≤ 9223372036854775807) : FCr Tryd.prog 4 [RBd l, RVi left] (RVi (szB l left)) := by
  have hS := szStringS_ok l left h0 h1 hl
  have hn : szB l left < 0 → szB l left = -1 := by
    unfold szB
    split
    · intro _; rfl
    · exact szL_neg _ _ (by omega)
  refine (fcr_in Tryd.func4 rfl (by simp only [Tryd.ntmps4, anys, List.length_cons, List.length_nil, Nat.reduceAdd, Nat.reduceSub, List.replicate_succ, List.replicate_zero, List.cons_append, List.nil_append] <;> rfl) ?_)
  repeat' first | apply w_seq | apply w_region | apply l_nil | apply rt_n | apply w_ret | apply rt_ret | apply w_skip | refine w_cond_t rfl ?_ | refine w_cond_f rfl ?_ | ((first | refine w_cnd rfl ?_ ?_ | refine w_cd rfl ?_ ?_ | refine w_cn rfl ?_ ?_ | refine w_cond rfl ?_ ?_) <;> intro hc) | (refine l_o ?_; first | refine l_op rfl (by first | (apply k_callf; first | exact ops_callf (hfc := hS) | fail) | fail) (hk := ?_) | refine l_op (hk := ?_))
  · refine en_one (hf := Tryd.results4) (h := ?_); simp only [lget]; first | refine congrArg RVb ?_ | refine congrArg RVi ?_ | skip
    exact (hn hc).symm
  · refine en_one (hf := Tryd.results4) (h := ?_); simp only [lget]; first | refine congrArg RVb ?_ | refine congrArg RVi ?_ | skip
theorem toStringS_ok (l : List (List UInt8)) (hl : l.length ≤ 1048576) : FCr Tryd.prog 16 [RSs l] (OSs l) := by
  refine (fcr_in Tryd.func16 rfl (by simp only [Tryd.ntmps16, anys, List.length_cons, List.length_nil, Nat.reduceAdd, Nat.reduceSub, List.replicate_succ, List.replicate_zero, List.cons_append, List.nil_append] <;> rfl) ?_)
  repeat' first | apply w_seq | apply w_block | apply rb_n | apply rb_ret | apply rb_eq | refine rb_ne (by rfl) ?_ | apply w_exit | apply rt_exit | apply w_region | apply l_nil | apply rt_n | apply w_ret | apply rt_ret | apply w_skip | refine w_cond_t rfl ?_ | refine w_cond_f rfl ?_ | ((first | refine w_cnd rfl ?_ ?_ | refine w_cd rfl ?_ ?_ | refine w_cn rfl ?_ ?_ | refine w_cond rfl ?_ ?_) <;> intro hc) | (refine l_o ?_; first | refine l_op (hk := ?_))
  refine w_loopm (ι := Nat × List (List UInt8)) (fun q => [(4, RVn q.1)]) (fun q => [(7, 1, q.2.map RV.str)]) (fun q => q.1 ≤ l.length ∧ q.2.length = l.length ∧ q.2.take q.1 = l.take q.1) (fun q => l.length - q.1) (0, List.replicate l.length []) (h0 := ?_) (hs := ?_) (round := ?_)
  · simp
  · refine le_eq (by (repeat' first | exact .nil | refine .keep ?_ | refine .any ?_); first | done | fail) rfl rfl
  · intro ⟨k, m⟩ ⟨hk, hm, hg⟩
    dsimp only at hk hm hg ⊢
    by_cases hkl : k < l.length
    · repeat' first | apply w_seq | apply w_block | apply rb_n | apply rb_ret | apply rb_eq | refine rb_ne (by rfl) ?_ | apply w_exit | apply rt_exit | apply w_region | apply l_nil | apply rt_n | apply w_ret | apply rt_ret | apply w_skip | refine w_cond_t rfl ?_ | refine w_cond_f rfl ?_ | ((first | refine w_cnd rfl ?_ ?_ | refine w_cd rfl ?_ ?_ | refine w_cn rfl ?_ ?_ | refine w_cond rfl ?_ ?_) <;> intro hc) | (exfalso; omega) | (refine l_o ?_; first | refine l_op (hk := ?_))
      refine rn_mk (k + 1, m.set k l[k]) ⟨by dsimp only; omega, by simpa using hm, ?_⟩ (by dsimp only; omega) (le_eq (by (repeat' first | exact .nil | refine .keep ?_ | refine .any ?_); first | done | fail) rfl (by rw [List.map_set]))
      dsimp only
      rw [List.take_succ_eq_append_getElem (by rw [List.length_set]; omega), List.take_set_of_le (Nat.le_refl _), List.getElem_set_self, hg, List.take_succ_eq_append_getElem hkl]
    · obtain rfl : k = l.length := by omega
      rw [List.take_length, List.take_of_length_le (by omega)] at hg
      subst hg
      repeat' first | apply w_seq | apply w_block | apply rb_n | apply rb_ret | apply rb_eq | refine rb_ne (by rfl) ?_ | apply w_exit | apply rt_exit | apply w_region | apply l_nil | apply rt_n | apply w_ret | apply rt_ret | apply w_skip | refine w_cond_t rfl ?_ | refine w_cond_f rfl ?_ | ((first | refine w_cnd rfl ?_ ?_ | refine w_cd rfl ?_ ?_ | refine w_cn rfl ?_ ?_ | refine w_cond rfl ?_ ?_) <;> intro hc) | (exfalso; omega) | (refine l_o ?_; first | refine l_op (hk := ?_))
      refine en_end (hf := Tryd.results16) (hr := ?_); simp only [ne, nf, nl, nr, lget, reduceIte, Nat.reduceEqDiff]; first | rfl | refine congrArg RVb ?_ | refine congrArg RVi ?_ | skip
theorem toBoard_ok (l : Bd) (hl : l.length ≤ 1048576) : FCr Tryd.prog 6 [RBd l] (OBd l) := by
  refine (fcr_in Tryd.func6 rfl (by simp only [Tryd.ntmps6, anys, List.length_cons, List.length_nil, Nat.reduceAdd, Nat.reduceSub, List.replicate_succ, List.replicate_zero, List.cons_append, List.nil_append] <;> rfl) ?_)
  repeat' first | apply w_seq | apply w_region | apply l_nil | apply rt_n | apply w_ret | apply rt_ret | apply w_skip | (refine l_o ?_; first | refine l_op rfl (by first | (apply k_callf; first | exact ops_callv (hfc := toStringS_ok l hl) | fail) | fail) (hk := ?_) | refine l_op (hk := ?_))
  refine en_end (hf := Tryd.results6) (hr := ?_); simp only [ne, nf, nl, nr, lget, reduceIte, Nat.reduceEqDiff]; first | rfl | refine congrArg RVb ?_ | refine congrArg RVi ?_ | skip
theorem eqBoard_ok (a b : Bd) : FCr Tryd.prog 9 [RBd a, RBd b] (RVb (decide (a = b))) := by
  refine (fcr_in Tryd.func9 rfl (by simp only [Tryd.ntmps9, anys, List.length_cons, List.length_nil, Nat.reduceAdd, Nat.reduceSub, List.replicate_succ, List.replicate_zero, List.cons_append, List.nil_append] <;> rfl) ?_)
  repeat' first | apply w_seq | apply w_region | apply l_nil | apply rt_n | apply w_ret | apply rt_ret | apply w_skip | refine w_cond_t rfl ?_ | refine w_cond_f rfl ?_ | ((first | refine w_cnd rfl ?_ ?_ | refine w_cd rfl ?_ ?_ | refine w_cn rfl ?_ ?_ | refine w_cond rfl ?_ ?_) <;> intro hc) | (refine l_o ?_; first | refine l_op rfl (by first | (apply k_callf; first | exact ops_callf (hfc := eqStringS_ok a b) | fail) | fail) (hk := ?_) | refine l_op (hk := ?_))
  all_goals
    refine en_one (hf := Tryd.results9) (h := ?_); simp only [lget]; first | refine congrArg RVb ?_ | refine congrArg RVi ?_ | skip
    simp [*]
theorem eqBoardS_ok (l m : List Bd) : FCr Tryd.prog 8 [.sh (l.map RBd), .sh (m.map RBd)] (RVb (decide (l = m))) := by
  refine fcr_lens fun hL => ?_
  simp only [lnk] at hL
  refine (fcr_in Tryd.func8 rfl (by simp only [Tryd.ntmps8, anys, List.length_cons, List.length_nil, Nat.reduceAdd, Nat.reduceSub, List.replicate_succ, List.replicate_zero, List.cons_append, List.nil_append] <;> rfl) ?_)
  repeat' first | apply w_seq | apply w_block | apply rb_n | apply rb_ret | apply rb_eq | refine rb_ne (by rfl) ?_ | apply w_exit | apply rt_exit | apply w_region | apply l_nil | apply rt_n | apply w_ret | apply rt_ret | apply w_skip | refine w_cond_t rfl ?_ | refine w_cond_f rfl ?_ | ((first | refine w_cnd rfl ?_ ?_ | refine w_cd rfl ?_ ?_ | refine w_cn rfl ?_ ?_ | refine w_cond rfl ?_ ?_) <;> intro hc) | (refine l_o ?_; first | refine l_op (hk := ?_)) | refine d_nil ?_ | (refine d_o ?_; first | refine d_fl (hk := ?_) | refine d_ef (hk := ?_)) | (refine w_o ?_; first | refine w_draw (id := 6) (fun _ => true) (fun k => [8].contains k) [[]] 64 (by kernel_rfl) rfl (by kernel_rfl) (by simp [nm, nset, -List.map_take, -List.map_drop]) ?_)
  · refine en_one (hf := Tryd.results8) (h := ?_); simp only [lget]; first | refine congrArg RVb ?_ | refine congrArg RVi ?_ | skip
    grind
  have hn : l.length = m.length := by omega
  clear hc
  refine w_loopm (ι := Nat) (fun k => [(5, RVi k)]) (fun _ => []) (fun k => k ≤ l.length ∧ ((l.drop k = m.drop k) ↔ l = m)) (fun k => l.length - k) 0 (h0 := ?_) (hs := ?_) (round := ?_)
  · simp
  · refine le_eq (by (repeat' first | exact .nil | refine .keep ?_ | refine .any ?_); first | done | fail) rfl rfl
  · intro k ⟨hk, hg⟩
    by_cases hkl : k < l.length
    · have hE := eqBoard_ok l[k] m[k]
      repeat' first | apply w_seq | apply w_block | apply rb_n | apply rb_ret | apply rb_eq | refine rb_ne (by rfl) ?_ | apply w_exit | apply rt_exit | apply w_region | apply l_nil | apply rt_n | apply w_ret | apply rt_ret | apply w_skip | refine w_cond_t rfl ?_ | refine w_cond_f rfl ?_ | ((first | refine w_cnd rfl ?_ ?_ | refine w_cd rfl ?_ ?_ | refine w_cn rfl ?_ ?_ | refine w_cond rfl ?_ ?_) <;> intro hc) | (exfalso; omega) | (refine l_o ?_; first | refine l_op rfl (by first | (apply k_callf; first | exact ops_callf (hfc := hE) | fail) | fail) (hk := ?_) | refine l_op (hk := ?_)) | refine d_nil ?_ | (refine d_o ?_; first | refine d_fl rfl (by first | exact .pl (by first | (apply q_callf; first | exact fs_callf (hfc := hE) | fail) | fail) | fail) (hk := ?_) | refine d_fl (hk := ?_) | refine d_ef (hk := ?_)) | (refine w_o ?_; first | refine w_draw (id := 6) (fun _ => true) (fun k => [].contains k) [] 64 (by kernel_rfl) rfl (by kernel_rfl) (by simp [nm, nset, -List.map_take, -List.map_drop]) ?_)
      · refine en_one (hf := Tryd.results8) (h := ?_); simp only [lget]; first | refine congrArg RVb ?_ | refine congrArg RVi ?_ | skip
        grind [drop_both]
      · refine rn_mk (k + 1) ?_ (by first | omega | (dsimp only; omega)) (le_eq (by (repeat' first | exact .nil | refine .keep ?_ | refine .any ?_); first | done | fail) rfl rfl)
        grind [drop_both]
    · obtain rfl : k = l.length := by omega
      repeat' first | apply w_seq | apply w_block | apply rb_n | apply rb_ret | apply rb_eq | refine rb_ne (by rfl) ?_ | apply w_exit | apply rt_exit | apply w_region | apply l_nil | apply rt_n | apply w_ret | apply rt_ret | apply w_skip | refine w_cond_t rfl ?_ | refine w_cond_f rfl ?_ | ((first | refine w_cnd rfl ?_ ?_ | refine w_cd rfl ?_ ?_ | refine w_cn rfl ?_ ?_ | refine w_cond rfl ?_ ?_) <;> intro hc) | (exfalso; omega) | (refine l_o ?_; first | refine l_op (hk := ?_)) | refine d_nil ?_ | (refine d_o ?_; first | refine d_fl (hk := ?_) | refine d_ef (hk := ?_)) | (refine w_o ?_; first | refine w_draw (id := 6) (fun _ => true) (fun k => [8].contains k) [[]] 64 (by kernel_rfl) rfl (by kernel_rfl) (by simp [nm, nset, -List.map_take, -List.map_drop]) ?_)
      refine en_one (hf := Tryd.results8) (h := ?_); simp only [lget]; first | refine congrArg RVb ?_ | refine congrArg RVi ?_ | skip
      grind [dn]
theorem markBoard_ok (l : Bd) (k : Nat) (h : k + l.length ≤ 1099511627776) : FC Tryd.prog 10 [.agg [.ref 1000000000000 0 l.length], RVi k] [(1000000000000, 1, l.map RV.str)]
    (fun rv O => rv = RVi ((k + l.length : Nat) : Int) ∧ O = [(1000000000000, 1, (fromT k l.length).map RV.str)]) := by
  refine (fc_in Tryd.func10 rfl (by simp only [Tryd.ntmps10, anys, List.length_cons, List.length_nil, Nat.reduceAdd, Nat.reduceSub, List.replicate_succ, List.replicate_zero, List.cons_append, List.nil_append] <;> rfl) ?_)
  repeat' first | apply w_seq | apply w_region | apply l_nil | apply rt_n | apply w_ret | apply rt_ret | apply w_skip | (refine l_o ?_; first | refine l_op rfl (by first | (apply k_callf; first | exact ops_callm1 1000000000000 ((fromT k l.length).map RV.str) rfl rfl rfl (by kernel_rfl) (markStringS_ok l k h) (by simp [nm]) (by simp [nm]) (by simp [ns]) (by simp [RV.resOkT, RV.resOk, RV.isAgg, nm]) (by simp [ns]) (by simp [nz, nm]) (by simp [nz, nm]) | fail) | fail) (hk := ?_) | refine l_op (hk := ?_))
  refine en_endm ([(2, 1, [.agg [.ref 1000000000000 0 l.length]])]) (hf := Tryd.results10) (hO := ?_) (hr := ?_)
  · rfl
  · rfl
def mkB (k : Nat) : List Bd → Nat → List Bd
  | [], _ => []
  | r :: rs, 0 => r :: rs
  | r :: rs, i + 1 => fromT k r.length :: mkB (k + r.length) rs i
def lnB : List Bd → Nat → Nat
  | [], _ => 0
  | _ :: _, 0 => 0
  | r :: rs, i + 1 => r.length + lnB rs i
theorem mkB_length (k : Nat) (L : List Bd) (i : Nat) : (mkB k L i).length = L.length := by
  induction L generalizing k i with
  | nil => cases i <;> rfl
  | cons r rs ih => cases i <;> simp [mkB, ih]
theorem mkB_zero (k : Nat) (L : List Bd) : mkB k L 0 = L := by cases L <;> rfl
theorem lnB_zero (L : List Bd) : lnB L 0 = 0 := by cases L <;> rfl
theorem mkB_at {k : Nat} {L : List Bd} {i : Nat} (h : i < L.length) : (mkB k L i)[i]? = some L[i] := by
  induction L generalizing k i with
  | nil => simp at h
  | cons r rs ih =>
    cases i with
    | zero => rfl
    | succ i => simp [mkB]; simpa using ih (k := k + r.length) (i := i) (by simpa using h)
theorem mkB_set {k : Nat} {L : List Bd} {i : Nat} (h : i < L.length) : (mkB k L i).set i (fromT (k + lnB L i) L[i].length) = mkB k L (i + 1) := by
  induction L generalizing k i with
  | nil => simp at h
  | cons r rs ih =>
    cases i with
    | zero => simp [mkB, lnB, mkB_zero]
    | succ i =>
      simp only [mkB, List.set_cons_succ, lnB, List.getElem_cons_succ]
      rw [← ih (k := k + r.length) (i := i) (by simpa using h), Nat.add_assoc]
theorem lnB_succ {L : List Bd} {i : Nat} (h : i < L.length) : lnB L (i + 1) = lnB L i + L[i].length := by
  induction L generalizing i with
  | nil => simp at h
  | cons r rs ih =>
    cases i with
    | zero => simp [lnB, lnB_zero]
    | succ i => simp only [lnB, List.getElem_cons_succ]; have := ih (i := i) (by simpa using h); omega
theorem lnB_le {L : List Bd} {i : Nat} (h : i ≤ L.length) : lnB L i ≤ lnB L L.length := by
  induction L generalizing i with
  | nil => simp [lnB]
  | cons r rs ih =>
    cases i with
    | zero => simp [lnB]
    | succ i => simp only [lnB, List.length_cons]; have := ih (i := i) (by simpa using h); omega
theorem lnB_le_mul (L : List Bd) (n : Nat) (h : ∀ r ∈ L, r.length ≤ n) : lnB L L.length ≤ L.length * n := by
  induction L with
  | nil => simp [lnB]
  | cons r rs ih =>
    simp only [lnB, List.length_cons, Nat.succ_mul]
    have := ih fun q hq => h q (by simp [hq])
    have := h r (by simp)
    omega
theorem markBoardS_ok (L : List Bd) (k : Nat) (hL : L.length ≤ 1099511627776) (h : k + lnB L L.length ≤ 1099511627776) : FC Tryd.prog 11 [.ref 1000000000000 0 L.length, RVi k] [(1000000000000, 1, L.map OBd)]
    (fun rv O => rv = RVi ((k + lnB L L.length : Nat) : Int) ∧ O = [(1000000000000, 1, (mkB k L L.length).map OBd)]) := by
  refine (fc_in Tryd.func11 rfl (by simp only [Tryd.ntmps11, anys, List.length_cons, List.length_nil, Nat.reduceAdd, Nat.reduceSub, List.replicate_succ, List.replicate_zero, List.cons_append, List.nil_append] <;> rfl) ?_)
  repeat' first | apply w_seq | apply w_block | apply rb_n | apply rb_ret | apply rb_eq | refine rb_ne (by rfl) ?_ | apply w_exit | apply rt_exit | apply w_region | apply l_nil | apply rt_n | apply w_ret | apply rt_ret | apply w_skip | refine w_cond_t rfl ?_ | refine w_cond_f rfl ?_ | ((first | refine w_cnd rfl ?_ ?_ | refine w_cd rfl ?_ ?_ | refine w_cn rfl ?_ ?_ | refine w_cond rfl ?_ ?_) <;> intro hc) | (refine l_o ?_; first | refine l_op (hk := ?_))
  refine w_loopm (ι := Nat) (fun i => [(5, RVi i), (1, RVi ((k + lnB L i : Nat) : Int))]) (fun i => [(1000000000000, 1, (mkB k L i).map OBd)]) (fun i => i ≤ L.length) (fun i => L.length - i) 0 (h0 := ?_) (hs := ?_) (round := ?_)
  · omega
  · rw [lnB_zero]
    refine le_eq ?_ rfl ?_
    · (repeat' first | exact .nil | refine .keep ?_ | refine .any ?_); first | done | fail
    · rw [mkB_zero]
  · intro i hi
    have hml := mkB_length k L i
    have hb := lnB_le hi
    by_cases hil : i < L.length
    · have hb2 := lnB_le (L := L) (i := i + 1) (by omega)
      rw [lnB_succ hil] at hb2
      repeat' first | apply w_seq | apply w_block | apply rb_n | apply rb_ret | apply rb_eq | refine rb_ne (by rfl) ?_ | apply w_exit | apply rt_exit | apply w_region | apply l_nil | apply rt_n | apply w_ret | apply rt_ret | apply w_skip | refine w_cond_t rfl ?_ | refine w_cond_f rfl ?_ | ((first | refine w_cnd rfl ?_ ?_ | refine w_cd rfl ?_ ?_ | refine w_cn rfl ?_ ?_ | refine w_cond rfl ?_ ?_) <;> intro hc) | (exfalso; omega) | (refine l_o ?_; first | refine l_op rfl (by first | (apply k_load; first | exact ops_load_own rfl rfl (by rw [List.getElem?_map, mkB_at (by omega)]; rfl) rfl (by decide +kernel) (by simp [nm]) (by simp [nm]) | fail) | (apply k_callf; first | exact ops_callm1 16 ((fromT (k + lnB L i) L[i].length).map RV.str) rfl rfl rfl (by kernel_rfl) (markStringS_ok L[i] (k + lnB L i) (by omega)) (by simp [nm]) (by simp [nm]) (by simp [ns]) (by simp [RV.resOkT, RV.resOk, RV.isAgg, nm]) (by simp [ns]) (by simp [nz, nm]) (by simp [nz, nm]) | fail) | fail) (hk := ?_) | refine l_op (hk := ?_))
      refine rn_mk (i + 1) ?_ ?_ ?_
      · first | omega | (dsimp only; omega)
      · first | omega | (dsimp only; omega)
      · rw [lnB_succ (by omega), ← Nat.add_assoc]
        refine le_trans (le_seal 1000000000000 i 0 16 rfl (List.getElem?_set_self (by rw [List.length_map]; omega)) rfl rfl (by simp [fromT_length]) (namesL_map0 _ _ fun _ => rfl) (by decide) rfl rfl) (le_eq ?_ rfl ?_)
        · (repeat' first | exact .nil | refine .keep ?_ | refine .any ?_); first | done | fail
        · simp only [oset, oerase, reduceIte, Nat.reduceEqDiff, RV.setCell, List.set_cons_zero]
          rw [List.set_set, ← mkB_set (by omega), List.map_set]
    · obtain rfl : i = L.length := by omega
      repeat' first | apply w_seq | apply w_block | apply rb_n | apply rb_ret | apply rb_eq | refine rb_ne (by rfl) ?_ | apply w_exit | apply rt_exit | apply w_region | apply l_nil | apply rt_n | apply w_ret | apply rt_ret | apply w_skip | refine w_cond_t rfl ?_ | refine w_cond_f rfl ?_ | ((first | refine w_cnd rfl ?_ ?_ | refine w_cd rfl ?_ ?_ | refine w_cn rfl ?_ ?_ | refine w_cond rfl ?_ ?_) <;> intro hc) | (exfalso; omega) | (refine l_o ?_; first | refine l_op (hk := ?_))
      refine en_endm [] (hf := Tryd.results11) (hO := ?_) (hr := ?_)
      · rfl
      · rfl
def heldB (k : Nat) : List Bd → Bool
  | [] => true
  | r :: rs => if heldT k r = false then false else heldB (k + r.length) rs
theorem heldBoardS_ok (L : List Bd) (k : Nat) (hL : L.length ≤ 1099511627776) (h : k + lnB L L.length ≤ 1099511627776) : FCr Tryd.prog 12 [.sh (L.map RBd), RVi k] (RVi (if heldB k L then ((k + lnB L L.length : Nat) : Int) else -1)) := by
  refine (fcr_in Tryd.func12 rfl (by simp only [Tryd.ntmps12, anys, List.length_cons, List.length_nil, Nat.reduceAdd, Nat.reduceSub, List.replicate_succ, List.replicate_zero, List.cons_append, List.nil_append] <;> rfl) ?_)
  repeat' first | apply w_seq | apply w_block | apply rb_n | apply rb_ret | apply rb_eq | refine rb_ne (by rfl) ?_ | apply w_exit | apply rt_exit | apply w_region | apply l_nil | apply rt_n | apply w_ret | apply rt_ret | apply w_skip | refine w_cond_t rfl ?_ | refine w_cond_f rfl ?_ | ((first | refine w_cnd rfl ?_ ?_ | refine w_cd rfl ?_ ?_ | refine w_cn rfl ?_ ?_ | refine w_cond rfl ?_ ?_) <;> intro hc) | (refine l_o ?_; first | refine l_op (hk := ?_))
  refine w_loopm (ι := Nat) (fun i => [(5, RVi i), (1, RVi ((k + lnB L i : Nat) : Int))]) (fun _ => []) (fun i => i ≤ L.length ∧ heldB (k + lnB L i) (L.drop i) = heldB k L) (fun i => L.length - i) 0 (h0 := ?_) (hs := ?_) (round := ?_)
  · simp [lnB_zero]
  · rw [lnB_zero]
    refine le_eq (by (repeat' first | exact .nil | refine .keep ?_ | refine .any ?_); first | done | fail) rfl rfl
  · intro i ⟨hi, hg⟩
    have hb := lnB_le hi
    by_cases hil : i < L.length
    · have hb2 := lnB_le (L := L) (i := i + 1) (by omega)
      have hs := lnB_succ hil
      rw [hs] at hb2
      have hT := heldStringS_ok L[i] (k + lnB L i) (by omega)
      rw [dc (by omega), heldB] at hg
      cases hh : heldT (k + lnB L i) L[i] with
      | false =>
        rw [hh, if_neg Bool.false_ne_true] at hT
        rw [hh, if_pos rfl] at hg
        repeat' first | apply w_seq | apply w_block | apply rb_n | apply rb_ret | apply rb_eq | refine rb_ne (by rfl) ?_ | apply w_exit | apply rt_exit | apply w_region | apply l_nil | apply rt_n | apply w_ret | apply rt_ret | apply w_skip | refine w_cond_t rfl ?_ | refine w_cond_f rfl ?_ | ((first | refine w_cnd rfl ?_ ?_ | refine w_cd rfl ?_ ?_ | refine w_cn rfl ?_ ?_ | refine w_cond rfl ?_ ?_) <;> intro hc) | (exfalso; omega) | (refine l_o ?_; first | refine l_op rfl (by first | (apply k_callf; first | exact ops_callf (hfc := hT) | fail) | fail) (hk := ?_) | refine l_op (hk := ?_))
        refine en_one (hf := Tryd.results12) (h := ?_); simp only [lget]; first | refine congrArg RVb ?_ | refine congrArg RVi ?_ | skip
        rw [← hg]; rfl
      | true =>
        rw [hh, if_pos rfl] at hT
        rw [hh, if_neg (by simp)] at hg
        repeat' first | apply w_seq | apply w_block | apply rb_n | apply rb_ret | apply rb_eq | refine rb_ne (by rfl) ?_ | apply w_exit | apply rt_exit | apply w_region | apply l_nil | apply rt_n | apply w_ret | apply rt_ret | apply w_skip | refine w_cond_t rfl ?_ | refine w_cond_f rfl ?_ | ((first | refine w_cnd rfl ?_ ?_ | refine w_cd rfl ?_ ?_ | refine w_cn rfl ?_ ?_ | refine w_cond rfl ?_ ?_) <;> intro hc) | (exfalso; omega) | (refine l_o ?_; first | refine l_op rfl (by first | (apply k_callf; first | exact ops_callf (hfc := hT) | fail) | fail) (hk := ?_) | refine l_op (hk := ?_))
        refine rn_mk (i + 1) ?_ ?_ ?_
        · exact ⟨by first | omega | (dsimp only; omega), by rw [hs, ← Nat.add_assoc]; exact hg⟩
        · first | omega | (dsimp only; omega)
        · rw [hs, ← Nat.add_assoc]
          refine le_eq (by (repeat' first | exact .nil | refine .keep ?_ | refine .any ?_); first | done | fail) rfl rfl
    · obtain rfl : i = L.length := by omega
      rw [show L.drop L.length = [] from List.drop_of_length_le (by omega)] at hg
      repeat' first | apply w_seq | apply w_block | apply rb_n | apply rb_ret | apply rb_eq | refine rb_ne (by rfl) ?_ | apply w_exit | apply rt_exit | apply w_region | apply l_nil | apply rt_n | apply w_ret | apply rt_ret | apply w_skip | refine w_cond_t rfl ?_ | refine w_cond_f rfl ?_ | ((first | refine w_cnd rfl ?_ ?_ | refine w_cd rfl ?_ ?_ | refine w_cn rfl ?_ ?_ | refine w_cond rfl ?_ ?_) <;> intro hc) | (exfalso; omega) | (refine l_o ?_; first | refine l_op (hk := ?_))
      refine en_one (hf := Tryd.results12) (h := ?_); simp only [lget]; first | refine congrArg RVb ?_ | refine congrArg RVi ?_ | skip
      rw [← hg]; rfl
theorem mkB_all (k : Nat) (L : List Bd) : lnB (mkB k L L.length) (mkB k L L.length).length = lnB L L.length ∧ heldB k (mkB k L L.length) = true := by
  induction L generalizing k with
  | nil => exact ⟨rfl, rfl⟩
  | cons r rs ih =>
    have h := ih (k + r.length)
    simp only [List.length_cons, mkB, lnB, fromT_length, heldB, heldT_fromT]
    exact ⟨by omega, by simpa using h.2⟩
end Go.Proofs.YtijjcakbhnolhaaDoor
