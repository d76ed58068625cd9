/- Forms (lists of nodes of two lists of ints) measured, copied, compared, as the drawn laws do it. For all forms. -/
import Derived.Test.YtdignmbeiohhiaaFormG
import Derived.Test.YtdignmbeiohhiaaLoops
namespace Go.Proofs.Ytdignmbeiohhiaa
open Eng
attribute [local irreducible] OpS OpG FC FCr Rel Fl Ef DR Fs
set_option linter.unusedSimpArgs false
set_option maxHeartbeats 0
set_option maxRecDepth 100000

def szNd (r : NdI) (left : Int) : Int := if left - r.1.length < 0 then -1 else if left - r.1.length - r.2.length < 0 then -1 else left - r.1.length - r.2.length
theorem szNode_ok (r : NdI) (left : Int) (h0 : 0 ≤ left) (h1 : left ≤ 1048576) : FCr Try.prog 127 [RNdI r, RVi left] (RVi (szNd r left)) := by
  by_cases hr : left - r.1.length < 0
  · have a1 := szIntS_ok r.1 left h0 h1
    rw [if_pos hr] at a1
    refine (fcr_in Try.func127 rfl (by simp only [Try.ntmps127, anys, List.length_cons, List.length_nil, Nat.reduceAdd, Nat.reduceSub, List.replicate_succ, List.replicate_zero, List.cons_append, List.nil_append] <;> rfl) ?_)
    repeat' first
      | refine w_seq ?_
      | refine w_region ?_
      | refine l_nil ?_
      | refine rt_n ?_
      | refine w_ret ?_
      | refine rt_ret ?_
      | refine w_skip ?_
      | refine w_cond_t rfl ?_
      | refine w_cond_f rfl ?_
      | refine w_cnd rfl (fun hc => ?_) (fun hc => ?_)
      | refine w_cd rfl (fun hc => ?_) (fun hc => ?_)
      | refine w_cn rfl (fun hc => ?_) (fun hc => ?_)
      | refine w_cond rfl (fun hc => ?_) (fun hc => ?_)
      | (refine l_o ?_; first | refine l_op rfl (by first | (apply k_callf; first | exact ops_callf (hfc := a1) | fail) | fail) (hk := ?_) | refine l_op (hk := ?_))
    all_goals
      refine en_one (hf := Try.results127) (h := ?_); simp only [lget]; first | refine congrArg RVb ?_ | refine congrArg RVi ?_ | skip
      simp [szNd, *]
  · have a1 := szIntS_ok r.1 left h0 h1
    rw [if_neg hr] at a1
    have a2 := szIntS_ok r.2 (left - r.1.length) (by omega) (by omega)
    refine (fcr_in Try.func127 rfl (by simp only [Try.ntmps127, anys, List.length_cons, List.length_nil, Nat.reduceAdd, Nat.reduceSub, List.replicate_succ, List.replicate_zero, List.cons_append, List.nil_append] <;> rfl) ?_)
    by_cases hr2 : left - r.1.length - r.2.length < 0
    · rw [if_pos hr2] at a2
      repeat' first
        | refine w_seq ?_
        | refine w_region ?_
        | refine l_nil ?_
        | refine rt_n ?_
        | refine w_ret ?_
        | refine rt_ret ?_
        | refine w_skip ?_
        | refine w_cond_t rfl ?_
        | refine w_cond_f rfl ?_
        | refine w_cnd rfl (fun hc => ?_) (fun hc => ?_)
        | refine w_cd rfl (fun hc => ?_) (fun hc => ?_)
        | refine w_cn rfl (fun hc => ?_) (fun hc => ?_)
        | refine w_cond rfl (fun hc => ?_) (fun hc => ?_)
        | (refine l_o ?_; first | refine l_op rfl (by first | (apply k_callf; first | exact ops_callf (hfc := a1) | exact ops_callf (hfc := a2) | fail) | fail) (hk := ?_) | refine l_op (hk := ?_))
      all_goals
        refine en_one (hf := Try.results127) (h := ?_); simp only [lget]; first | refine congrArg RVb ?_ | refine congrArg RVi ?_ | skip
        simp [szNd, *]
    · rw [if_neg hr2] at a2
      repeat' first
        | refine w_seq ?_
        | refine w_region ?_
        | refine l_nil ?_
        | refine rt_n ?_
        | refine w_ret ?_
        | refine rt_ret ?_
        | refine w_skip ?_
        | refine w_cond_t rfl ?_
        | refine w_cond_f rfl ?_
        | refine w_cnd rfl (fun hc => ?_) (fun hc => ?_)
        | refine w_cd rfl (fun hc => ?_) (fun hc => ?_)
        | refine w_cn rfl (fun hc => ?_) (fun hc => ?_)
        | refine w_cond rfl (fun hc => ?_) (fun hc => ?_)
        | (exfalso; omega)
        | (refine l_o ?_; first | refine l_op rfl (by first | (apply k_callf; first | exact ops_callf (hfc := a1) | exact ops_callf (hfc := a2) | fail) | fail) (hk := ?_) | refine l_op (hk := ?_))
      all_goals
        refine en_one (hf := Try.results127) (h := ?_); simp only [lget]; first | refine congrArg RVb ?_ | refine congrArg RVi ?_ | skip
        simp [szNd, *]
def szNds : List NdI → Int → Int
  | [], left => left
  | r :: rs, left => if szNd r left < 0 then -1 else szNds rs (szNd r left)
def szFm (l : List NdI) (left : Int) : Int := if left - l.length < 0 then -1 else szNds l (left - l.length)
theorem szNd_le (r : NdI) (left : Int) : szNd r left ≤ left ∨ szNd r left = -1 := by
  unfold szNd
  split
  · right; rfl
  · split
    · right; rfl
    · left; omega
theorem szNodeS_ok (l : List NdI) (left : Int) (h0 : 0 ≤ left) (h1 : left ≤ 1048576) : FCr Try.prog 86 [.sh (l.map RNdI), RVi left] (RVi (szFm l left)) := by
  refine fcr_lens fun hL => ?_
  simp only [lnk] at hL
  refine (fcr_in Try.func86 rfl (by simp only [Try.ntmps86, anys, List.length_cons, List.length_nil, Nat.reduceAdd, Nat.reduceSub, List.replicate_succ, List.replicate_zero, List.cons_append, List.nil_append] <;> rfl) ?_)
  repeat' first
    | refine w_seq ?_
    | refine w_block ?_
    | refine rb_n ?_
    | refine rb_ret ?_
    | refine rb_eq ?_
    | refine rb_ne (by rfl) ?_
    | refine w_exit ?_
    | refine rt_exit ?_
    | refine w_region ?_
    | refine l_nil ?_
    | refine rt_n ?_
    | refine w_ret ?_
    | refine rt_ret ?_
    | refine w_skip ?_
    | refine w_cond_t rfl ?_
    | refine w_cond_f rfl ?_
    | refine w_cnd rfl (fun hc => ?_) (fun hc => ?_)
    | refine w_cd rfl (fun hc => ?_) (fun hc => ?_)
    | refine w_cn rfl (fun hc => ?_) (fun hc => ?_)
    | refine w_cond rfl (fun hc => ?_) (fun hc => ?_)
    | (refine l_o ?_; first | refine l_op (hk := ?_))
  · refine en_one (hf := Try.results86) (h := ?_); simp only [lget]; first | refine congrArg RVb ?_ | refine congrArg RVi ?_ | skip
    simp [szFm, *]
  have hn := hc; clear hc
  refine w_loopm (ι := Nat × Int) (fun k => [(5, RVi k.1), (1, RVi k.2)]) (fun _ => []) (fun k => k.1 ≤ l.length ∧ 0 ≤ k.2 ∧ k.2 ≤ 1048576 ∧ szNds (l.drop k.1) k.2 = szNds l (left - l.length)) (fun k => l.length - k.1) (0, left - l.length) (h0 := ?_) (hs := ?_) (round := ?_)
  · simp; omega
  · refine le_eq (by (repeat' first | exact .nil | refine .keep ?_ | refine .any ?_); first | done | fail) rfl rfl
  · intro ⟨k, p⟩ ⟨hk, hp0, hp1, hg⟩
    dsimp only at hk hp0 hp1 hg ⊢
    by_cases hkl : k < l.length
    · have hr := szNode_ok l[k] p hp0 hp1
      have hle := szNd_le l[k] p
      rw [dc hkl, szNds] at hg
      repeat' first
        | refine w_seq ?_
        | refine w_block ?_
        | refine rb_n ?_
        | refine rb_ret ?_
        | refine rb_eq ?_
        | refine rb_ne (by rfl) ?_
        | refine w_exit ?_
        | refine rt_exit ?_
        | refine w_region ?_
        | refine l_nil ?_
        | refine rt_n ?_
        | refine w_ret ?_
        | refine rt_ret ?_
        | refine w_skip ?_
        | refine w_cond_t rfl ?_
        | refine w_cond_f rfl ?_
        | refine w_cnd rfl (fun hc => ?_) (fun hc => ?_)
        | refine w_cd rfl (fun hc => ?_) (fun hc => ?_)
        | refine w_cn rfl (fun hc => ?_) (fun hc => ?_)
        | refine w_cond rfl (fun hc => ?_) (fun hc => ?_)
        | (exfalso; omega)
        | (refine l_o ?_; first | refine l_op rfl (by first | (apply k_callf; first | exact ops_callf (hfc := hr) | fail) | fail) (hk := ?_) | refine l_op (hk := ?_))
      · refine en_one (hf := Try.results86) (h := ?_); simp only [lget]; first | refine congrArg RVb ?_ | refine congrArg RVi ?_ | skip
        rw [if_pos hc] at hg
        rw [szFm, if_neg hn, ← hg]
      · rw [if_neg hc] at hg
        refine rn_mk (k + 1, szNd l[k] p) ?_ (by first | omega | (dsimp only; omega)) (le_eq (by (repeat' first | exact .nil | refine .keep ?_ | refine .any ?_); first | done | fail) rfl rfl)
        exact ⟨by omega, by omega, by omega, hg⟩
    · repeat' first
        | refine w_seq ?_
        | refine w_block ?_
        | refine rb_n ?_
        | refine rb_ret ?_
        | refine rb_eq ?_
        | refine rb_ne (by rfl) ?_
        | refine w_exit ?_
        | refine rt_exit ?_
        | refine w_region ?_
        | refine l_nil ?_
        | refine rt_n ?_
        | refine w_ret ?_
        | refine rt_ret ?_
        | refine w_skip ?_
        | refine w_cond_t rfl ?_
        | refine w_cond_f rfl ?_
        | refine w_cnd rfl (fun hc => ?_) (fun hc => ?_)
        | refine w_cd rfl (fun hc => ?_) (fun hc => ?_)
        | refine w_cn rfl (fun hc => ?_) (fun hc => ?_)
        | refine w_cond rfl (fun hc => ?_) (fun hc => ?_)
        | (exfalso; omega)
        | (refine l_o ?_; first | refine l_op (hk := ?_))
      rw [List.drop_of_length_le (by omega), szNds] at hg
      refine en_one (hf := Try.results86) (h := ?_); simp only [lget]; first | refine congrArg RVb ?_ | refine congrArg RVi ?_ | skip
      rw [szFm, if_neg hn, ← hg]
theorem szNds_le (l : List NdI) (left : Int) : szNds l left ≤ left ∨ szNds l left = -1 := by
  induction l generalizing left with
  | nil => left; simp [szNds]
  | cons r rs ih =>
    simp only [szNds]
    split
    · right; rfl
    · rcases ih (szNd r left) with h | h
      · have := szNd_le r left; left; omega
      · right; exact h
theorem szNds_lens (l : List NdI) (left : Int) (h : 0 ≤ szNds l left) : ∀ r ∈ l, (r.1.length : Int) ≤ left ∧ (r.2.length : Int) ≤ left := by
  induction l generalizing left with
  | nil => simp
  | cons r rs ih =>
    simp only [szNds] at h
    split at h
    · omega
    · rename_i hn
      intro q hq
      have : szNd r left = left - r.1.length - r.2.length ∨ szNd r left = -1 := by
        unfold szNd; split
        · right; rfl
        · split
          · right; rfl
          · left; rfl
      rcases List.mem_cons.1 hq with rfl | hq
      · omega
      · have := ih _ h q hq
        omega
theorem szFm_lens {l : List NdI} {left : Int} (h : 0 ≤ szFm l left) : (l.length : Int) ≤ left ∧ ∀ r ∈ l, (r.1.length : Int) ≤ left ∧ (r.2.length : Int) ≤ left := by
  unfold szFm at h
  split at h
  · omega
  · refine ⟨by omega, fun r hr => ?_⟩
    have := szNds_lens _ _ h r hr
    omega
theorem szFm_le (l : List NdI) (left : Int) : szFm l left ≤ left ∨ szFm l left = -1 := by
  unfold szFm
  split
  · right; rfl
  · rcases szNds_le l (left - l.length) with h | h
    · left; omega
    · right; exact h
theorem szFm_neg (l : List NdI) {left : Int} (h : szFm l left < 0) : szFm l left = -1 := by
  have key : ∀ (l : List NdI) (left : Int), 0 ≤ left → szNds l left < 0 → szNds l left = -1 := by
    intro l
    induction l with
    | nil => intro left h0 h; simp only [szNds] at h; omega
    | cons r rs ih =>
      intro left h0 h
      simp only [szNds] at h ⊢
      split
      · rfl
      · rename_i hn
        rw [if_neg hn] at h
        exact ih _ (by omega) h
  unfold szFm at h ⊢
  split
  · rfl
  · rename_i hn
    rw [if_neg hn] at h
    exact key l _ (by omega) h
theorem nw_rep {a b : RV} (h : Nw [a] [b]) (n : Nat) : Nw (List.replicate n a) (List.replicate n b) := by
  induction n with
  | zero => exact .nil
  | succ n ih =>
    rw [List.replicate_succ, List.replicate_succ]
    cases h with
    | keep _ => exact .keep ih
    | now hk _ => exact .now hk ih
    | sh _ => exact .sh ih
    | agg h1 _ => exact .agg h1 ih
theorem szForm_ok (l : List NdI) (left : Int) (h0 : 0 ≤ left) (h1 : left ≤ 1048576) : FCr Try.prog 43 [RFm l, RVi left] (RVi (szFm l left)) := by
  have hz := szNodeS_ok l left h0 h1
  have hle := szFm_le l left
  refine (fcr_in Try.func43 rfl (by simp only [Try.ntmps43, anys, List.length_cons, List.length_nil, Nat.reduceAdd, Nat.reduceSub, List.replicate_succ, List.replicate_zero, List.cons_append, List.nil_append] <;> rfl) ?_)
  repeat' first
    | refine w_seq ?_
    | refine w_region ?_
    | refine l_nil ?_
    | refine rt_n ?_
    | refine w_ret ?_
    | refine rt_ret ?_
    | refine w_skip ?_
    | refine w_cond_t rfl ?_
    | refine w_cond_f rfl ?_
    | refine w_cnd rfl (fun hc => ?_) (fun hc => ?_)
    | refine w_cd rfl (fun hc => ?_) (fun hc => ?_)
    | refine w_cn rfl (fun hc => ?_) (fun hc => ?_)
    | refine w_cond rfl (fun hc => ?_) (fun hc => ?_)
    | (refine l_o ?_; first | refine l_op rfl (by first | (apply k_callf; first | exact ops_callf (hfc := hz) | fail) | fail) (hk := ?_) | refine l_op (hk := ?_))
  · refine en_one (hf := Try.results43) (h := ?_); simp only [lget]; first | refine congrArg RVb ?_ | refine congrArg RVi ?_ | skip
    rw [szFm_neg l hc]
  · refine en_one (hf := Try.results43) (h := ?_); simp only [lget]; first | refine congrArg RVb ?_ | refine congrArg RVi ?_ | skip
abbrev OFm (F : List NdI) : RV := .agg [.ow 2 (F.map ONdI)]
/-- Forms of the lengths that the laws take. -/
def smFm (F : List NdI) : Prop := F.length ≤ 1048576 ∧ ∀ r ∈ F, r.1.length ≤ 1048576 ∧ r.2.length ≤ 1048576
theorem smFm_of {l : List NdI} {left : Int} (hl : left ≤ 1048576) (h : 0 ≤ szFm l left) : smFm l := by
  have := szFm_lens h
  exact ⟨by omega, fun r hr => ⟨by have := this.2 r hr; omega, by have := this.2 r hr; omega⟩⟩
theorem toNode_ok (r : NdI) (h1 : r.1.length ≤ 1048576) (h2 : r.2.length ≤ 1048576) : FCr Try.prog 132 [RNdI r] (ONdI r) := by
  refine (fcr_in Try.func132 rfl (by simp only [Try.ntmps132, anys, List.length_cons, List.length_nil, Nat.reduceAdd, Nat.reduceSub, List.replicate_succ, List.replicate_zero, List.cons_append, List.nil_append] <;> rfl) ?_)
  repeat' first
    | refine w_seq ?_
    | refine w_region ?_
    | refine l_nil ?_
    | refine rt_n ?_
    | refine w_ret ?_
    | refine rt_ret ?_
    | refine w_skip ?_
    | (refine l_o ?_; first | refine l_op rfl (by first | (apply k_callf; first | exact ops_callv (hfc := toIntS_ok r.1 h1) | exact ops_callv (hfc := toIntS_ok r.2 h2) | fail) | fail) (hk := ?_) | refine l_op (hk := ?_))
  refine en_end (hf := Try.results132) (hr := ?_); simp only [ne, nf, nl, nr, lget, reduceIte, Nat.reduceEqDiff]; first | rfl | refine congrArg RVb ?_ | refine congrArg RVi ?_ | skip
theorem toNodeS_ok (l : List NdI) (hl : smFm l) : FCr Try.prog 88 [.sh (l.map RNdI)] (.ow 2 (l.map ONdI)) := by
  obtain ⟨h0, h1⟩ := hl
  refine (fcr_in Try.func88 rfl (by simp only [Try.ntmps88, anys, List.length_cons, List.length_nil, Nat.reduceAdd, Nat.reduceSub, List.replicate_succ, List.replicate_zero, List.cons_append, List.nil_append] <;> rfl) ?_)
  repeat' first
    | refine w_seq ?_
    | refine w_block ?_
    | refine rb_n ?_
    | refine rb_ret ?_
    | refine rb_eq ?_
    | refine rb_ne (by rfl) ?_
    | refine w_exit ?_
    | refine rt_exit ?_
    | refine w_region ?_
    | refine l_nil ?_
    | refine rt_n ?_
    | refine w_ret ?_
    | refine rt_ret ?_
    | refine w_skip ?_
    | refine w_cond_t rfl ?_
    | refine w_cond_f rfl ?_
    | refine w_cnd rfl (fun hc => ?_) (fun hc => ?_)
    | refine w_cd rfl (fun hc => ?_) (fun hc => ?_)
    | refine w_cn rfl (fun hc => ?_) (fun hc => ?_)
    | refine w_cond rfl (fun hc => ?_) (fun hc => ?_)
    | (refine l_o ?_; first | refine l_op (hk := ?_))
  refine w_loopm (ι := Nat × List NdI) (fun k => [(4, RVi k.1), (3, .ref 7 0 l.length), (7, .ref 7 0 l.length)]) (fun k => [(7, 2, k.2.map ONdI)]) (fun k => k.1 ≤ l.length ∧ k.2.length = l.length ∧ k.2.take k.1 = l.take k.1) (fun k => l.length - k.1) (0, List.replicate l.length ([], [])) (h0 := ?_) (hs := ?_) (round := ?_)
  · simp
  · exact le_trans (le_nw 7 rfl (nw_rep (.agg (.now (k := 1) (by decide) (.now (k := 1) (by decide) .nil)) .nil) l.length) rfl) (le_eq (by (repeat' first | exact .nil | refine .keep ?_ | refine .any ?_); first | done | fail) rfl (by simp [oset]))
  · intro ⟨k, m⟩ ⟨hk, hm, hg⟩
    dsimp only at hk hm hg ⊢
    by_cases hkl : k < l.length
    · have hr := toNode_ok l[k] (h1 _ (List.getElem_mem _)).1 (h1 _ (List.getElem_mem _)).2
      repeat' first
        | refine w_seq ?_
        | refine w_block ?_
        | refine rb_n ?_
        | refine rb_ret ?_
        | refine rb_eq ?_
        | refine rb_ne (by rfl) ?_
        | refine w_exit ?_
        | refine rt_exit ?_
        | refine w_region ?_
        | refine l_nil ?_
        | refine rt_n ?_
        | refine w_ret ?_
        | refine rt_ret ?_
        | refine w_skip ?_
        | refine w_cond_t rfl ?_
        | refine w_cond_f rfl ?_
        | refine w_cnd rfl (fun hc => ?_) (fun hc => ?_)
        | refine w_cd rfl (fun hc => ?_) (fun hc => ?_)
        | refine w_cn rfl (fun hc => ?_) (fun hc => ?_)
        | refine w_cond rfl (fun hc => ?_) (fun hc => ?_)
        | (exfalso; omega)
        | (refine l_o ?_; first | refine l_op rfl (by first | (apply k_callf; first | exact ops_callv (hfc := hr) | fail) | fail) (hk := ?_) | refine l_op (hk := ?_))
      refine rn_mk (k + 1, m.set k l[k]) ⟨by dsimp only; omega, by simpa using hm, take_set_next hg hm (by omega)⟩ (by dsimp only; omega) (le_trans (le_seal 7 k 0 1020 rfl (List.getElem?_set_self (by rw [List.length_map]; omega)) rfl rfl (by simp) (namesL_map0 _ _ fun _ => rfl) (by decide) rfl rfl) (le_trans (le_seal 7 k 1 2020 rfl (List.getElem?_set_self (by rw [List.length_set, List.length_map]; omega)) rfl rfl (by simp) (namesL_map0 _ _ fun _ => rfl) (by decide) rfl rfl) (le_eq (by (repeat' first | exact .nil | refine .keep ?_ | refine .any ?_); first | done | fail) rfl ?_)))
      simp only [oset, oerase, reduceIte, Nat.reduceEqDiff, RV.setCell, List.set_set, List.map_set, List.set_cons_zero, List.set_cons_succ]
    · repeat' first
        | refine w_seq ?_
        | refine w_block ?_
        | refine rb_n ?_
        | refine rb_ret ?_
        | refine rb_eq ?_
        | refine rb_ne (by rfl) ?_
        | refine w_exit ?_
        | refine rt_exit ?_
        | refine w_region ?_
        | refine l_nil ?_
        | refine rt_n ?_
        | refine w_ret ?_
        | refine rt_ret ?_
        | refine w_skip ?_
        | refine w_cond_t rfl ?_
        | refine w_cond_f rfl ?_
        | refine w_cnd rfl (fun hc => ?_) (fun hc => ?_)
        | refine w_cd rfl (fun hc => ?_) (fun hc => ?_)
        | refine w_cn rfl (fun hc => ?_) (fun hc => ?_)
        | refine w_cond rfl (fun hc => ?_) (fun hc => ?_)
        | (exfalso; omega)
        | (refine l_o ?_; first | refine l_op (hk := ?_))
      refine en_end (hf := Try.results88) (hr := ?_); simp only [ne, nf, nl, nr, lget, reduceIte, Nat.reduceEqDiff]; first | rfl | refine congrArg RVb ?_ | refine congrArg RVi ?_ | skip
      rw [List.take_of_length_le (by omega), List.take_of_length_le (by omega)] at hg
      rw [hg]
theorem toForm_ok (l : List NdI) (hl : smFm l) : FCr Try.prog 45 [RFm l] (OFm l) := by
  have h := toNodeS_ok l hl
  refine (fcr_in Try.func45 rfl (by simp only [Try.ntmps45, anys, List.length_cons, List.length_nil, Nat.reduceAdd, Nat.reduceSub, List.replicate_succ, List.replicate_zero, List.cons_append, List.nil_append] <;> rfl) ?_)
  repeat' first
    | refine w_seq ?_
    | refine w_region ?_
    | refine l_nil ?_
    | refine rt_n ?_
    | refine w_ret ?_
    | refine rt_ret ?_
    | refine w_skip ?_
    | (refine l_o ?_; first | refine l_op rfl (by first | (apply k_callf; first | exact ops_callv (hfc := h) | fail) | fail) (hk := ?_) | refine l_op (hk := ?_))
  refine en_end (hf := Try.results45) (hr := ?_); simp only [ne, nf, nl, nr, lget, reduceIte, Nat.reduceEqDiff]; first | rfl | refine congrArg RVb ?_ | refine congrArg RVi ?_ | skip
theorem eqNode_ok (a b : NdI) : FCr Try.prog 135 [RNdI a, RNdI b] (RVb (decide (a = b))) := by
  obtain ⟨a1, a2⟩ := a
  obtain ⟨b1, b2⟩ := b
  refine (fcr_in Try.func135 rfl (by simp only [Try.ntmps135, anys, List.length_cons, List.length_nil, Nat.reduceAdd, Nat.reduceSub, List.replicate_succ, List.replicate_zero, List.cons_append, List.nil_append] <;> rfl) ?_)
  repeat' first
    | refine w_seq ?_
    | refine w_region ?_
    | refine l_nil ?_
    | refine rt_n ?_
    | refine w_ret ?_
    | refine rt_ret ?_
    | refine w_skip ?_
    | refine w_cond_t rfl ?_
    | refine w_cond_f rfl ?_
    | refine w_cnd rfl (fun hc => ?_) (fun hc => ?_)
    | refine w_cd rfl (fun hc => ?_) (fun hc => ?_)
    | refine w_cn rfl (fun hc => ?_) (fun hc => ?_)
    | refine w_cond rfl (fun hc => ?_) (fun hc => ?_)
    | (refine l_o ?_; first | refine l_op rfl (by first | (apply k_callf; first | exact ops_callf (hfc := eqIntS_ok a1 b1) | exact ops_callf (hfc := eqIntS_ok a2 b2) | fail) | fail) (hk := ?_) | refine l_op (hk := ?_))
  all_goals
    refine en_one (hf := Try.results135) (h := ?_); simp only [lget]; first | refine congrArg RVb ?_ | refine congrArg RVi ?_ | skip
    grind
theorem eqNodeS_ok (l m : List NdI) : FCr Try.prog 96 [.sh (l.map RNdI), .sh (m.map RNdI)] (RVb (decide (l = m))) := by
  refine fcr_lens fun hL => ?_
  simp only [lnk] at hL
  refine (fcr_in Try.func96 rfl (by simp only [Try.ntmps96, anys, List.length_cons, List.length_nil, Nat.reduceAdd, Nat.reduceSub, List.replicate_succ, List.replicate_zero, List.cons_append, List.nil_append] <;> rfl) ?_)
  repeat' first
    | refine w_seq ?_
    | refine w_block ?_
    | refine rb_n ?_
    | refine rb_ret ?_
    | refine rb_eq ?_
    | refine rb_ne (by rfl) ?_
    | refine w_exit ?_
    | refine rt_exit ?_
    | refine w_region ?_
    | refine l_nil ?_
    | refine rt_n ?_
    | refine w_ret ?_
    | refine rt_ret ?_
    | refine w_skip ?_
    | refine w_cond_t rfl ?_
    | refine w_cond_f rfl ?_
    | refine w_cnd rfl (fun hc => ?_) (fun hc => ?_)
    | refine w_cd rfl (fun hc => ?_) (fun hc => ?_)
    | refine w_cn rfl (fun hc => ?_) (fun hc => ?_)
    | refine w_cond rfl (fun hc => ?_) (fun hc => ?_)
    | (refine l_o ?_; first | refine l_op (hk := ?_))
    | refine d_nil ?_
    | (refine d_o ?_; first | refine d_fl (hk := ?_) | refine d_ef (hk := ?_))
    | (refine w_o ?_; first | refine w_draw (id := 6) (fun _ => true) (fun k => [8].contains k) [[]] 64 (by kernel_rfl) rfl (by kernel_rfl) (by simp [nm, nset, -List.map_take, -List.map_drop]) ?_)
  · refine en_one (hf := Try.results96) (h := ?_); simp only [lget]; first | refine congrArg RVb ?_ | refine congrArg RVi ?_ | skip
    grind
  have hn : l.length = m.length := by omega
  clear hc
  refine w_loopm (ι := Nat) (fun k => [(5, RVi k)]) (fun _ => []) (fun k => k ≤ l.length ∧ ((l.drop k = m.drop k) ↔ l = m)) (fun k => l.length - k) 0 (h0 := ?_) (hs := ?_) (round := ?_)
  · simp
  · refine le_eq (by (repeat' first | exact .nil | refine .keep ?_ | refine .any ?_); first | done | fail) rfl rfl
  · intro k ⟨hk, hg⟩
    repeat' first
      | refine w_seq ?_
      | refine w_block ?_
      | refine rb_n ?_
      | refine rb_ret ?_
      | refine rb_eq ?_
      | refine rb_ne (by rfl) ?_
      | refine w_exit ?_
      | refine rt_exit ?_
      | refine w_region ?_
      | refine l_nil ?_
      | refine rt_n ?_
      | refine w_ret ?_
      | refine rt_ret ?_
      | refine w_skip ?_
      | refine w_cond_t rfl ?_
      | refine w_cond_f rfl ?_
      | refine w_cnd rfl (fun hc => ?_) (fun hc => ?_)
      | refine w_cd rfl (fun hc => ?_) (fun hc => ?_)
      | refine w_cn rfl (fun hc => ?_) (fun hc => ?_)
      | refine w_cond rfl (fun hc => ?_) (fun hc => ?_)
      | (refine l_o ?_; first | refine l_op rfl (by first | (apply k_callf; first | exact ops_callf (hfc := eqNode_ok _ _) | fail) | fail) (hk := ?_) | refine l_op (hk := ?_))
      | refine d_nil ?_
      | (refine d_o ?_; first | refine d_fl (hk := ?_) | refine d_ef rfl (by first | exact .callf (hfc := eqNode_ok _ _) | fail) (hk := ?_) | refine d_ef (hk := ?_))
      | (refine w_o ?_; first | refine w_draw (id := 6) (fun _ => true) (fun k => [8].contains k) [[]] 64 (by kernel_rfl) rfl (by kernel_rfl) (by simp [nm, nset, -List.map_take, -List.map_drop]) ?_)
    · refine en_one (hf := Try.results96) (h := ?_); simp only [lget]; first | refine congrArg RVb ?_ | refine congrArg RVi ?_ | skip
      grind [drop_both]
    · refine rn_mk (k + 1) ?_ (by first | omega | (dsimp only; omega)) (le_eq (by (repeat' first | exact .nil | refine .keep ?_ | refine .any ?_); first | done | fail) rfl rfl)
      grind [drop_both]
    · refine en_one (hf := Try.results96) (h := ?_); simp only [lget]; first | refine congrArg RVb ?_ | refine congrArg RVi ?_ | skip
      grind [dn]
theorem eqForm_ok (l m : List NdI) : FCr Try.prog 47 [RFm l, RFm m] (RVb (decide (l = m))) := by
  have h := eqNodeS_ok l m
  refine (fcr_in Try.func47 rfl (by simp only [Try.ntmps47, anys, List.length_cons, List.length_nil, Nat.reduceAdd, Nat.reduceSub, List.replicate_succ, List.replicate_zero, List.cons_append, List.nil_append] <;> rfl) ?_)
  repeat' first
    | refine w_seq ?_
    | refine w_region ?_
    | refine l_nil ?_
    | refine rt_n ?_
    | refine w_ret ?_
    | refine rt_ret ?_
    | refine w_skip ?_
    | refine w_cond_t rfl ?_
    | refine w_cond_f rfl ?_
    | refine w_cnd rfl (fun hc => ?_) (fun hc => ?_)
    | refine w_cd rfl (fun hc => ?_) (fun hc => ?_)
    | refine w_cn rfl (fun hc => ?_) (fun hc => ?_)
    | refine w_cond rfl (fun hc => ?_) (fun hc => ?_)
    | (refine l_o ?_; first | refine l_op rfl (by first | (apply k_callf; first | exact ops_callf (hfc := h) | fail) | fail) (hk := ?_) | refine l_op (hk := ?_))
  all_goals
    refine en_one (hf := Try.results47) (h := ?_); simp only [lget]; first | refine congrArg RVb ?_ | refine congrArg RVi ?_ | skip
    simp [*]
end Go.Proofs.Ytdignmbeiohhiaa
