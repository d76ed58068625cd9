/- Rows (pairs of texts) measured, copied, compared, marked, as the drawn laws do it. For all rows. -/
import Derived.Test.YtdignmbeiohhiaaExt
namespace Go.Proofs.Ytdignmbeiohhiaa
open Eng
attribute [local irreducible] OpS OpG FC FCr Rel Fl Ef DR Fs
set_option linter.unusedSimpArgs false
set_option maxHeartbeats 0
set_option maxRecDepth 100000

abbrev Rw := List UInt8 × List UInt8
/-- Lengths that texts can have. -/
def lenRw (r : Rw) : Prop := r.1.length ≤ 9223372036854775807 ∧ r.2.length ≤ 9223372036854775807
def szRw (r : Rw) (left : Int) : Int := if left - r.1.length < 0 then -1 else if left - r.1.length - r.2.length < 0 then -1 else left - r.1.length - r.2.length
theorem szRow_ok (r : Rw) (left : Int) (h0 : 0 ≤ left) (h1 : left ≤ 1048576) (hr : lenRw r) : FCr Try.prog 15 [RRw r, RVi left] (RVi (szRw r left)) := by
  obtain ⟨hk, hw⟩ := hr
  refine (fcr_in Try.func15 rfl (by simp only [Try.ntmps15, anys, List.length_cons, List.length_nil, Nat.reduceAdd, Nat.reduceSub, List.replicate_succ, List.replicate_zero, List.cons_append, List.nil_append] <;> rfl) ?_)
  repeat' first
    | refine w_seq ?_
    | refine w_region ?_
    | refine l_nil ?_
    | refine rt_n ?_
    | refine w_ret ?_
    | refine rt_ret ?_
    | refine w_skip ?_
    | refine w_cond_t rfl ?_
    | refine w_cond_f rfl ?_
    | refine w_cnd rfl (fun hc => ?_) (fun hc => ?_)
    | refine w_cd rfl (fun hc => ?_) (fun hc => ?_)
    | refine w_cn rfl (fun hc => ?_) (fun hc => ?_)
    | refine w_cond rfl (fun hc => ?_) (fun hc => ?_)
    | (refine l_o ?_; first | refine l_op (hk := ?_))
  all_goals
    refine en_one (hf := Try.results15) (h := ?_); simp only [lget]; first | refine congrArg RVb ?_ | refine congrArg RVi ?_ | skip
    simp [szRw, *]
def szRws : List Rw → Int → Int
  | [], left => left
  | r :: rs, left => if szRw r left < 0 then -1 else szRws rs (szRw r left)
def szRwsr (l : List Rw) (left : Int) : Int := if left - l.length < 0 then -1 else szRws l (left - l.length)
theorem szRw_le (r : Rw) (left : Int) : szRw r left ≤ left ∨ szRw r left = -1 := by unfold szRw; split; · right; rfl
                                                                                    split; · right; rfl
                                                                                    left; omega
theorem szRowS_ok (l : List Rw) (left : Int) (h0 : 0 ≤ left) (h1 : left ≤ 1048576) (hl : ∀ r ∈ l, lenRw r) : FCr Try.prog 14 [RRws l, RVi left] (RVi (szRwsr l left)) := by
  refine fcr_lens fun hL => ?_
  simp only [lnk] at hL
  refine (fcr_in Try.func14 rfl (by simp only [Try.ntmps14, anys, List.length_cons, List.length_nil, Nat.reduceAdd, Nat.reduceSub, List.replicate_succ, List.replicate_zero, List.cons_append, List.nil_append] <;> rfl) ?_)
  repeat' first
    | refine w_seq ?_
    | refine w_block ?_
    | refine rb_n ?_
    | refine rb_ret ?_
    | refine rb_eq ?_
    | refine rb_ne (by rfl) ?_
    | refine w_exit ?_
    | refine rt_exit ?_
    | refine w_region ?_
    | refine l_nil ?_
    | refine rt_n ?_
    | refine w_ret ?_
    | refine rt_ret ?_
    | refine w_skip ?_
    | refine w_cond_t rfl ?_
    | refine w_cond_f rfl ?_
    | refine w_cnd rfl (fun hc => ?_) (fun hc => ?_)
    | refine w_cd rfl (fun hc => ?_) (fun hc => ?_)
    | refine w_cn rfl (fun hc => ?_) (fun hc => ?_)
    | refine w_cond rfl (fun hc => ?_) (fun hc => ?_)
    | (refine l_o ?_; first | refine l_op (hk := ?_))
  · refine en_one (hf := Try.results14) (h := ?_); simp only [lget]; first | refine congrArg RVb ?_ | refine congrArg RVi ?_ | skip
    simp [szRwsr, *]
  have hn := hc; clear hc
  refine w_loopm (ι := Nat × Int) (fun k => [(5, RVi k.1), (1, RVi k.2)]) (fun _ => []) (fun k => k.1 ≤ l.length ∧ 0 ≤ k.2 ∧ k.2 ≤ 1048576 ∧ szRws (l.drop k.1) k.2 = szRws l (left - l.length)) (fun k => l.length - k.1) (0, left - l.length) (h0 := ?_) (hs := ?_) (round := ?_)
  · simp; omega
  · refine le_eq (by (repeat' first | exact .nil | refine .keep ?_ | refine .any ?_); first | done | fail) rfl rfl
  · intro ⟨k, p⟩ ⟨hk, hp0, hp1, hg⟩
    dsimp only at hk hp0 hp1 hg ⊢
    by_cases hkl : k < l.length
    · have hr := szRow_ok l[k] p hp0 hp1 (hl _ (List.getElem_mem _))
      have hle := szRw_le l[k] p
      rw [dc hkl, szRws] at hg
      repeat' first
        | refine w_seq ?_
        | refine w_block ?_
        | refine rb_n ?_
        | refine rb_ret ?_
        | refine rb_eq ?_
        | refine rb_ne (by rfl) ?_
        | refine w_exit ?_
        | refine rt_exit ?_
        | refine w_region ?_
        | refine l_nil ?_
        | refine rt_n ?_
        | refine w_ret ?_
        | refine rt_ret ?_
        | refine w_skip ?_
        | refine w_cond_t rfl ?_
        | refine w_cond_f rfl ?_
        | refine w_cnd rfl (fun hc => ?_) (fun hc => ?_)
        | refine w_cd rfl (fun hc => ?_) (fun hc => ?_)
        | refine w_cn rfl (fun hc => ?_) (fun hc => ?_)
        | refine w_cond rfl (fun hc => ?_) (fun hc => ?_)
        | (exfalso; omega)
        | (refine l_o ?_; first | refine l_op rfl (by first | (apply k_callf; first | exact ops_callf (hfc := hr) | fail) | fail) (hk := ?_) | refine l_op (hk := ?_))
      · refine en_one (hf := Try.results14) (h := ?_); simp only [lget]; first | refine congrArg RVb ?_ | refine congrArg RVi ?_ | skip
        rw [if_pos hc] at hg
        rw [szRwsr, if_neg hn, ← hg]
      · rw [if_neg hc] at hg
        refine rn_mk (k + 1, szRw l[k] p) ?_ (by first | omega | (dsimp only; omega)) (le_eq (by (repeat' first | exact .nil | refine .keep ?_ | refine .any ?_); first | done | fail) rfl rfl)
        exact ⟨by omega, by omega, by omega, hg⟩
    · repeat' first
        | refine w_seq ?_
        | refine w_block ?_
        | refine rb_n ?_
        | refine rb_ret ?_
        | refine rb_eq ?_
        | refine rb_ne (by rfl) ?_
        | refine w_exit ?_
        | refine rt_exit ?_
        | refine w_region ?_
        | refine l_nil ?_
        | refine rt_n ?_
        | refine w_ret ?_
        | refine rt_ret ?_
        | refine w_skip ?_
        | refine w_cond_t rfl ?_
        | refine w_cond_f rfl ?_
        | refine w_cnd rfl (fun hc => ?_) (fun hc => ?_)
        | refine w_cd rfl (fun hc => ?_) (fun hc => ?_)
        | refine w_cn rfl (fun hc => ?_) (fun hc => ?_)
        | refine w_cond rfl (fun hc => ?_) (fun hc => ?_)
        | (exfalso; omega)
        | (refine l_o ?_; first | refine l_op (hk := ?_))
      rw [List.drop_of_length_le (by omega), szRws] at hg
      refine en_one (hf := Try.results14) (h := ?_); simp only [lget]; first | refine congrArg RVb ?_ | refine congrArg RVi ?_ | skip
      rw [szRwsr, if_neg hn, ← hg]
theorem szRws_le (l : List Rw) (left : Int) : szRws l left ≤ left ∨ szRws l left = -1 := by
  induction l generalizing left with
  | nil => left; simp [szRws]
  | cons r rs ih =>
    simp only [szRws]
    split
    · right; rfl
    · rcases ih (szRw r left) with h | h
      · have := szRw_le r left; left; omega
      · right; exact h
theorem szRws_lens (l : List Rw) (left : Int) (h : 0 ≤ szRws l left) : ∀ r ∈ l, (r.1.length : Int) ≤ left ∧ (r.2.length : Int) ≤ left := by
  induction l generalizing left with
  | nil => simp
  | cons r rs ih =>
    simp only [szRws] at h
    split at h
    · omega
    · rename_i hn
      intro q hq
      have : szRw r left = left - r.1.length - r.2.length ∨ szRw r left = -1 := by
        unfold szRw; split
        · right; rfl
        · split
          · right; rfl
          · left; rfl
      rcases List.mem_cons.1 hq with rfl | hq
      · omega
      · have := ih _ h q hq
        omega
theorem szRwsr_lens {l : List Rw} {left : Int} (h : 0 ≤ szRwsr l left) : (l.length : Int) ≤ left ∧ ∀ r ∈ l, (r.1.length : Int) ≤ left ∧ (r.2.length : Int) ≤ left := by
  unfold szRwsr at h
  split at h
  · omega
  · refine ⟨by omega, fun r hr => ?_⟩
    have := szRws_lens _ _ h r hr
    omega
theorem szRwsr_le (l : List Rw) (left : Int) : szRwsr l left ≤ left ∨ szRwsr l left = -1 := by
  unfold szRwsr
  split
  · right; rfl
  · rcases szRws_le l (left - l.length) with h | h
    · left; omega
    · right; exact h

theorem toRow_ok (r : Rw) : FCr Try.prog 18 [RRw r] (RRw r) := by
  refine (fcr_in Try.func18 rfl (by simp only [Try.ntmps18, anys, List.length_cons, List.length_nil, Nat.reduceAdd, Nat.reduceSub, List.replicate_succ, List.replicate_zero, List.cons_append, List.nil_append] <;> rfl) ?_)
  repeat' first
    | refine w_seq ?_
    | refine w_region ?_
    | refine l_nil ?_
    | refine rt_n ?_
    | refine w_ret ?_
    | refine rt_ret ?_
    | refine w_skip ?_
    | (refine l_o ?_; first | refine l_op (hk := ?_))
  refine en_end (hf := Try.results18) (hr := ?_); simp only [ne, nf, nl, nr, lget, reduceIte, Nat.reduceEqDiff]; first | rfl | refine congrArg RVb ?_ | refine congrArg RVi ?_ | skip
theorem toRowS_ok (l : List Rw) (hl : l.length ≤ 1048576) : FCr Try.prog 17 [RRws l] (ORws l) := by
  refine (fcr_in Try.func17 rfl (by simp only [Try.ntmps17, anys, List.length_cons, List.length_nil, Nat.reduceAdd, Nat.reduceSub, List.replicate_succ, List.replicate_zero, List.cons_append, List.nil_append] <;> rfl) ?_)
  repeat' first
    | refine w_seq ?_
    | refine w_block ?_
    | refine rb_n ?_
    | refine rb_ret ?_
    | refine rb_eq ?_
    | refine rb_ne (by rfl) ?_
    | refine w_exit ?_
    | refine rt_exit ?_
    | refine w_region ?_
    | refine l_nil ?_
    | refine rt_n ?_
    | refine w_ret ?_
    | refine rt_ret ?_
    | refine w_skip ?_
    | refine w_cond_t rfl ?_
    | refine w_cond_f rfl ?_
    | refine w_cnd rfl (fun hc => ?_) (fun hc => ?_)
    | refine w_cd rfl (fun hc => ?_) (fun hc => ?_)
    | refine w_cn rfl (fun hc => ?_) (fun hc => ?_)
    | refine w_cond rfl (fun hc => ?_) (fun hc => ?_)
    | (refine l_o ?_; first | refine l_op (hk := ?_))
  refine w_loopm (ι := Nat × List Rw) (fun k => [(4, RVi k.1), (3, .ref 7 0 l.length), (7, .ref 7 0 l.length)]) (fun k => [(7, 2, k.2.map RRw)]) (fun k => k.1 ≤ l.length ∧ k.2.length = l.length ∧ k.2.take k.1 = l.take k.1) (fun k => l.length - k.1) (0, List.replicate l.length ([], [])) (h0 := ?_) (hs := ?_) (round := ?_)
  · simp
  · refine le_eq (by (repeat' first | exact .nil | refine .keep ?_ | refine .any ?_); first | done | fail) rfl rfl
  · intro ⟨k, m⟩ ⟨hk, hm, hg⟩
    dsimp only at hk hm hg ⊢
    by_cases hkl : k < l.length
    · have hr := toRow_ok l[k]
      repeat' first
        | refine w_seq ?_
        | refine w_block ?_
        | refine rb_n ?_
        | refine rb_ret ?_
        | refine rb_eq ?_
        | refine rb_ne (by rfl) ?_
        | refine w_exit ?_
        | refine rt_exit ?_
        | refine w_region ?_
        | refine l_nil ?_
        | refine rt_n ?_
        | refine w_ret ?_
        | refine rt_ret ?_
        | refine w_skip ?_
        | refine w_cond_t rfl ?_
        | refine w_cond_f rfl ?_
        | refine w_cnd rfl (fun hc => ?_) (fun hc => ?_)
        | refine w_cd rfl (fun hc => ?_) (fun hc => ?_)
        | refine w_cn rfl (fun hc => ?_) (fun hc => ?_)
        | refine w_cond rfl (fun hc => ?_) (fun hc => ?_)
        | (exfalso; omega)
        | (refine l_o ?_; first | refine l_op rfl (by first | (apply k_callf; first | exact ops_callf (hfc := hr) | fail) | fail) (hk := ?_) | refine l_op (hk := ?_))
      refine rn_mk (k + 1, m.set k l[k]) ?_ (by first | omega | (dsimp only; omega)) (le_eq (by (repeat' first | exact .nil | refine .keep ?_ | refine .any ?_); first | done | fail) rfl rfl)
      refine ⟨by dsimp only; omega, by simpa using hm, ?_⟩
      dsimp only
      rw [List.take_succ_eq_append_getElem (by simp; omega), List.take_succ_eq_append_getElem (by omega), List.take_set_of_le (by omega), hg]
      simp
    · repeat' first
        | refine w_seq ?_
        | refine w_block ?_
        | refine rb_n ?_
        | refine rb_ret ?_
        | refine rb_eq ?_
        | refine rb_ne (by rfl) ?_
        | refine w_exit ?_
        | refine rt_exit ?_
        | refine w_region ?_
        | refine l_nil ?_
        | refine rt_n ?_
        | refine w_ret ?_
        | refine rt_ret ?_
        | refine w_skip ?_
        | refine w_cond_t rfl ?_
        | refine w_cond_f rfl ?_
        | refine w_cnd rfl (fun hc => ?_) (fun hc => ?_)
        | refine w_cd rfl (fun hc => ?_) (fun hc => ?_)
        | refine w_cn rfl (fun hc => ?_) (fun hc => ?_)
        | refine w_cond rfl (fun hc => ?_) (fun hc => ?_)
        | (exfalso; omega)
        | (refine l_o ?_; first | refine l_op (hk := ?_))
      refine en_end (hf := Try.results17) (hr := ?_); simp only [ne, nf, nl, nr, lget, reduceIte, Nat.reduceEqDiff]; first | rfl | refine congrArg RVb ?_ | refine congrArg RVi ?_ | skip
      rw [List.take_of_length_le (by omega), List.take_of_length_le (by omega)] at hg
      rw [hg]
theorem eqRow_ok (a b : Rw) : FCr Try.prog 74 [RRw a, RRw b] (RVb (decide (a = b))) := by
  obtain ⟨a1, a2⟩ := a
  obtain ⟨b1, b2⟩ := b
  refine (fcr_in Try.func74 rfl (by simp only [Try.ntmps74, anys, List.length_cons, List.length_nil, Nat.reduceAdd, Nat.reduceSub, List.replicate_succ, List.replicate_zero, List.cons_append, List.nil_append] <;> rfl) ?_)
  repeat' first
    | refine w_seq ?_
    | refine w_region ?_
    | refine l_nil ?_
    | refine rt_n ?_
    | refine w_ret ?_
    | refine rt_ret ?_
    | refine w_skip ?_
    | refine w_cond_t rfl ?_
    | refine w_cond_f rfl ?_
    | refine w_cnd rfl (fun hc => ?_) (fun hc => ?_)
    | refine w_cd rfl (fun hc => ?_) (fun hc => ?_)
    | refine w_cn rfl (fun hc => ?_) (fun hc => ?_)
    | refine w_cond rfl (fun hc => ?_) (fun hc => ?_)
    | (refine l_o ?_; first | refine l_op (hk := ?_))
  all_goals
    refine en_one (hf := Try.results74) (h := ?_); simp only [lget]; first | refine congrArg RVb ?_ | refine congrArg RVi ?_ | skip
    grind
theorem eqRowS_ok (l m : List Rw) : FCr Try.prog 20 [RRws l, RRws m] (RVb (decide (l = m))) := by
  refine fcr_lens fun hL => ?_
  simp only [lnk] at hL
  refine (fcr_in Try.func20 rfl (by simp only [Try.ntmps20, anys, List.length_cons, List.length_nil, Nat.reduceAdd, Nat.reduceSub, List.replicate_succ, List.replicate_zero, List.cons_append, List.nil_append] <;> rfl) ?_)
  repeat' first
    | refine w_seq ?_
    | refine w_block ?_
    | refine rb_n ?_
    | refine rb_ret ?_
    | refine rb_eq ?_
    | refine rb_ne (by rfl) ?_
    | refine w_exit ?_
    | refine rt_exit ?_
    | refine w_region ?_
    | refine l_nil ?_
    | refine rt_n ?_
    | refine w_ret ?_
    | refine rt_ret ?_
    | refine w_skip ?_
    | refine w_cond_t rfl ?_
    | refine w_cond_f rfl ?_
    | refine w_cnd rfl (fun hc => ?_) (fun hc => ?_)
    | refine w_cd rfl (fun hc => ?_) (fun hc => ?_)
    | refine w_cn rfl (fun hc => ?_) (fun hc => ?_)
    | refine w_cond rfl (fun hc => ?_) (fun hc => ?_)
    | (refine l_o ?_; first | refine l_op (hk := ?_))
    | refine d_nil ?_
    | (refine d_o ?_; first | refine d_fl (hk := ?_) | refine d_ef (hk := ?_))
    | (refine w_o ?_; first | refine w_draw (id := 6) (fun _ => true) (fun k => [8].contains k) [[]] 64 (by kernel_rfl) rfl (by kernel_rfl) (by simp [nm, nset, -List.map_take, -List.map_drop]) ?_)
  · refine en_one (hf := Try.results20) (h := ?_); simp only [lget]; first | refine congrArg RVb ?_ | refine congrArg RVi ?_ | skip
    grind
  have hn : l.length = m.length := by omega
  clear hc
  refine w_loopm (ι := Nat) (fun k => [(5, RVi k)]) (fun _ => []) (fun k => k ≤ l.length ∧ ((l.drop k = m.drop k) ↔ l = m)) (fun k => l.length - k) 0 (h0 := ?_) (hs := ?_) (round := ?_)
  · simp
  · refine le_eq (by (repeat' first | exact .nil | refine .keep ?_ | refine .any ?_); first | done | fail) rfl rfl
  · intro k ⟨hk, hg⟩
    repeat' first
      | refine w_seq ?_
      | refine w_block ?_
      | refine rb_n ?_
      | refine rb_ret ?_
      | refine rb_eq ?_
      | refine rb_ne (by rfl) ?_
      | refine w_exit ?_
      | refine rt_exit ?_
      | refine w_region ?_
      | refine l_nil ?_
      | refine rt_n ?_
      | refine w_ret ?_
      | refine rt_ret ?_
      | refine w_skip ?_
      | refine w_cond_t rfl ?_
      | refine w_cond_f rfl ?_
      | refine w_cnd rfl (fun hc => ?_) (fun hc => ?_)
      | refine w_cd rfl (fun hc => ?_) (fun hc => ?_)
      | refine w_cn rfl (fun hc => ?_) (fun hc => ?_)
      | refine w_cond rfl (fun hc => ?_) (fun hc => ?_)
      | (refine l_o ?_; first | refine l_op rfl (by first | (apply k_callf; first | exact ops_callf (hfc := eqRow_ok _ _) | fail) | fail) (hk := ?_) | refine l_op (hk := ?_))
      | refine d_nil ?_
      | (refine d_o ?_; first | refine d_fl (hk := ?_) | refine d_ef rfl (by first | exact .callf (hfc := eqRow_ok _ _) | fail) (hk := ?_) | refine d_ef (hk := ?_))
      | (refine w_o ?_; first | refine w_draw (id := 6) (fun _ => true) (fun k => [8].contains k) [[]] 64 (by kernel_rfl) rfl (by kernel_rfl) (by simp [nm, nset, -List.map_take, -List.map_drop]) ?_)
    · refine en_one (hf := Try.results20) (h := ?_); simp only [lget]; first | refine congrArg RVb ?_ | refine congrArg RVi ?_ | skip
      grind [drop_both]
    · refine rn_mk (k + 1) ?_ (by first | omega | (dsimp only; omega)) (le_eq (by (repeat' first | exact .nil | refine .keep ?_ | refine .any ?_); first | done | fail) rfl rfl)
      grind [drop_both]
    · refine en_one (hf := Try.results20) (h := ?_); simp only [lget]; first | refine congrArg RVb ?_ | refine congrArg RVi ?_ | skip
      grind [dn]

/-- The digits of a number. -/
def mdig (n : Nat) : List UInt8 := if n = 0 then [] else mdig (n / 10) ++ [UInt8.ofNat (48 + n % 10)]
def mtext (k : Nat) : List UInt8 := if k = 0 then [109, 48] else 109 :: mdig k
theorem mdig_len (n : Nat) : (mdig n).length ≤ n := by
  induction n using Nat.strongRecOn with
  | ind n ih =>
    rw [mdig]
    split
    · simp
    · have := ih (n / 10) (by omega)
      simp; omega
theorem mtext_len (k : Nat) : (mtext k).length ≤ k + 2 := by
  unfold mtext
  split
  · simp
  · have := mdig_len k; simp; omega
theorem markText_ok (k : Nat) (hk : k ≤ 1099511627776) : FCr Try.prog 75 [RVn k] (RV.str (mtext k)) := by
  unfold mtext
  by_cases h0 : k = 0
  · rw [if_pos h0]
    refine (fcr_in Try.func75 rfl (by simp only [Try.ntmps75, anys, List.length_cons, List.length_nil, Nat.reduceAdd, Nat.reduceSub, List.replicate_succ, List.replicate_zero, List.cons_append, List.nil_append] <;> rfl) ?_)
    repeat' first
      | refine w_seq ?_
      | refine w_block ?_
      | refine rb_n ?_
      | refine rb_ret ?_
      | refine rb_eq ?_
      | refine rb_ne (by rfl) ?_
      | refine w_exit ?_
      | refine rt_exit ?_
      | refine w_region ?_
      | refine l_nil ?_
      | refine rt_n ?_
      | refine w_ret ?_
      | refine rt_ret ?_
      | refine w_skip ?_
      | refine w_cond_t rfl ?_
      | refine w_cond_f rfl ?_
      | refine w_cnd rfl (fun hc => ?_) (fun hc => ?_)
      | refine w_cd rfl (fun hc => ?_) (fun hc => ?_)
      | refine w_cn rfl (fun hc => ?_) (fun hc => ?_)
      | refine w_cond rfl (fun hc => ?_) (fun hc => ?_)
      | (exfalso; omega)
      | (refine l_o ?_; first | refine l_op (hk := ?_))
    refine en_one (hf := Try.results75) (h := ?_); simp only [lget]; first | refine congrArg RVb ?_ | refine congrArg RVi ?_ | skip
  · rw [if_neg h0]
    refine (fcr_in Try.func75 rfl (by simp only [Try.ntmps75, anys, List.length_cons, List.length_nil, Nat.reduceAdd, Nat.reduceSub, List.replicate_succ, List.replicate_zero, List.cons_append, List.nil_append] <;> rfl) ?_)
    repeat' first
      | refine w_seq ?_
      | refine w_block ?_
      | refine rb_n ?_
      | refine rb_ret ?_
      | refine rb_eq ?_
      | refine rb_ne (by rfl) ?_
      | refine w_exit ?_
      | refine rt_exit ?_
      | refine w_region ?_
      | refine l_nil ?_
      | refine rt_n ?_
      | refine w_ret ?_
      | refine rt_ret ?_
      | refine w_skip ?_
      | refine w_cond_t rfl ?_
      | refine w_cond_f rfl ?_
      | refine w_cnd rfl (fun hc => ?_) (fun hc => ?_)
      | refine w_cd rfl (fun hc => ?_) (fun hc => ?_)
      | refine w_cn rfl (fun hc => ?_) (fun hc => ?_)
      | refine w_cond rfl (fun hc => ?_) (fun hc => ?_)
      | (exfalso; omega)
      | (refine l_o ?_; first | refine l_op (hk := ?_))
    refine w_loopm (ι := Nat × List UInt8) (fun q => [(0, RVn q.1), (3, .str q.2)]) (fun _ => []) (fun q => q.1 ≤ k ∧ q.2.length + q.1 ≤ k ∧ mdig q.1 ++ q.2 = mdig k) (fun q => q.1) (k, []) (h0 := ?_) (hs := ?_) (round := ?_)
    · simp
    · refine le_eq (by (repeat' first | exact .nil | refine .keep ?_ | refine .any ?_); first | done | fail) rfl rfl
    · intro ⟨n, out⟩ ⟨h1, h2, h3⟩
      dsimp only at h1 h2 h3 ⊢
      by_cases hn : n = 0
      · subst hn
        repeat' first
          | refine w_seq ?_
          | refine w_block ?_
          | refine rb_n ?_
          | refine rb_ret ?_
          | refine rb_eq ?_
          | refine rb_ne (by rfl) ?_
          | refine w_exit ?_
          | refine rt_exit ?_
          | refine w_region ?_
          | refine l_nil ?_
          | refine rt_n ?_
          | refine w_ret ?_
          | refine rt_ret ?_
          | refine w_skip ?_
          | refine w_cond_t rfl ?_
          | refine w_cond_f rfl ?_
          | refine w_cnd rfl (fun hc => ?_) (fun hc => ?_)
          | refine w_cd rfl (fun hc => ?_) (fun hc => ?_)
          | refine w_cn rfl (fun hc => ?_) (fun hc => ?_)
          | refine w_cond rfl (fun hc => ?_) (fun hc => ?_)
          | (exfalso; omega)
          | (refine l_o ?_; first | refine l_op rfl (by first | (apply k_add; first | exact ops_cat (p := [109]) rfl rfl (by simp; omega) | fail) | fail) (hk := ?_) | refine l_op (hk := ?_))
        rw [mdig, if_pos rfl] at h3
        refine en_one (hf := Try.results75) (h := ?_); simp only [lget]; first | refine congrArg RVb ?_ | refine congrArg RVi ?_ | skip
        rw [← h3]; rfl
      · rw [mdig, if_neg hn, List.append_assoc] at h3
        repeat' first
          | refine w_seq ?_
          | refine w_block ?_
          | refine rb_n ?_
          | refine rb_ret ?_
          | refine rb_eq ?_
          | refine rb_ne (by rfl) ?_
          | refine w_exit ?_
          | refine rt_exit ?_
          | refine w_region ?_
          | refine l_nil ?_
          | refine rt_n ?_
          | refine w_ret ?_
          | refine rt_ret ?_
          | refine w_skip ?_
          | refine w_cond_t rfl ?_
          | refine w_cond_f rfl ?_
          | refine w_cnd rfl (fun hc => ?_) (fun hc => ?_)
          | refine w_cd rfl (fun hc => ?_) (fun hc => ?_)
          | refine w_cn rfl (fun hc => ?_) (fun hc => ?_)
          | refine w_cond rfl (fun hc => ?_) (fun hc => ?_)
          | (exfalso; omega)
          | (refine l_o ?_; first | refine l_op rfl (by first | (apply k_rem; first | exact ops_remn (n := 10) rfl rfl (by omega) | fail) | (apply k_quo; first | exact ops_quon (n := 10) rfl rfl (by omega) (by omega) | fail) | (apply k_add; first | exact ops_addn (a := 48) rfl rfl (by omega) | exact ops_cat (p := [UInt8.ofNat (48 + n % 10)]) rfl rfl (by simp; omega) | fail) | (apply k_buildSlice; first | exact ops_buildSlice_fz (k := 1) (z := .int .u8 0) rfl rfl rfl (by decide) (by decide) (by kernel_rfl) (by decide +kernel) (by kernel_rfl) | fail) | (apply k_convert; first | exact ops_conv8 (m := 48 + n % 10) rfl (by kernel_rfl) Try.underlying5 (by omega) | exact ops_convs (l := [UInt8.ofNat (48 + n % 10)]) (by simp only [nz, nf] <;> rfl) Try.underlying42 Try.underlying5 Try.underlying9 | fail) | fail) (hk := ?_) | refine l_op (hk := ?_))
        refine rn_mk (n / 10, UInt8.ofNat (48 + n % 10) :: out) ?_ (by first | omega | (dsimp only; omega)) (le_eq (by (repeat' first | exact .nil | refine .keep ?_ | refine .any ?_); first | done | fail) rfl rfl)
        exact ⟨by omega, by simp; omega, h3⟩
end Go.Proofs.Ytdignmbeiohhiaa
