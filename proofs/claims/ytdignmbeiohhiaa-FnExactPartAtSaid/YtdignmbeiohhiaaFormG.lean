/- Good forms: the program's test. For all forms. -/
import Derived.Test.YtdignmbeiohhiaaFormU
namespace Go.Proofs.Ytdignmbeiohhiaa
open Eng
attribute [local irreducible] OpS OpG FC FCr Rel Fl Ef DR Fs
attribute [local simp] RV.fzR_names
set_option linter.unusedSimpArgs false
set_option maxHeartbeats 0
set_option maxRecDepth 100000

/-- Where a truth value stands first, counted from k on. -/
def idxB (x : Bool) (k : Nat) : List Bool → Int
  | [] => -1
  | y :: ys => if x = y then (k : Int) else idxB x (k + 1) ys
theorem idxB_mem (x : Bool) : ∀ (l : List Bool) (k : Nat), (0 ≤ idxB x k l ↔ x ∈ l)
  | [], k => by simp [idxB]
  | y :: ys, k => by
    rw [idxB]
    split
    · rename_i h; simp [h]
    · rename_i h; rw [idxB_mem x ys (k + 1)]; simp [h]
theorem indexB_ok (l : List Bool) (x : Bool) (hl : l.length ≤ 1000000) : FCr Try.prog 134 [RBs l, RVb x] (RVi (idxB x 0 l)) := by
  refine (fcr_in Try.func134 rfl (by simp only [Try.ntmps134, anys, List.length_cons, List.length_nil, Nat.reduceAdd, Nat.reduceSub, List.replicate_succ, List.replicate_zero, List.cons_append, List.nil_append] <;> rfl) ?_)
  repeat' first
    | refine w_seq ?_
    | refine w_block ?_
    | refine rb_n ?_
    | refine rb_ret ?_
    | refine rb_eq ?_
    | refine rb_ne (by rfl) ?_
    | refine w_exit ?_
    | refine rt_exit ?_
    | refine w_region ?_
    | refine l_nil ?_
    | refine rt_n ?_
    | refine w_ret ?_
    | refine rt_ret ?_
    | refine w_skip ?_
    | refine w_cond_t rfl ?_
    | refine w_cond_f rfl ?_
    | refine w_cnd rfl (fun hc => ?_) (fun hc => ?_)
    | refine w_cd rfl (fun hc => ?_) (fun hc => ?_)
    | refine w_cn rfl (fun hc => ?_) (fun hc => ?_)
    | refine w_cond rfl (fun hc => ?_) (fun hc => ?_)
    | (refine l_o ?_; first | refine l_eqnil rfl (by kernel_rfl) (by intro b; simp only [nz]; rfl) (fun b hb => ?_) | refine l_op (hk := ?_))
  refine w_loopm (ι := Nat) (fun k => [(8, RVn k), (5, .any)]) (fun _ => []) (fun k => k ≤ l.length ∧ idxB x k (l.drop k) = idxB x 0 l) (fun k => l.length - k) 0 (h0 := ?_) (hs := ?_) (round := ?_)
  · simp
  · refine le_eq (by (repeat' first | exact .nil | refine .keep ?_ | refine .any ?_); first | done | fail) rfl rfl
  · intro k ⟨hk, hg⟩
    by_cases hkl : k < l.length
    · rw [List.drop_eq_getElem_cons hkl, idxB] at hg
      by_cases he : x = l[k]
      · rw [if_pos he] at hg
        repeat' first
          | refine w_seq ?_
          | refine w_block ?_
          | refine rb_n ?_
          | refine rb_ret ?_
          | refine rb_eq ?_
          | refine rb_ne (by rfl) ?_
          | refine w_exit ?_
          | refine rt_exit ?_
          | refine w_region ?_
          | refine l_nil ?_
          | refine rt_n ?_
          | refine w_ret ?_
          | refine rt_ret ?_
          | refine w_skip ?_
          | refine w_cond_t rfl ?_
          | refine w_cond_f rfl ?_
          | refine w_cnd rfl (fun hc => ?_) (fun hc => ?_)
          | refine w_cd rfl (fun hc => ?_) (fun hc => ?_)
          | refine w_cn rfl (fun hc => ?_) (fun hc => ?_)
          | refine w_cond rfl (fun hc => ?_) (fun hc => ?_)
          | (exfalso; omega)
          | (refine l_o ?_; first | refine l_eqnil rfl (by kernel_rfl) (by intro b; simp only [nz]; rfl) (fun b hb => ?_) | refine l_op (hk := ?_))
        all_goals first
          | ((refine en_one (hf := Try.results134) (h := ?_); simp only [lget]; first | refine congrArg RVb ?_ | refine congrArg RVi ?_ | skip); exact hg)
          | (exfalso; simp_all; done)
      · rw [if_neg he] at hg
        repeat' first
          | refine w_seq ?_
          | refine w_block ?_
          | refine rb_n ?_
          | refine rb_ret ?_
          | refine rb_eq ?_
          | refine rb_ne (by rfl) ?_
          | refine w_exit ?_
          | refine rt_exit ?_
          | refine w_region ?_
          | refine l_nil ?_
          | refine rt_n ?_
          | refine w_ret ?_
          | refine rt_ret ?_
          | refine w_skip ?_
          | refine w_cond_t rfl ?_
          | refine w_cond_f rfl ?_
          | refine w_cnd rfl (fun hc => ?_) (fun hc => ?_)
          | refine w_cd rfl (fun hc => ?_) (fun hc => ?_)
          | refine w_cn rfl (fun hc => ?_) (fun hc => ?_)
          | refine w_cond rfl (fun hc => ?_) (fun hc => ?_)
          | (exfalso; omega)
          | (refine l_o ?_; first | refine l_eqnil rfl (by kernel_rfl) (by intro b; simp only [nz]; rfl) (fun b hb => ?_) | refine l_op (hk := ?_))
        all_goals first
          | (exfalso; simp_all; done)
          | (refine rn_mk (k + 1) ?_ (by first | omega | (dsimp only; omega)) (le_eq (by (repeat' first | exact .nil | refine .keep ?_ | refine .any ?_); first | done | fail) rfl rfl)
             exact ⟨by omega, hg⟩)
    · rw [List.drop_eq_nil_of_le (by omega), idxB] at hg
      repeat' first
        | refine w_seq ?_
        | refine w_block ?_
        | refine rb_n ?_
        | refine rb_ret ?_
        | refine rb_eq ?_
        | refine rb_ne (by rfl) ?_
        | refine w_exit ?_
        | refine rt_exit ?_
        | refine w_region ?_
        | refine l_nil ?_
        | refine rt_n ?_
        | refine w_ret ?_
        | refine rt_ret ?_
        | refine w_skip ?_
        | refine w_cond_t rfl ?_
        | refine w_cond_f rfl ?_
        | refine w_cnd rfl (fun hc => ?_) (fun hc => ?_)
        | refine w_cd rfl (fun hc => ?_) (fun hc => ?_)
        | refine w_cn rfl (fun hc => ?_) (fun hc => ?_)
        | refine w_cond rfl (fun hc => ?_) (fun hc => ?_)
        | (exfalso; omega)
        | (refine l_o ?_; first | refine l_eqnil rfl (by kernel_rfl) (by intro b; simp only [nz]; rfl) (fun b hb => ?_) | refine l_op (hk := ?_))
      refine en_one (hf := Try.results134) (h := ?_); simp only [lget]; first | refine congrArg RVb ?_ | refine congrArg RVi ?_ | skip
      exact hg
theorem containsB_ok (l : List Bool) (hl : l.length ≤ 1000000) : FCr Try.prog 94 [RBs l, RVb false] (RVb (decide (false ∈ l))) := by
  have h := indexB_ok l false hl
  have hm := idxB_mem false l 0
  refine (fcr_in Try.func94 rfl (by simp only [Try.ntmps94, anys, List.length_cons, List.length_nil, Nat.reduceAdd, Nat.reduceSub, List.replicate_succ, List.replicate_zero, List.cons_append, List.nil_append] <;> rfl) ?_)
  repeat' first
    | refine w_seq ?_
    | refine w_region ?_
    | refine l_nil ?_
    | refine rt_n ?_
    | refine w_ret ?_
    | refine rt_ret ?_
    | refine w_skip ?_
    | (refine l_o ?_; first | refine l_op rfl (by first | (apply k_callf; first | exact ops_callf (hfc := h) | fail) | fail) (hk := ?_) | refine l_op (hk := ?_))
  refine en_one (hf := Try.results94) (h := ?_); simp only [lget]; first | refine congrArg RVb ?_ | refine congrArg RVi ?_ | skip
  rw [decide_eq_decide]; exact hm
theorem goodOptions_ok (l : List Int) (n : Int) : FCr Try.prog 89 [RIs l, RVi n] (RVb (tgtOk n l)) := by
  refine fcr_lens fun hL => ?_
  simp only [lnk] at hL
  refine (fcr_in Try.func89 rfl (by simp only [Try.ntmps89, anys, List.length_cons, List.length_nil, Nat.reduceAdd, Nat.reduceSub, List.replicate_succ, List.replicate_zero, List.cons_append, List.nil_append] <;> rfl) ?_)
  repeat' first
    | refine w_seq ?_
    | refine w_block ?_
    | refine rb_n ?_
    | refine rb_ret ?_
    | refine rb_eq ?_
    | refine rb_ne (by rfl) ?_
    | refine w_exit ?_
    | refine rt_exit ?_
    | refine w_region ?_
    | refine l_nil ?_
    | refine rt_n ?_
    | refine w_ret ?_
    | refine rt_ret ?_
    | refine w_skip ?_
    | refine w_cond_t rfl ?_
    | refine w_cond_f rfl ?_
    | refine w_cnd rfl (fun hc => ?_) (fun hc => ?_)
    | refine w_cd rfl (fun hc => ?_) (fun hc => ?_)
    | refine w_cn rfl (fun hc => ?_) (fun hc => ?_)
    | refine w_cond rfl (fun hc => ?_) (fun hc => ?_)
    | (refine l_o ?_; first | refine l_op (hk := ?_) | (refine l_g ?_; first | refine l_y rfl rfl rfl ?_ | refine l_n rfl rfl rfl rfl (hk := ?_) | refine l_n' rfl rfl rfl (hk := ?_) | refine l_spnd rfl rfl rfl (h1 := fun hc => ?_) (h2 := fun hc => ?_) | refine l_spd rfl rfl rfl (h1 := fun hc => ?_) (h2 := fun hc => ?_) | refine l_spn rfl rfl rfl (h1 := fun hc => ?_) (h2 := fun hc => ?_) | refine l_sp rfl rfl rfl (h1 := fun hc => ?_) (h2 := fun hc => ?_)))
  · refine en_one (hf := Try.results89) (h := ?_); simp only [lget]; first | refine congrArg RVb ?_ | refine congrArg RVi ?_ | skip
    grind [tgtOk]
  have hn := hc; clear hc
  refine w_loopm (ι := Nat × Int) (fun k => [(13, RVi k.1), (5, RVi k.2)]) (fun _ => []) (fun k => k.1 ≤ l.length ∧ goodT n k.2 (l.drop k.1) = goodT n (-1) l) (fun k => l.length - k.1) (0, -1) (h0 := ?_) (hs := ?_) (round := ?_)
  · simp
  · refine le_eq (by (repeat' first | exact .nil | refine .keep ?_ | refine .any ?_); first | done | fail) rfl rfl
  · intro ⟨k, p⟩ ⟨hk, hg⟩
    dsimp only at hk hg ⊢
    repeat' first
      | refine w_seq ?_
      | refine w_block ?_
      | refine rb_n ?_
      | refine rb_ret ?_
      | refine rb_eq ?_
      | refine rb_ne (by rfl) ?_
      | refine w_exit ?_
      | refine rt_exit ?_
      | refine w_region ?_
      | refine l_nil ?_
      | refine rt_n ?_
      | refine w_ret ?_
      | refine rt_ret ?_
      | refine w_skip ?_
      | refine w_cond_t rfl ?_
      | refine w_cond_f rfl ?_
      | refine w_cnd rfl (fun hc => ?_) (fun hc => ?_)
      | refine w_cd rfl (fun hc => ?_) (fun hc => ?_)
      | refine w_cn rfl (fun hc => ?_) (fun hc => ?_)
      | refine w_cond rfl (fun hc => ?_) (fun hc => ?_)
      | (refine l_o ?_; first | refine l_op (hk := ?_) | (refine l_g ?_; first | refine l_y rfl rfl rfl ?_ | refine l_n rfl rfl rfl rfl (hk := ?_) | refine l_n' rfl rfl rfl (hk := ?_) | refine l_spnd rfl rfl rfl (h1 := fun hc => ?_) (h2 := fun hc => ?_) | refine l_spd rfl rfl rfl (h1 := fun hc => ?_) (h2 := fun hc => ?_) | refine l_spn rfl rfl rfl (h1 := fun hc => ?_) (h2 := fun hc => ?_) | refine l_sp rfl rfl rfl (h1 := fun hc => ?_) (h2 := fun hc => ?_)))
    · refine en_one (hf := Try.results89) (h := ?_); simp only [lget]; first | refine congrArg RVb ?_ | refine congrArg RVi ?_ | skip
      grind [tgtOk, goodT, dc]
    · refine en_one (hf := Try.results89) (h := ?_); simp only [lget]; first | refine congrArg RVb ?_ | refine congrArg RVi ?_ | skip
      grind [tgtOk, goodT, dc]
    · refine rn_mk (k + 1, l[k]) ?_ (by first | omega | (dsimp only; omega)) (le_eq (by (repeat' first | exact .nil | refine .keep ?_ | refine .any ?_); first | done | fail) rfl rfl)
      grind [tgtOk, goodT, dc]
    · refine en_one (hf := Try.results89) (h := ?_); simp only [lget]; first | refine congrArg RVb ?_ | refine congrArg RVi ?_ | skip
      grind [tgtOk, goodT, dn]
/-- A form: nodes with their options' places. -/
abbrev NdI := List Int × List Int
abbrev RFm (F : List NdI) : RV := .agg [.sh (F.map RNdI)]
def ndN (F : List NdI) : List Nd := F.map fun n => (n.1.map Int.toNat, n.2.map Int.toNat)
/-- Nodes whose options rise and stand ahead of them, not too many. -/
def okFrom : Nat → List NdI → Bool
  | _, [] => true
  | k, n :: ns => if tgtOk k n.1 = false ∨ tgtOk k n.2 = false then false else okFrom (k + 1) ns
def goodF (F : List NdI) : Bool := if F.length < 1 ∨ 120 < F.length then false else if okFrom 0 F = false then false else decide (laid (ndN F) = ndN F)
theorem okFrom_at : ∀ {F : List NdI} {k : Nat}, okFrom k F = true → ∀ i (h : i < F.length), tgtOk ((k + i : Nat) : Int) F[i].1 = true ∧ tgtOk ((k + i : Nat) : Int) F[i].2 = true
  | n :: ns, k, h, 0, _ => by
    rw [okFrom] at h
    split at h
    · cases h
    · rename_i hc
      simp only [not_or, Bool.not_eq_false] at hc
      exact hc
  | n :: ns, k, h, i + 1, hi => by
    rw [okFrom] at h
    split at h
    · cases h
    · have := okFrom_at h i (by simpa using hi)
      rw [show k + 1 + i = k + (i + 1) by omega] at this
      exact this
theorem goodT_sn {n : Int} : ∀ (l : List Int) (p : Int), -1 ≤ p → goodT n p l = true → (∀ x ∈ l, 0 ≤ x ∧ x < n ∧ p < x) ∧ SN (l.map Int.toNat)
  | [], _, _, _ => by simp
  | x :: xs, p, hp, h => by
    rw [goodT] at h
    split at h
    · cases h
    · rename_i hc
      obtain ⟨h1, h2⟩ := goodT_sn xs x (by omega) h
      refine ⟨fun y hy => ?_, ?_⟩
      · rcases List.mem_cons.1 hy with rfl | hy
        · omega
        · have := h1 y hy; omega
      · rw [List.map_cons, SN, List.pairwise_cons]
        refine ⟨fun y hy => ?_, h2⟩
        obtain ⟨z, hz, rfl⟩ := List.mem_map.1 hy
        have := h1 z hz; omega
theorem tgtOk_sn {n : Nat} {l : List Int} (h : tgtOk n l = true) : l.length ≤ 24 ∧ (∀ x ∈ l, 0 ≤ x) ∧ SN (l.map Int.toNat) ∧ ∀ x ∈ l.map Int.toNat, x < n := by
  unfold tgtOk at h
  split at h
  · cases h
  · obtain ⟨h1, h2⟩ := goodT_sn l (-1) (by omega) h
    refine ⟨by omega, fun x hx => (h1 x hx).1, h2, fun x hx => ?_⟩
    obtain ⟨z, hz, rfl⟩ := List.mem_map.1 hx
    have := h1 z hz; omega
theorem ndN_len (F : List NdI) : (ndN F).length = F.length := List.length_map _
theorem nd_ndN {F : List NdI} {k : Nat} (h : k < F.length) : nd (ndN F) k = (F[k].1.map Int.toNat, F[k].2.map Int.toNat) := by
  unfold nd; rw [gdp (by rw [ndN_len]; exact h)]; simp [ndN]
theorem nd_out {f : List Nd} {k : Nat} (h : f.length ≤ k) : nd f k = ([], []) := gdp_out h
structure OkN (F : List NdI) : Prop where
  ok : OkF (ndN F)
  eq : F.map RNdI = (ndN F).map RNd
  l24 : ∀ k, (nd (ndN F) k).1.length ≤ 24 ∧ (nd (ndN F) k).2.length ≤ 24
theorem okN {F : List NdI} (h : okFrom 0 F = true) : OkN F := by
  have ha := fun i hi => okFrom_at h i hi
  refine ⟨fun k => ?_, ?_, fun k => ?_⟩
  · rcases Nat.lt_or_ge k F.length with hk | hk
    · obtain ⟨h1, h2⟩ := ha k hk
      rw [Nat.zero_add] at h1 h2
      rw [nd_ndN hk]
      exact ⟨(tgtOk_sn h1).2.2, (tgtOk_sn h2).2.2⟩
    · rw [nd_out (by rw [ndN_len]; exact hk)]; simp
  · refine List.ext_getElem (by simp [ndN]) fun i h1 h2 => ?_
    have hi : i < F.length := by simpa using h1
    obtain ⟨g1, g2⟩ := ha i hi
    rw [Nat.zero_add] at g1 g2
    have key : ∀ l : List Int, (∀ x ∈ l, 0 ≤ x) → RIs l = RNs (l.map Int.toNat) := fun l hl => by
      show RV.sh _ = RV.sh _
      rw [List.map_map]
      refine congrArg RV.sh (List.map_congr_left fun x hx => ?_)
      show RVi x = RVi ((x.toNat : Nat) : Int)
      rw [Int.toNat_of_nonneg (hl x hx)]
    simp only [List.getElem_map, ndN]
    show RV.agg [RIs F[i].1, RIs F[i].2] = RV.agg [RNs _, RNs _]
    rw [key _ (tgtOk_sn g1).2.1, key _ (tgtOk_sn g2).2.1]
  · rcases Nat.lt_or_ge k F.length with hk | hk
    · obtain ⟨h1, h2⟩ := ha k hk
      rw [Nat.zero_add] at h1 h2
      rw [nd_ndN hk]
      simp only [List.length_map]
      exact ⟨(tgtOk_sn h1).1, (tgtOk_sn h2).1⟩
    · rw [nd_out (by rw [ndN_len]; exact hk)]; simp
theorem cmpN_lt (x y : Nat) : cmpN x y < 0 ↔ x < y := by unfold cmpN; split <;> (try split) <;> omega
theorem cmpN_zero (x y : Nat) : cmpN x y = 0 ↔ x = y := by unfold cmpN; split <;> (try split) <;> omega
/-- Ahead by birthday, then by options. -/
def ltA (f : List Nd) (i : Nat) : Prop := (bnF f).getD i 0 < (bnF f).getD (i + 1) 0 ∨ ((bnF f).getD i 0 = (bnF f).getD (i + 1) 0 ∧ ahd (nd f i) (nd f (i + 1)) = true)
theorem ltA_iff (f : List Nd) (i : Nat) : fstNZ [cmpN ((bnF f).getD i 0) ((bnF f).getD (i + 1) 0), cmpL (nd f i).1 (nd f (i + 1)).1, cmpL (nd f i).2 (nd f (i + 1)).2] < 0 ↔ ltA f i := by
  unfold ltA
  have h1 := cmpN_lt ((bnF f).getD i 0) ((bnF f).getD (i + 1) 0)
  have h2 := cmpN_zero ((bnF f).getD i 0) ((bnF f).getD (i + 1) 0)
  have h3 := cmpL_ge (nd f i).1 (nd f (i + 1)).1
  have h4 := cmpL_zero (nd f i).1 (nd f (i + 1)).1
  have h5 := cmpL_ge (nd f i).2 (nd f (i + 1)).2
  simp only [fstNZ]
  by_cases e1 : cmpN ((bnF f).getD i 0) ((bnF f).getD (i + 1) 0) = 0
  · rw [if_neg (by simpa using e1)]
    have e1' := h2.1 e1
    by_cases e2 : cmpL (nd f i).1 (nd f (i + 1)).1 = 0
    · have e2' := h4.1 e2
      rw [if_neg (by simpa using e2)]
      have : ahd (nd f i) (nd f (i + 1)) = ltL (nd f i).2 (nd f (i + 1)).2 := by rw [ahd, if_pos e2']
      rw [this, ← h5]
      by_cases e3 : cmpL (nd f i).2 (nd f (i + 1)).2 = 0
      · rw [if_neg (by simpa using e3)]; omega
      · rw [if_pos e3]; omega
    · rw [if_pos e2]
      have : ahd (nd f i) (nd f (i + 1)) = ltL (nd f i).1 (nd f (i + 1)).1 := by rw [ahd, if_neg (fun h => e2 (h4.2 h))]
      rw [this, ← h3]; omega
  · rw [if_pos e1]
    have : ¬ (bnF f).getD i 0 = (bnF f).getD (i + 1) 0 := fun h => e1 (h2.2 h)
    omega
/-- In order, all reached: what the program asks. -/
theorem goodF_iff {F : List NdI} (h1 : ¬ (F.length < 1 ∨ 120 < F.length)) (h2 : okFrom 0 F = true) : goodF F = true ↔ (∀ i, i + 1 < F.length → ltA (ndN F) i) ∧ false ∉ usdF (ndN F) (F.length - 1) := by
  unfold goodF
  rw [if_neg h1, if_neg (by rw [h2]; simp), decide_eq_true_eq, laid_iff (okN h2).ok (by rw [ndN_len]; omega), ndN_len]
  constructor
  · rintro ⟨a, b⟩
    refine ⟨fun i hi => a i (i + 1) (by omega) (by rw [ndN_len]; exact hi), fun hf => ?_⟩
    obtain ⟨k, hk, e⟩ := List.getElem_of_mem hf
    have := b k (by rw [usdF_len] at hk; omega)
    rw [gdp hk, e] at this; cases this
  · rintro ⟨a, b⟩
    refine ⟨srt_adj fun i hi => a i (by rw [ndN_len] at hi; exact hi), fun k hk => ?_⟩
    have hl : k < (usdF (ndN F) (F.length - 1)).length := by rw [usdF_len]; omega
    rw [gdp hl]
    cases hv : (usdF (ndN F) (F.length - 1))[k] with
    | true => rfl
    | false => exact absurd (hv ▸ List.getElem_mem hl) b
theorem okFrom_drop {F : List NdI} {k : Nat} (h : k < F.length) : okFrom k (F.drop k) = if tgtOk k F[k].1 = false ∨ tgtOk k F[k].2 = false then false else okFrom (k + 1) (F.drop (k + 1)) := by
  rw [List.drop_eq_getElem_cons h, okFrom]
end Go.Proofs.Ytdignmbeiohhiaa
