/- A solved loop: the program's solvedLoop; the reference's helpers on places. For all loops. -/
import Derived.Test.YtoekdkoadienmaaNewArena
namespace Go.Proofs.Ytoekdkoadienmaa
open Eng
attribute [local irreducible] OpS OpG FC FCr Rel Fl Ef DR
set_option linter.unusedSimpArgs false
set_option maxHeartbeats 0
set_option maxRecDepth 100000

/-- A loop's lists as whole numbers without sign. -/
def toN (L : List (List Int)) : List (List Nat) := L.map fun l => l.map Int.toNat
theorem toN_len (L) : (toN L).length = L.length := by simp [toN]
theorem goodT_mem {n : Int} (l : List Int) : ∀ p, -1 ≤ p → goodT n p l = true → ∀ x ∈ l, 0 ≤ x ∧ x < n := by
  induction l with
  | nil => intro p _ _ x hx; cases hx
  | cons y ys ih =>
    intro p hp h x hx
    simp only [goodT] at h
    split at h
    · cases h
    · rename_i hh
      have := ih y (by omega) h x
      rcases List.mem_cons.1 hx with rfl | hx
      · omega
      · exact this hx
theorem tgtOk_mem {n : Int} {l : List Int} (h : tgtOk n l = true) : ∀ x ∈ l, 0 ≤ x ∧ x < n := by
  unfold tgtOk at h
  split at h
  · cases h
  · exact goodT_mem l (-1) (by omega) h
theorem RIss_toN {L : List (List Int)} (h : ∀ r ∈ L, ∀ x ∈ r, 0 ≤ x) : RIss L = RNss (toN L) := by
  show RV.sh (L.map RIs) = RV.sh ((L.map fun l => l.map Int.toNat).map RNs)
  rw [List.map_map]
  refine congrArg RV.sh (List.map_congr_left fun r hr => ?_)
  show RV.sh (r.map RVi) = RV.sh ((r.map Int.toNat).map RVn)
  rw [List.map_map]
  refine congrArg RV.sh (List.map_congr_left fun x hx => ?_)
  have := h r hr x hx
  show RVi x = RVi (x.toNat : Int)
  rw [Int.toNat_of_nonneg this]
theorem toN_mem {L : List (List Int)} {l} (h : l ∈ toN L) : ∃ r ∈ L, l = r.map Int.toNat := by
  simp only [toN, List.mem_map] at h
  obtain ⟨r, h1, h2⟩ := h
  exact ⟨r, h1, h2.symm⟩
structure GoodN (L R : List (List Int)) : Prop where
  inside : Inside (toN L) (toN R)
  len1 : 1 ≤ L.length
  len : L.length ≤ 36
  lenR : R.length = L.length
  eL : RIss L = RNss (toN L)
  eR : RIss R = RNss (toN R)
  lL : ∀ l ∈ toN L, l.length ≤ 24
  lR : ∀ l ∈ toN R, l.length ≤ 24
theorem goodN {L R : List (List Int)} (h : goodLp L R = true) : GoodN L R := by
  obtain ⟨h1, h2, h3, h4, h5⟩ := goodLp_small h
  refine ⟨⟨by simp [toN_len, h3], ?_, ?_⟩, h1, h2, h3, RIss_toN fun r hr x hx => (tgtOk_mem (h4 r hr) x hx).1, RIss_toN fun r hr x hx => (tgtOk_mem (h5 r hr) x hx).1, ?_, ?_⟩
  · intro l hl k hk
    obtain ⟨r, hr, rfl⟩ := toN_mem hl
    obtain ⟨x, hx, rfl⟩ := List.mem_map.1 hk
    have := tgtOk_mem (h4 r hr) x hx
    rw [toN_len]; omega
  · intro l hl k hk
    obtain ⟨r, hr, rfl⟩ := toN_mem hl
    obtain ⟨x, hx, rfl⟩ := List.mem_map.1 hk
    have := tgtOk_mem (h5 r hr) x hx
    rw [toN_len]; omega
  · intro l hl
    obtain ⟨r, hr, rfl⟩ := toN_mem hl
    simpa using tgtOk_len (h4 r hr)
  · intro l hl
    obtain ⟨r, hr, rfl⟩ := toN_mem hl
    simpa using tgtOk_len (h5 r hr)

/-- The graph of a loop, its results, the state of a place. -/
def nxtG (L R : List (List Int)) : List (List Nat) := nxtOf (toN L) (toN R)
def finG (L R : List (List Int)) : List (Int × Int) := fin (nxtG L R) (2 * L.length)
def stN (a : Nat) (left : Bool) : Nat := if left then 2 * a else 2 * a + 1
def okAt (L R : List (List Int)) (a : Int) : Bool := goodLp L R && decide (0 ≤ a) && decide (a < L.length)
theorem nxtG_len {L R} : (nxtG L R).length = 2 * L.length := by rw [nxtG, nxtOf, nxtTo_len, toN_len]
theorem finG_len {L R} : (finG L R).length = 2 * L.length := rounds_len _ _ _
theorem newArenaG {L R} (h : goodLp L R = true) : FCr Try.prog 57 [RIss L, RIss R] (.agg [ONss (nxtG L R), .ow 2 ((finG L R).map RR)]) := by
  have g := goodN h
  have hN := newArena_ok (toN L) (toN R) g.inside (by rw [toN_len]; have := g.len; omega) (fun l hl => by have := g.lL l hl; omega) (fun l hl => by have := g.lR l hl; omega)
  rw [← g.eL, ← g.eR, toN_len] at hN
  exact hN

theorem stateOf_ok (a : Nat) (left : Bool) (h : a ≤ 1099511627776) : FCr Try.prog 53 [RVn a, RVb left] (RVn (stN a left)) := by
  refine (fcr_in Try.func53 rfl (by simp only [Try.ntmps53, anys, List.length_cons, List.length_nil, Nat.reduceAdd, Nat.reduceSub, List.replicate_succ, List.replicate_zero, List.cons_append, List.nil_append] <;> rfl) ?_)
  repeat' first
    | refine w_seq ?_
    | refine w_region ?_
    | refine l_nil ?_
    | refine rt_n ?_
    | refine w_ret ?_
    | refine rt_ret ?_
    | refine w_skip ?_
    | refine w_cond_t rfl ?_
    | refine w_cond_f rfl ?_
    | refine w_cnd rfl (fun hc => ?_) (fun hc => ?_)
    | refine w_cd rfl (fun hc => ?_) (fun hc => ?_)
    | refine w_cn rfl (fun hc => ?_) (fun hc => ?_)
    | refine w_cond rfl (fun hc => ?_) (fun hc => ?_)
    | (refine l_o ?_; refine l_op rfl (by first | (apply k_mul; first | exact ops_muln (a := 2) rfl rfl (by omega) | fail) | (apply k_add; first | exact ops_addn (b := 1) rfl rfl (by omega) | exact ops_inc rfl (by omega) | exact ops_add rfl rfl (by omega) (by omega) | exact ops_cat rfl rfl (by omega) | fail) | exact ops_move | exact ops_assign | fail) (by simp only [nz, nf, nl, nb, nr, reduceIte, Nat.reduceEqDiff, Nat.reduceAdd]; rfl) ?_)
  all_goals
    refine en_one (by first | exact .inl rfl | exact .inr rfl) Try.results53 rfl rfl ?_; simp only [lget]; first | refine congrArg RVb ?_ | refine congrArg RVi ?_ | skip
    simp [stN, *]
theorem l25Side_ok (a : Nat) (left : Bool) (h : a ≤ 1099511627776) : FCr Try.prog 51 [RVn a, RVb left] (RVn (stN a left)) := by
  refine (fcr_in Try.func51 rfl (by simp only [Try.ntmps51, anys, List.length_cons, List.length_nil, Nat.reduceAdd, Nat.reduceSub, List.replicate_succ, List.replicate_zero, List.cons_append, List.nil_append] <;> rfl) ?_)
  repeat' first
    | refine w_seq ?_
    | refine w_region ?_
    | refine l_nil ?_
    | refine rt_n ?_
    | refine w_ret ?_
    | refine rt_ret ?_
    | refine w_skip ?_
    | refine w_cond_t rfl ?_
    | refine w_cond_f rfl ?_
    | refine w_cnd rfl (fun hc => ?_) (fun hc => ?_)
    | refine w_cd rfl (fun hc => ?_) (fun hc => ?_)
    | refine w_cn rfl (fun hc => ?_) (fun hc => ?_)
    | refine w_cond rfl (fun hc => ?_) (fun hc => ?_)
    | (refine l_o ?_; refine l_op rfl (by first | (apply k_mul; first | exact ops_muln (a := 2) rfl rfl (by omega) | fail) | (apply k_add; first | exact ops_addn (b := 1) rfl rfl (by omega) | exact ops_inc rfl (by omega) | exact ops_add rfl rfl (by omega) (by omega) | exact ops_cat rfl rfl (by omega) | fail) | exact ops_move | exact ops_assign | fail) (by simp only [nz, nf, nl, nb, nr, reduceIte, Nat.reduceEqDiff, Nat.reduceAdd]; rfl) ?_)
  all_goals
    refine en_one (by first | exact .inl rfl | exact .inr rfl) Try.results51 rfl rfl ?_; simp only [lget]; first | refine congrArg RVb ?_ | refine congrArg RVi ?_ | skip
    simp [stN, *]
theorem l25At_ok (L R : List (List Int)) (a : Int) : FCr Try.prog 50 [RLp L R, RVi a] (RVb (okAt L R a)) := by
  cases hg : goodLp L R with
  | false =>
    refine (fcr_in Try.func50 rfl (by simp only [Try.ntmps50, anys, List.length_cons, List.length_nil, Nat.reduceAdd, Nat.reduceSub, List.replicate_succ, List.replicate_zero, List.cons_append, List.nil_append] <;> rfl) ?_)
    repeat' first
      | refine w_seq ?_
      | refine w_region ?_
      | refine l_nil ?_
      | refine rt_n ?_
      | refine w_ret ?_
      | refine rt_ret ?_
      | refine w_skip ?_
      | (refine l_o ?_; first | refine l_op rfl (by first | exact ops_move | exact ops_assign | (apply k_sub; first | exact ops_sub rfl rfl (by omega) (by omega) | fail) | (apply k_pick; first | exact ops_pick_t rfl | exact ops_pick_f rfl | exact ops_pick_b rfl rfl rfl | exact ops_pick_i rfl rfl rfl | fail) | (apply k_len; first | exact ops_len_sh rfl (by kernel_rfl) | exact ops_len_ref rfl (by kernel_rfl) | exact ops_len_nil rfl (by kernel_rfl) | exact ops_lens rfl (by kernel_rfl) | fail) | (apply k_load; first | exact ops_load_psh rfl rfl (by decide +kernel) | exact ops_load_psha rfl (by decide +kernel) (by kernel_rfl) (by simp) | exact ops_load_map rfl rfl (by omega) rfl (by decide +kernel) | exact ops_load_mapa rfl rfl (by omega) rfl (by decide +kernel) (by kernel_rfl) | exact ops_load_mapj rfl rfl (by omega) rfl rfl (by decide +kernel) | exact ops_load_ptr rfl rfl rfl rfl rfl (by decide +kernel) | exact ops_load_ptra rfl rfl rfl rfl (by decide +kernel) (by kernel_rfl) | fail) | (apply k_fieldAddr; first | exact ops_fld_psh (off := 0) rfl (by decide +kernel) rfl | exact ops_fld_psh (off := 1) rfl (by decide +kernel) rfl | exact ops_fld_psh (off := 2) rfl (by decide +kernel) rfl | exact ops_fld_psh (off := 3) rfl (by decide +kernel) rfl | exact ops_fld_ptr (off := 0) rfl (by decide +kernel) rfl (by first | (simp; done) | (simp; omega) | fail) | exact ops_fld_ptr (off := 1) rfl (by decide +kernel) rfl (by first | (simp; done) | (simp; omega) | fail) | exact ops_fld_ptr (off := 2) rfl (by decide +kernel) rfl (by first | (simp; done) | (simp; omega) | fail) | exact ops_fld_ptr (off := 3) rfl (by decide +kernel) rfl (by first | (simp; done) | (simp; omega) | fail) | exact ops_fld_map (off := 0) rfl (by decide +kernel) rfl (by omega) | exact ops_fld_map (off := 1) rfl (by decide +kernel) rfl (by omega) | exact ops_fld_map (off := 2) rfl (by decide +kernel) rfl (by omega) | exact ops_fld_map (off := 3) rfl (by decide +kernel) rfl (by omega) | fail) | (apply k_box; first | exact ops_box (r := _) rfl rfl (by simp [nm]) (by simp [nm]) (by simp [nm]) | exact ops_boxa rfl (by simp) (by simp [nm]) (by simp [nm]) (by simp [nm]) | fail) | (apply k_callf; first | exact ops_callf rfl rfl (by kernel_rfl) (hg ▸ specGood_ok L R) | fail) | fail) (by simp only [nz, nf, nl, nb, nr, reduceIte, Nat.reduceEqDiff, Nat.reduceAdd]; rfl) ?_ | (refine l_g ?_; first | refine l_y rfl rfl rfl ?_ | refine l_n rfl rfl rfl rfl (by simp only [nz, nf, nl, nb, nr, reduceIte, Nat.reduceEqDiff, Nat.reduceAdd]; rfl) ?_ | refine l_n' rfl rfl rfl (by simp only [nz, nf, nl, nb, nr, reduceIte, Nat.reduceEqDiff, Nat.reduceAdd]; rfl) ?_ | refine l_spnd rfl rfl rfl (by simp only [nz, nf, nl, nb, nr, reduceIte, Nat.reduceEqDiff, Nat.reduceAdd]; rfl) (by simp only [nz, nf, nl, nb, nr, reduceIte, Nat.reduceEqDiff, Nat.reduceAdd]; rfl) (fun hc => ?_) (fun hc => ?_) | refine l_spd rfl rfl rfl (by simp only [nz, nf, nl, nb, nr, reduceIte, Nat.reduceEqDiff, Nat.reduceAdd]; rfl) (by simp only [nz, nf, nl, nb, nr, reduceIte, Nat.reduceEqDiff, Nat.reduceAdd]; rfl) (fun hc => ?_) (fun hc => ?_) | refine l_spn rfl rfl rfl (by simp only [nz, nf, nl, nb, nr, reduceIte, Nat.reduceEqDiff, Nat.reduceAdd]; rfl) (by simp only [nz, nf, nl, nb, nr, reduceIte, Nat.reduceEqDiff, Nat.reduceAdd]; rfl) (fun hc => ?_) (fun hc => ?_) | refine l_sp rfl rfl rfl (by simp only [nz, nf, nl, nb, nr, reduceIte, Nat.reduceEqDiff, Nat.reduceAdd]; rfl) (by simp only [nz, nf, nl, nb, nr, reduceIte, Nat.reduceEqDiff, Nat.reduceAdd]; rfl) (fun hc => ?_) (fun hc => ?_)))
    refine en_one (by first | exact .inl rfl | exact .inr rfl) Try.results50 rfl rfl ?_; simp only [lget]; first | refine congrArg RVb ?_ | refine congrArg RVi ?_ | skip
    simp [okAt, hg]
  | true =>
    have g := goodN hg
    have g1 := g.len
    refine (fcr_in Try.func50 rfl (by simp only [Try.ntmps50, anys, List.length_cons, List.length_nil, Nat.reduceAdd, Nat.reduceSub, List.replicate_succ, List.replicate_zero, List.cons_append, List.nil_append] <;> rfl) ?_)
    repeat' first
      | refine w_seq ?_
      | refine w_region ?_
      | refine l_nil ?_
      | refine rt_n ?_
      | refine w_ret ?_
      | refine rt_ret ?_
      | refine w_skip ?_
      | (refine l_o ?_; first | refine l_op rfl (by first | exact ops_move | exact ops_assign | (apply k_sub; first | exact ops_sub rfl rfl (by omega) (by omega) | fail) | (apply k_pick; first | exact ops_pick_t rfl | exact ops_pick_f rfl | exact ops_pick_b rfl rfl rfl | exact ops_pick_i rfl rfl rfl | fail) | (apply k_len; first | exact ops_len_sh rfl (by kernel_rfl) | exact ops_len_ref rfl (by kernel_rfl) | exact ops_len_nil rfl (by kernel_rfl) | exact ops_lens rfl (by kernel_rfl) | fail) | (apply k_load; first | exact ops_load_psh rfl rfl (by decide +kernel) | exact ops_load_psha rfl (by decide +kernel) (by kernel_rfl) (by simp) | exact ops_load_map rfl rfl (by omega) rfl (by decide +kernel) | exact ops_load_mapa rfl rfl (by omega) rfl (by decide +kernel) (by kernel_rfl) | exact ops_load_mapj rfl rfl (by omega) rfl rfl (by decide +kernel) | exact ops_load_ptr rfl rfl rfl rfl rfl (by decide +kernel) | exact ops_load_ptra rfl rfl rfl rfl (by decide +kernel) (by kernel_rfl) | fail) | (apply k_fieldAddr; first | exact ops_fld_psh (off := 0) rfl (by decide +kernel) rfl | exact ops_fld_psh (off := 1) rfl (by decide +kernel) rfl | exact ops_fld_psh (off := 2) rfl (by decide +kernel) rfl | exact ops_fld_psh (off := 3) rfl (by decide +kernel) rfl | exact ops_fld_ptr (off := 0) rfl (by decide +kernel) rfl (by first | (simp; done) | (simp; omega) | fail) | exact ops_fld_ptr (off := 1) rfl (by decide +kernel) rfl (by first | (simp; done) | (simp; omega) | fail) | exact ops_fld_ptr (off := 2) rfl (by decide +kernel) rfl (by first | (simp; done) | (simp; omega) | fail) | exact ops_fld_ptr (off := 3) rfl (by decide +kernel) rfl (by first | (simp; done) | (simp; omega) | fail) | exact ops_fld_map (off := 0) rfl (by decide +kernel) rfl (by omega) | exact ops_fld_map (off := 1) rfl (by decide +kernel) rfl (by omega) | exact ops_fld_map (off := 2) rfl (by decide +kernel) rfl (by omega) | exact ops_fld_map (off := 3) rfl (by decide +kernel) rfl (by omega) | fail) | (apply k_box; first | exact ops_box (r := _) rfl rfl (by simp [nm]) (by simp [nm]) (by simp [nm]) | exact ops_boxa rfl (by simp) (by simp [nm]) (by simp [nm]) (by simp [nm]) | fail) | (apply k_callf; first | exact ops_callf rfl rfl (by kernel_rfl) (hg ▸ specGood_ok L R) | exact ops_callf rfl rfl (by kernel_rfl) (l1In_ok _ _ _) | fail) | fail) (by simp only [nz, nf, nl, nb, nr, reduceIte, Nat.reduceEqDiff, Nat.reduceAdd]; rfl) ?_ | (refine l_g ?_; first | refine l_y rfl rfl rfl ?_ | refine l_n rfl rfl rfl rfl (by simp only [nz, nf, nl, nb, nr, reduceIte, Nat.reduceEqDiff, Nat.reduceAdd]; rfl) ?_ | refine l_n' rfl rfl rfl (by simp only [nz, nf, nl, nb, nr, reduceIte, Nat.reduceEqDiff, Nat.reduceAdd]; rfl) ?_ | refine l_spnd rfl rfl rfl (by simp only [nz, nf, nl, nb, nr, reduceIte, Nat.reduceEqDiff, Nat.reduceAdd]; rfl) (by simp only [nz, nf, nl, nb, nr, reduceIte, Nat.reduceEqDiff, Nat.reduceAdd]; rfl) (fun hc => ?_) (fun hc => ?_) | refine l_spd rfl rfl rfl (by simp only [nz, nf, nl, nb, nr, reduceIte, Nat.reduceEqDiff, Nat.reduceAdd]; rfl) (by simp only [nz, nf, nl, nb, nr, reduceIte, Nat.reduceEqDiff, Nat.reduceAdd]; rfl) (fun hc => ?_) (fun hc => ?_) | refine l_spn rfl rfl rfl (by simp only [nz, nf, nl, nb, nr, reduceIte, Nat.reduceEqDiff, Nat.reduceAdd]; rfl) (by simp only [nz, nf, nl, nb, nr, reduceIte, Nat.reduceEqDiff, Nat.reduceAdd]; rfl) (fun hc => ?_) (fun hc => ?_) | refine l_sp rfl rfl rfl (by simp only [nz, nf, nl, nb, nr, reduceIte, Nat.reduceEqDiff, Nat.reduceAdd]; rfl) (by simp only [nz, nf, nl, nb, nr, reduceIte, Nat.reduceEqDiff, Nat.reduceAdd]; rfl) (fun hc => ?_) (fun hc => ?_)))
    refine en_one (by first | exact .inl rfl | exact .inr rfl) Try.results50 rfl rfl ?_; simp only [lget]; first | refine congrArg RVb ?_ | refine congrArg RVi ?_ | skip
    have : (a ≤ (L.length : Int) - 1) ↔ a < L.length := by omega
    simp [okAt, hg, this]
theorem l25Told_ok (s : Int) (left : Bool) : FCr Try.prog 56 [RVi s, RVb left] (RVi (if s = 0 then 0 else if decide (s = 1) = left then 1 else 2)) := by
  refine (fcr_in Try.func56 rfl (by simp only [Try.ntmps56, anys, List.length_cons, List.length_nil, Nat.reduceAdd, Nat.reduceSub, List.replicate_succ, List.replicate_zero, List.cons_append, List.nil_append] <;> rfl) ?_)
  repeat' first
    | refine w_seq ?_
    | refine w_region ?_
    | refine l_nil ?_
    | refine rt_n ?_
    | refine w_ret ?_
    | refine rt_ret ?_
    | refine w_skip ?_
    | refine w_cond_t rfl ?_
    | refine w_cond_f rfl ?_
    | refine w_cnd rfl (fun hc => ?_) (fun hc => ?_)
    | refine w_cd rfl (fun hc => ?_) (fun hc => ?_)
    | refine w_cn rfl (fun hc => ?_) (fun hc => ?_)
    | refine w_cond rfl (fun hc => ?_) (fun hc => ?_)
    | (refine l_o ?_; first | refine l_eqnil rfl (by kernel_rfl) (by intro b; simp only [nz]; rfl) (fun b hb => ?_) | refine l_op rfl (by first | exact ops_move | exact ops_assign | (apply k_eql; first | exact ops_eqi rfl rfl | exact ops_eqs rfl rfl | exact ops_eqb rfl rfl (by kernel_rfl) | fail) | fail) (by simp only [nz, nf, nl, nb, nr, reduceIte, Nat.reduceEqDiff, Nat.reduceAdd]; rfl) ?_)
  all_goals
    refine en_one (by first | exact .inl rfl | exact .inr rfl) Try.results56 rfl rfl ?_; simp only [lget]; first | refine congrArg RVb ?_ | refine congrArg RVi ?_ | skip
    simp [*]
theorem l25Who_ok (L R : List (List Nat)) (a : Nat) (left : Bool) (h : a < L.length) (h2 : a < R.length) : FCr Try.prog 59 [.agg [RNss L, RNss R], RVn a, RVb left] (RNs (if left then L[a] else R[a])) := by
  cases left with
  | true =>
    refine (fcr_in Try.func59 rfl (by simp only [Try.ntmps59, anys, List.length_cons, List.length_nil, Nat.reduceAdd, Nat.reduceSub, List.replicate_succ, List.replicate_zero, List.cons_append, List.nil_append] <;> rfl) ?_)
    repeat' first
      | refine w_seq ?_
      | refine w_region ?_
      | refine l_nil ?_
      | refine rt_n ?_
      | refine w_ret ?_
      | refine rt_ret ?_
      | refine w_skip ?_
      | refine w_cond_t rfl ?_
      | refine w_cond_f rfl ?_
      | refine w_cnd rfl (fun hc => ?_) (fun hc => ?_)
      | refine w_cd rfl (fun hc => ?_) (fun hc => ?_)
      | refine w_cn rfl (fun hc => ?_) (fun hc => ?_)
      | refine w_cond rfl (fun hc => ?_) (fun hc => ?_)
      | (refine l_o ?_; refine l_op rfl (by first | exact ops_move | exact ops_assign | (apply k_load; first | exact ops_load_psh rfl rfl (by decide +kernel) | exact ops_load_psha rfl (by decide +kernel) (by kernel_rfl) (by simp) | exact ops_load_map rfl rfl (by omega) rfl (by decide +kernel) | exact ops_load_mapa rfl rfl (by omega) rfl (by decide +kernel) (by kernel_rfl) | exact ops_load_mapj rfl rfl (by omega) rfl rfl (by decide +kernel) | exact ops_load_ptr rfl rfl rfl rfl rfl (by decide +kernel) | exact ops_load_ptra rfl rfl rfl rfl (by decide +kernel) (by kernel_rfl) | fail) | (apply k_fieldAddr; first | exact ops_fld_psh (off := 0) rfl (by decide +kernel) rfl | exact ops_fld_psh (off := 1) rfl (by decide +kernel) rfl | exact ops_fld_psh (off := 2) rfl (by decide +kernel) rfl | exact ops_fld_psh (off := 3) rfl (by decide +kernel) rfl | exact ops_fld_ptr (off := 0) rfl (by decide +kernel) rfl (by first | (simp; done) | (simp; omega) | fail) | exact ops_fld_ptr (off := 1) rfl (by decide +kernel) rfl (by first | (simp; done) | (simp; omega) | fail) | exact ops_fld_ptr (off := 2) rfl (by decide +kernel) rfl (by first | (simp; done) | (simp; omega) | fail) | exact ops_fld_ptr (off := 3) rfl (by decide +kernel) rfl (by first | (simp; done) | (simp; omega) | fail) | exact ops_fld_map (off := 0) rfl (by decide +kernel) rfl (by omega) | exact ops_fld_map (off := 1) rfl (by decide +kernel) rfl (by omega) | exact ops_fld_map (off := 2) rfl (by decide +kernel) rfl (by omega) | exact ops_fld_map (off := 3) rfl (by decide +kernel) rfl (by omega) | fail) | (apply k_indexAddr; first | exact ops_idx_map rfl rfl (by omega) (by kernel_rfl) (by kernel_rfl) | exact ops_idx_refm rfl rfl (by omega) rfl (by omega) (by kernel_rfl) (by kernel_rfl) | exact ops_idx_mapI rfl rfl (by omega) (by omega) (by kernel_rfl) (by kernel_rfl) | exact ops_idx_refmI rfl rfl (by omega) (by omega) rfl (by omega) (by kernel_rfl) (by kernel_rfl) | exact ops_idx_ref rfl rfl (by omega) rfl (by simp) (by kernel_rfl) (by kernel_rfl) | fail) | (apply k_box; first | exact ops_box (r := _) rfl rfl (by simp [nm]) (by simp [nm]) (by simp [nm]) | exact ops_boxa rfl (by simp) (by simp [nm]) (by simp [nm]) (by simp [nm]) | fail) | fail) (by simp only [nz, nf, nl, nb, nr, reduceIte, Nat.reduceEqDiff, Nat.reduceAdd]; rfl) ?_)
    refine en_end (by first | exact .inl rfl | exact .inr rfl) Try.results59 (by decide) rfl (by kernel_rfl) rfl (by simp [ne, nm, lget] <;> omega) ?_; simp only [ne, nf, nl, nr, lget, reduceIte, Nat.reduceEqDiff]; first | rfl | refine congrArg RVb ?_ | refine congrArg RVi ?_ | skip
  | false =>
    refine (fcr_in Try.func59 rfl (by simp only [Try.ntmps59, anys, List.length_cons, List.length_nil, Nat.reduceAdd, Nat.reduceSub, List.replicate_succ, List.replicate_zero, List.cons_append, List.nil_append] <;> rfl) ?_)
    repeat' first
      | refine w_seq ?_
      | refine w_region ?_
      | refine l_nil ?_
      | refine rt_n ?_
      | refine w_ret ?_
      | refine rt_ret ?_
      | refine w_skip ?_
      | refine w_cond_t rfl ?_
      | refine w_cond_f rfl ?_
      | refine w_cnd rfl (fun hc => ?_) (fun hc => ?_)
      | refine w_cd rfl (fun hc => ?_) (fun hc => ?_)
      | refine w_cn rfl (fun hc => ?_) (fun hc => ?_)
      | refine w_cond rfl (fun hc => ?_) (fun hc => ?_)
      | (refine l_o ?_; refine l_op rfl (by first | exact ops_move | exact ops_assign | (apply k_load; first | exact ops_load_psh rfl rfl (by decide +kernel) | exact ops_load_psha rfl (by decide +kernel) (by kernel_rfl) (by simp) | exact ops_load_map rfl rfl (by omega) rfl (by decide +kernel) | exact ops_load_mapa rfl rfl (by omega) rfl (by decide +kernel) (by kernel_rfl) | exact ops_load_mapj rfl rfl (by omega) rfl rfl (by decide +kernel) | exact ops_load_ptr rfl rfl rfl rfl rfl (by decide +kernel) | exact ops_load_ptra rfl rfl rfl rfl (by decide +kernel) (by kernel_rfl) | fail) | (apply k_fieldAddr; first | exact ops_fld_psh (off := 0) rfl (by decide +kernel) rfl | exact ops_fld_psh (off := 1) rfl (by decide +kernel) rfl | exact ops_fld_psh (off := 2) rfl (by decide +kernel) rfl | exact ops_fld_psh (off := 3) rfl (by decide +kernel) rfl | exact ops_fld_ptr (off := 0) rfl (by decide +kernel) rfl (by first | (simp; done) | (simp; omega) | fail) | exact ops_fld_ptr (off := 1) rfl (by decide +kernel) rfl (by first | (simp; done) | (simp; omega) | fail) | exact ops_fld_ptr (off := 2) rfl (by decide +kernel) rfl (by first | (simp; done) | (simp; omega) | fail) | exact ops_fld_ptr (off := 3) rfl (by decide +kernel) rfl (by first | (simp; done) | (simp; omega) | fail) | exact ops_fld_map (off := 0) rfl (by decide +kernel) rfl (by omega) | exact ops_fld_map (off := 1) rfl (by decide +kernel) rfl (by omega) | exact ops_fld_map (off := 2) rfl (by decide +kernel) rfl (by omega) | exact ops_fld_map (off := 3) rfl (by decide +kernel) rfl (by omega) | fail) | (apply k_indexAddr; first | exact ops_idx_map rfl rfl (by omega) (by kernel_rfl) (by kernel_rfl) | exact ops_idx_refm rfl rfl (by omega) rfl (by omega) (by kernel_rfl) (by kernel_rfl) | exact ops_idx_mapI rfl rfl (by omega) (by omega) (by kernel_rfl) (by kernel_rfl) | exact ops_idx_refmI rfl rfl (by omega) (by omega) rfl (by omega) (by kernel_rfl) (by kernel_rfl) | exact ops_idx_ref rfl rfl (by omega) rfl (by simp) (by kernel_rfl) (by kernel_rfl) | fail) | (apply k_box; first | exact ops_box (r := _) rfl rfl (by simp [nm]) (by simp [nm]) (by simp [nm]) | exact ops_boxa rfl (by simp) (by simp [nm]) (by simp [nm]) (by simp [nm]) | fail) | fail) (by simp only [nz, nf, nl, nb, nr, reduceIte, Nat.reduceEqDiff, Nat.reduceAdd]; rfl) ?_)
    refine en_end (by first | exact .inl rfl | exact .inr rfl) Try.results59 (by decide) rfl (by kernel_rfl) rfl (by simp [ne, nm, lget] <;> omega) ?_; simp only [ne, nf, nl, nr, lget, reduceIte, Nat.reduceEqDiff]; first | rfl | refine congrArg RVb ?_ | refine congrArg RVi ?_ | skip

/-- What solvedLoop gives: nothing where the place isn't one. -/
def slvA (L R : List (List Int)) (a : Int) : List (List Nat) := if okAt L R a then nxtG L R else []
def slvB (L R : List (List Int)) (a : Int) : List (Int × Int) := if okAt L R a then finG L R else []
def slvS (L R : List (List Int)) (a : Int) (left : Bool) : Nat := if okAt L R a then stN a.toNat left else 0
theorem solved_ok (L R : List (List Int)) (a : Int) (left : Bool) : FCr Try.prog 55 [RLp L R, RVi a, RVb left] (.tup [.agg [ONss (slvA L R a), .ow 2 ((slvB L R a).map RR)], RVn (slvS L R a left), RVb (okAt L R a)]) := by
  refine fcr_lens fun hL => ?_
  simp only [lnk] at hL
  cases ho : okAt L R a with
  | false =>
    have h1 : slvA L R a = [] := by simp [slvA, ho]
    have h2 : slvB L R a = [] := by simp [slvB, ho]
    have h3 : slvS L R a left = 0 := by simp [slvS, ho]
    rw [h1, h2, h3]
    cases hg : goodLp L R with
    | false =>
      refine (fcr_in Try.func55 rfl (by simp only [Try.ntmps55, anys, List.length_cons, List.length_nil, Nat.reduceAdd, Nat.reduceSub, List.replicate_succ, List.replicate_zero, List.cons_append, List.nil_append] <;> rfl) ?_)
      repeat' first
        | refine w_seq ?_
        | refine w_region ?_
        | refine l_nil ?_
        | refine rt_n ?_
        | refine w_ret ?_
        | refine rt_ret ?_
        | refine w_skip ?_
        | refine w_cond_t rfl ?_
        | refine w_cond_f rfl ?_
        | refine w_cnd rfl (fun hc => ?_) (fun hc => ?_)
        | refine w_cd rfl (fun hc => ?_) (fun hc => ?_)
        | refine w_cn rfl (fun hc => ?_) (fun hc => ?_)
        | refine w_cond rfl (fun hc => ?_) (fun hc => ?_)
        | (refine l_o ?_; first | refine l_op rfl (by first | exact ops_move | exact ops_assign | (apply k_lss; first | exact ops_lss rfl rfl | exact ops_lts rfl rfl | fail) | (apply k_geq; first | exact ops_geq rfl rfl | exact ops_ges rfl rfl | fail) | (apply k_not; first | exact ops_not rfl | fail) | (apply k_pick; first | exact ops_pick_t rfl | exact ops_pick_f rfl | exact ops_pick_b rfl rfl rfl | exact ops_pick_i rfl rfl rfl | fail) | (apply k_len; first | exact ops_len_sh rfl (by kernel_rfl) | exact ops_len_ref rfl (by kernel_rfl) | exact ops_len_nil rfl (by kernel_rfl) | exact ops_lens rfl (by kernel_rfl) | fail) | (apply k_load; first | exact ops_load_psh rfl rfl (by decide +kernel) | exact ops_load_psha rfl (by decide +kernel) (by kernel_rfl) (by simp) | exact ops_load_map rfl rfl (by omega) rfl (by decide +kernel) | exact ops_load_mapa rfl rfl (by omega) rfl (by decide +kernel) (by kernel_rfl) | exact ops_load_mapj rfl rfl (by omega) rfl rfl (by decide +kernel) | exact ops_load_ptr rfl rfl rfl rfl rfl (by decide +kernel) | exact ops_load_ptra rfl rfl rfl rfl (by decide +kernel) (by kernel_rfl) | fail) | (apply k_fieldAddr; first | exact ops_fld_psh (off := 0) rfl (by decide +kernel) rfl | exact ops_fld_psh (off := 1) rfl (by decide +kernel) rfl | exact ops_fld_psh (off := 2) rfl (by decide +kernel) rfl | exact ops_fld_psh (off := 3) rfl (by decide +kernel) rfl | exact ops_fld_ptr (off := 0) rfl (by decide +kernel) rfl (by first | (simp; done) | (simp; omega) | fail) | exact ops_fld_ptr (off := 1) rfl (by decide +kernel) rfl (by first | (simp; done) | (simp; omega) | fail) | exact ops_fld_ptr (off := 2) rfl (by decide +kernel) rfl (by first | (simp; done) | (simp; omega) | fail) | exact ops_fld_ptr (off := 3) rfl (by decide +kernel) rfl (by first | (simp; done) | (simp; omega) | fail) | exact ops_fld_map (off := 0) rfl (by decide +kernel) rfl (by omega) | exact ops_fld_map (off := 1) rfl (by decide +kernel) rfl (by omega) | exact ops_fld_map (off := 2) rfl (by decide +kernel) rfl (by omega) | exact ops_fld_map (off := 3) rfl (by decide +kernel) rfl (by omega) | fail) | (apply k_build; first | exact ops_build (zs := [_, _]) rfl (by kernel_rfl) rfl rfl rfl | exact ops_build (zs := [_]) rfl (by kernel_rfl) rfl rfl rfl | exact ops_build (zs := [_, _, _]) rfl (by kernel_rfl) rfl rfl rfl | exact ops_build (zs := [_, _, _, _]) rfl (by kernel_rfl) rfl rfl rfl | fail) | (apply k_box; first | exact ops_box (r := _) rfl rfl (by simp [nm]) (by simp [nm]) (by simp [nm]) | exact ops_boxa rfl (by simp) (by simp [nm]) (by simp [nm]) (by simp [nm]) | fail) | (apply k_alloc; first | exact ops_alloca (zs := _) rfl (by decide) rfl (by simp [nm]) (by simp [nm]) | exact ops_alloc rfl rfl (by simp [nm]) (by simp [nm]) | fail) | (apply k_store; first | exact ops_store_sealm rfl rfl rfl (by omega) rfl (by kernel_rfl) rfl (by simp) (by simp [nm]) (by decide) | exact ops_store_map rfl rfl rfl (by omega) rfl rfl (by kernel_rfl) | exact ops_store rfl rfl rfl rfl (by simp [RV.cellsL]) rfl (by kernel_rfl) | exact ops_storea rfl rfl rfl rfl rfl rfl (by kernel_rfl) | exact ops_storea_map rfl rfl rfl (by omega) rfl rfl (by kernel_rfl) | fail) | (apply k_callf; first | exact ops_callf rfl rfl (by kernel_rfl) (hg ▸ implGood_ok L R) | fail) | fail) (by simp only [nz, nf, nl, nb, nr, reduceIte, Nat.reduceEqDiff, Nat.reduceAdd]; rfl) ?_ | (refine l_g ?_; first | refine l_y rfl rfl rfl ?_ | refine l_n rfl rfl rfl rfl (by simp only [nz, nf, nl, nb, nr, reduceIte, Nat.reduceEqDiff, Nat.reduceAdd]; rfl) ?_ | refine l_n' rfl rfl rfl (by simp only [nz, nf, nl, nb, nr, reduceIte, Nat.reduceEqDiff, Nat.reduceAdd]; rfl) ?_ | refine l_spnd rfl rfl rfl (by simp only [nz, nf, nl, nb, nr, reduceIte, Nat.reduceEqDiff, Nat.reduceAdd]; rfl) (by simp only [nz, nf, nl, nb, nr, reduceIte, Nat.reduceEqDiff, Nat.reduceAdd]; rfl) (fun hc => ?_) (fun hc => ?_) | refine l_spd rfl rfl rfl (by simp only [nz, nf, nl, nb, nr, reduceIte, Nat.reduceEqDiff, Nat.reduceAdd]; rfl) (by simp only [nz, nf, nl, nb, nr, reduceIte, Nat.reduceEqDiff, Nat.reduceAdd]; rfl) (fun hc => ?_) (fun hc => ?_) | refine l_spn rfl rfl rfl (by simp only [nz, nf, nl, nb, nr, reduceIte, Nat.reduceEqDiff, Nat.reduceAdd]; rfl) (by simp only [nz, nf, nl, nb, nr, reduceIte, Nat.reduceEqDiff, Nat.reduceAdd]; rfl) (fun hc => ?_) (fun hc => ?_) | refine l_sp rfl rfl rfl (by simp only [nz, nf, nl, nb, nr, reduceIte, Nat.reduceEqDiff, Nat.reduceAdd]; rfl) (by simp only [nz, nf, nl, nb, nr, reduceIte, Nat.reduceEqDiff, Nat.reduceAdd]; rfl) (fun hc => ?_) (fun hc => ?_)))
      refine en_endn ([.agg [.ow 1 [], .ow 2 []], RVi 0, RVb false]) (by first | exact .inl rfl | exact .inr rfl) Try.results55 (by decide) rfl (by kernel_rfl) rfl (by simp [ne, nm, lget] <;> omega) (by simp only [ne, nf, nl, nr, lget, reduceIte, Nat.reduceEqDiff]; repeat' first | exact .nil | refine .now (by decide) ?_ | refine .sh ?_ | refine .agg ?_ ?_ | refine .keep ?_) ?_; simp only [ne]; first | rfl | skip
    | true =>
      have hh : a < 0 ∨ (L.length : Int) ≤ a := by simp [okAt, hg] at ho; omega
      refine (fcr_in Try.func55 rfl (by simp only [Try.ntmps55, anys, List.length_cons, List.length_nil, Nat.reduceAdd, Nat.reduceSub, List.replicate_succ, List.replicate_zero, List.cons_append, List.nil_append] <;> rfl) ?_)
      repeat' first
        | refine w_seq ?_
        | refine w_region ?_
        | refine l_nil ?_
        | refine rt_n ?_
        | refine w_ret ?_
        | refine rt_ret ?_
        | refine w_skip ?_
        | refine w_cond_t rfl ?_
        | refine w_cond_f rfl ?_
        | refine w_cnd rfl (fun hc => ?_) (fun hc => ?_)
        | refine w_cd rfl (fun hc => ?_) (fun hc => ?_)
        | refine w_cn rfl (fun hc => ?_) (fun hc => ?_)
        | refine w_cond rfl (fun hc => ?_) (fun hc => ?_)
        | (exfalso; omega)
        | (refine l_o ?_; first | refine l_op rfl (by first | exact ops_move | exact ops_assign | (apply k_lss; first | exact ops_lss rfl rfl | exact ops_lts rfl rfl | fail) | (apply k_geq; first | exact ops_geq rfl rfl | exact ops_ges rfl rfl | fail) | (apply k_not; first | exact ops_not rfl | fail) | (apply k_pick; first | exact ops_pick_t rfl | exact ops_pick_f rfl | exact ops_pick_b rfl rfl rfl | exact ops_pick_i rfl rfl rfl | fail) | (apply k_len; first | exact ops_len_sh rfl (by kernel_rfl) | exact ops_len_ref rfl (by kernel_rfl) | exact ops_len_nil rfl (by kernel_rfl) | exact ops_lens rfl (by kernel_rfl) | fail) | (apply k_load; first | exact ops_load_psh rfl rfl (by decide +kernel) | exact ops_load_psha rfl (by decide +kernel) (by kernel_rfl) (by simp) | exact ops_load_map rfl rfl (by omega) rfl (by decide +kernel) | exact ops_load_mapa rfl rfl (by omega) rfl (by decide +kernel) (by kernel_rfl) | exact ops_load_mapj rfl rfl (by omega) rfl rfl (by decide +kernel) | exact ops_load_ptr rfl rfl rfl rfl rfl (by decide +kernel) | exact ops_load_ptra rfl rfl rfl rfl (by decide +kernel) (by kernel_rfl) | fail) | (apply k_fieldAddr; first | exact ops_fld_psh (off := 0) rfl (by decide +kernel) rfl | exact ops_fld_psh (off := 1) rfl (by decide +kernel) rfl | exact ops_fld_psh (off := 2) rfl (by decide +kernel) rfl | exact ops_fld_psh (off := 3) rfl (by decide +kernel) rfl | exact ops_fld_ptr (off := 0) rfl (by decide +kernel) rfl (by first | (simp; done) | (simp; omega) | fail) | exact ops_fld_ptr (off := 1) rfl (by decide +kernel) rfl (by first | (simp; done) | (simp; omega) | fail) | exact ops_fld_ptr (off := 2) rfl (by decide +kernel) rfl (by first | (simp; done) | (simp; omega) | fail) | exact ops_fld_ptr (off := 3) rfl (by decide +kernel) rfl (by first | (simp; done) | (simp; omega) | fail) | exact ops_fld_map (off := 0) rfl (by decide +kernel) rfl (by omega) | exact ops_fld_map (off := 1) rfl (by decide +kernel) rfl (by omega) | exact ops_fld_map (off := 2) rfl (by decide +kernel) rfl (by omega) | exact ops_fld_map (off := 3) rfl (by decide +kernel) rfl (by omega) | fail) | (apply k_build; first | exact ops_build (zs := [_, _]) rfl (by kernel_rfl) rfl rfl rfl | exact ops_build (zs := [_]) rfl (by kernel_rfl) rfl rfl rfl | exact ops_build (zs := [_, _, _]) rfl (by kernel_rfl) rfl rfl rfl | exact ops_build (zs := [_, _, _, _]) rfl (by kernel_rfl) rfl rfl rfl | fail) | (apply k_box; first | exact ops_box (r := _) rfl rfl (by simp [nm]) (by simp [nm]) (by simp [nm]) | exact ops_boxa rfl (by simp) (by simp [nm]) (by simp [nm]) (by simp [nm]) | fail) | (apply k_alloc; first | exact ops_alloca (zs := _) rfl (by decide) rfl (by simp [nm]) (by simp [nm]) | exact ops_alloc rfl rfl (by simp [nm]) (by simp [nm]) | fail) | (apply k_store; first | exact ops_store_sealm rfl rfl rfl (by omega) rfl (by kernel_rfl) rfl (by simp) (by simp [nm]) (by decide) | exact ops_store_map rfl rfl rfl (by omega) rfl rfl (by kernel_rfl) | exact ops_store rfl rfl rfl rfl (by simp [RV.cellsL]) rfl (by kernel_rfl) | exact ops_storea rfl rfl rfl rfl rfl rfl (by kernel_rfl) | exact ops_storea_map rfl rfl rfl (by omega) rfl rfl (by kernel_rfl) | fail) | (apply k_callf; first | exact ops_callf rfl rfl (by kernel_rfl) (hg ▸ implGood_ok L R) | fail) | fail) (by simp only [nz, nf, nl, nb, nr, reduceIte, Nat.reduceEqDiff, Nat.reduceAdd]; rfl) ?_ | (refine l_g ?_; first | refine l_y rfl rfl rfl ?_ | refine l_n rfl rfl rfl rfl (by simp only [nz, nf, nl, nb, nr, reduceIte, Nat.reduceEqDiff, Nat.reduceAdd]; rfl) ?_ | refine l_n' rfl rfl rfl (by simp only [nz, nf, nl, nb, nr, reduceIte, Nat.reduceEqDiff, Nat.reduceAdd]; rfl) ?_ | refine l_spnd rfl rfl rfl (by simp only [nz, nf, nl, nb, nr, reduceIte, Nat.reduceEqDiff, Nat.reduceAdd]; rfl) (by simp only [nz, nf, nl, nb, nr, reduceIte, Nat.reduceEqDiff, Nat.reduceAdd]; rfl) (fun hc => ?_) (fun hc => ?_) | refine l_spd rfl rfl rfl (by simp only [nz, nf, nl, nb, nr, reduceIte, Nat.reduceEqDiff, Nat.reduceAdd]; rfl) (by simp only [nz, nf, nl, nb, nr, reduceIte, Nat.reduceEqDiff, Nat.reduceAdd]; rfl) (fun hc => ?_) (fun hc => ?_) | refine l_spn rfl rfl rfl (by simp only [nz, nf, nl, nb, nr, reduceIte, Nat.reduceEqDiff, Nat.reduceAdd]; rfl) (by simp only [nz, nf, nl, nb, nr, reduceIte, Nat.reduceEqDiff, Nat.reduceAdd]; rfl) (fun hc => ?_) (fun hc => ?_) | refine l_sp rfl rfl rfl (by simp only [nz, nf, nl, nb, nr, reduceIte, Nat.reduceEqDiff, Nat.reduceAdd]; rfl) (by simp only [nz, nf, nl, nb, nr, reduceIte, Nat.reduceEqDiff, Nat.reduceAdd]; rfl) (fun hc => ?_) (fun hc => ?_)))
      · refine en_endn ([.agg [.ow 1 [], .ow 2 []], RVi 0, RVb false]) (by first | exact .inl rfl | exact .inr rfl) Try.results55 (by decide) rfl (by kernel_rfl) rfl (by simp [ne, nm, lget] <;> omega) (by simp only [ne, nf, nl, nr, lget, reduceIte, Nat.reduceEqDiff]; repeat' first | exact .nil | refine .now (by decide) ?_ | refine .sh ?_ | refine .agg ?_ ?_ | refine .keep ?_) ?_; simp only [ne]; first | rfl | skip
      · refine en_endn ([.agg [.ow 1 [], .ow 2 []], RVi 0, RVb false]) (by first | exact .inl rfl | exact .inr rfl) Try.results55 (by decide) rfl (by kernel_rfl) rfl (by simp [ne, nm, lget] <;> omega) (by simp only [ne, nf, nl, nr, lget, reduceIte, Nat.reduceEqDiff]; repeat' first | exact .nil | refine .now (by decide) ?_ | refine .sh ?_ | refine .agg ?_ ?_ | refine .keep ?_) ?_; simp only [ne]; first | rfl | skip
  | true =>
    have hg : goodLp L R = true := by simp [okAt] at ho; exact ho.1.1
    have hb : 0 ≤ a ∧ a < L.length := by simp [okAt] at ho; exact ⟨ho.1.2, ho.2⟩
    have g := (goodN hg).len
    have h1 : slvA L R a = nxtG L R := by simp [slvA, ho]
    have h2 : slvB L R a = finG L R := by simp [slvB, ho]
    have h3 : slvS L R a left = stN a.toNat left := by simp [slvS, ho]
    rw [h1, h2, h3]
    clear h1 h2 h3
    obtain ⟨n, rfl⟩ := Int.eq_ofNat_of_zero_le hb.1
    rw [Int.toNat_natCast]
    refine (fcr_in Try.func55 rfl (by simp only [Try.ntmps55, anys, List.length_cons, List.length_nil, Nat.reduceAdd, Nat.reduceSub, List.replicate_succ, List.replicate_zero, List.cons_append, List.nil_append] <;> rfl) ?_)
    repeat' first
      | refine w_seq ?_
      | refine w_region ?_
      | refine l_nil ?_
      | refine rt_n ?_
      | refine w_ret ?_
      | refine rt_ret ?_
      | refine w_skip ?_
      | refine w_cond_t rfl ?_
      | refine w_cond_f rfl ?_
      | refine w_cnd rfl (fun hc => ?_) (fun hc => ?_)
      | refine w_cd rfl (fun hc => ?_) (fun hc => ?_)
      | refine w_cn rfl (fun hc => ?_) (fun hc => ?_)
      | refine w_cond rfl (fun hc => ?_) (fun hc => ?_)
      | (refine l_o ?_; first | refine l_op rfl (by first | exact ops_move | exact ops_assign | (apply k_lss; first | exact ops_lss rfl rfl | exact ops_lts rfl rfl | fail) | (apply k_geq; first | exact ops_geq rfl rfl | exact ops_ges rfl rfl | fail) | (apply k_not; first | exact ops_not rfl | fail) | (apply k_pick; first | exact ops_pick_t rfl | exact ops_pick_f rfl | exact ops_pick_b rfl rfl rfl | exact ops_pick_i rfl rfl rfl | fail) | (apply k_len; first | exact ops_len_sh rfl (by kernel_rfl) | exact ops_len_ref rfl (by kernel_rfl) | exact ops_len_nil rfl (by kernel_rfl) | exact ops_lens rfl (by kernel_rfl) | fail) | (apply k_load; first | exact ops_load_psh rfl rfl (by decide +kernel) | exact ops_load_psha rfl (by decide +kernel) (by kernel_rfl) (by simp) | exact ops_load_map rfl rfl (by omega) rfl (by decide +kernel) | exact ops_load_mapa rfl rfl (by omega) rfl (by decide +kernel) (by kernel_rfl) | exact ops_load_mapj rfl rfl (by omega) rfl rfl (by decide +kernel) | exact ops_load_ptr rfl rfl rfl rfl rfl (by decide +kernel) | exact ops_load_ptra rfl rfl rfl rfl (by decide +kernel) (by kernel_rfl) | fail) | (apply k_fieldAddr; first | exact ops_fld_psh (off := 0) rfl (by decide +kernel) rfl | exact ops_fld_psh (off := 1) rfl (by decide +kernel) rfl | exact ops_fld_psh (off := 2) rfl (by decide +kernel) rfl | exact ops_fld_psh (off := 3) rfl (by decide +kernel) rfl | exact ops_fld_ptr (off := 0) rfl (by decide +kernel) rfl (by first | (simp; done) | (simp; omega) | fail) | exact ops_fld_ptr (off := 1) rfl (by decide +kernel) rfl (by first | (simp; done) | (simp; omega) | fail) | exact ops_fld_ptr (off := 2) rfl (by decide +kernel) rfl (by first | (simp; done) | (simp; omega) | fail) | exact ops_fld_ptr (off := 3) rfl (by decide +kernel) rfl (by first | (simp; done) | (simp; omega) | fail) | exact ops_fld_map (off := 0) rfl (by decide +kernel) rfl (by omega) | exact ops_fld_map (off := 1) rfl (by decide +kernel) rfl (by omega) | exact ops_fld_map (off := 2) rfl (by decide +kernel) rfl (by omega) | exact ops_fld_map (off := 3) rfl (by decide +kernel) rfl (by omega) | fail) | (apply k_build; first | exact ops_build (zs := [_, _]) rfl (by kernel_rfl) rfl rfl rfl | exact ops_build (zs := [_]) rfl (by kernel_rfl) rfl rfl rfl | exact ops_build (zs := [_, _, _]) rfl (by kernel_rfl) rfl rfl rfl | exact ops_build (zs := [_, _, _, _]) rfl (by kernel_rfl) rfl rfl rfl | fail) | (apply k_box; first | exact ops_box (r := _) rfl rfl (by simp [nm]) (by simp [nm]) (by simp [nm]) | exact ops_boxa rfl (by simp) (by simp [nm]) (by simp [nm]) (by simp [nm]) | fail) | (apply k_alloc; first | exact ops_alloca (zs := _) rfl (by decide) rfl (by simp [nm]) (by simp [nm]) | exact ops_alloc rfl rfl (by simp [nm]) (by simp [nm]) | fail) | (apply k_store; first | exact ops_store_sealm rfl rfl rfl (by omega) rfl (by kernel_rfl) rfl (by simp) (by simp [nm]) (by decide) | exact ops_store_map rfl rfl rfl (by omega) rfl rfl (by kernel_rfl) | exact ops_store rfl rfl rfl rfl (by simp [RV.cellsL]) rfl (by kernel_rfl) | exact ops_storea rfl rfl rfl rfl rfl rfl (by kernel_rfl) | exact ops_storea_map rfl rfl rfl (by omega) rfl rfl (by kernel_rfl) | fail) | (apply k_callf; first | exact ops_callf rfl rfl (by kernel_rfl) (hg ▸ implGood_ok L R) | exact ops_callv (by first | rfl | (simp only [nz, nf, vw, nr, reduceIte, Nat.reduceEqDiff, ne_eq, not_false_eq_true]; rfl) | (simp [view1, viewC, olook, nv, nz, nf, *]; fail_if_success show _)) rfl (by kernel_rfl) (newArenaG hg) (by simp [RV.resOkT, RV.resOk, RV.isAgg, nm]) (by simp [ns]) (by simp [nz, nm]) (by simp [nz, nm]) | exact ops_callf rfl rfl (by kernel_rfl) (stateOf_ok n left (by omega)) | fail) | fail) (by simp only [nz, nf, nl, nb, nr, reduceIte, Nat.reduceEqDiff, Nat.reduceAdd]; rfl) ?_ | (refine l_g ?_; first | refine l_y rfl rfl rfl ?_ | refine l_n rfl rfl rfl rfl (by simp only [nz, nf, nl, nb, nr, reduceIte, Nat.reduceEqDiff, Nat.reduceAdd]; rfl) ?_ | refine l_n' rfl rfl rfl (by simp only [nz, nf, nl, nb, nr, reduceIte, Nat.reduceEqDiff, Nat.reduceAdd]; rfl) ?_ | refine l_spnd rfl rfl rfl (by simp only [nz, nf, nl, nb, nr, reduceIte, Nat.reduceEqDiff, Nat.reduceAdd]; rfl) (by simp only [nz, nf, nl, nb, nr, reduceIte, Nat.reduceEqDiff, Nat.reduceAdd]; rfl) (fun hc => ?_) (fun hc => ?_) | refine l_spd rfl rfl rfl (by simp only [nz, nf, nl, nb, nr, reduceIte, Nat.reduceEqDiff, Nat.reduceAdd]; rfl) (by simp only [nz, nf, nl, nb, nr, reduceIte, Nat.reduceEqDiff, Nat.reduceAdd]; rfl) (fun hc => ?_) (fun hc => ?_) | refine l_spn rfl rfl rfl (by simp only [nz, nf, nl, nb, nr, reduceIte, Nat.reduceEqDiff, Nat.reduceAdd]; rfl) (by simp only [nz, nf, nl, nb, nr, reduceIte, Nat.reduceEqDiff, Nat.reduceAdd]; rfl) (fun hc => ?_) (fun hc => ?_) | refine l_sp rfl rfl rfl (by simp only [nz, nf, nl, nb, nr, reduceIte, Nat.reduceEqDiff, Nat.reduceAdd]; rfl) (by simp only [nz, nf, nl, nb, nr, reduceIte, Nat.reduceEqDiff, Nat.reduceAdd]; rfl) (fun hc => ?_) (fun hc => ?_)))
    · omega
    · refine en_end (by first | exact .inl rfl | exact .inr rfl) Try.results55 (by decide) rfl (by kernel_rfl) rfl (by simp [ne, nm, lget] <;> omega) ?_; simp only [ne, nf, nl, nr, lget, reduceIte, Nat.reduceEqDiff]; first | rfl | refine congrArg RVb ?_ | refine congrArg RVi ?_ | skip
end Go.Proofs.Ytoekdkoadienmaa
