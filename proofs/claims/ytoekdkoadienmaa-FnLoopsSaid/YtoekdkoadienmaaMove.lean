/- The move that is told of a loop: the program's, the reference's. The same. For all loops and places. -/
import Derived.Test.YtoekdkoadienmaaSpecOut
import Derived.Test.YtoekdkoadienmaaPlay
namespace Go.Proofs.Ytoekdkoadienmaa
open Eng
attribute [local irreducible] OpS OpG FC FCr Rel Fl Ef DR Fs
set_option linter.unusedSimpArgs false
set_option maxHeartbeats 0
set_option maxRecDepth 100000

/-- The chosen move, as a state. -/
def moveOf (L R : List (List Int)) (a : Int) (left : Bool) : Option Nat :=
  if okAt L R a then bst (finG L R) ((finG L R).getD (stN a.toNat left) (0, 0)).1 (mv (stN a.toNat left)) ((nxtG L R).getD (stN a.toNat left) []) none else none
def placeOf (b : Option Nat) : Int := match b with | none => 0 | some c => ((c / 2 : Nat) : Int)
def bI (b : Option Nat) : Int := match b with | none => -1 | some c => (c : Int)
theorem altG {L R} (h : goodLp L R = true) : Alt (nxtG L R) (2 * L.length) := by
  have := nxtOf_alt (goodN h).inside
  rw [toN_len] at this
  exact this
theorem nxtG_row {L R} (h : goodLp L R = true) (s : Nat) : ((nxtG L R).getD s []).length ≤ 24 := by
  by_cases hs : s < 2 * L.length
  · have hs2 : s < 2 * (toN L).length := by rw [toN_len]; exact hs
    have g := goodN h
    have hat := nxtTo_at (toN L) (toN R) (toN L).length s hs2
    rw [nxtG, nxtOf, hat]
    have h1 : s / 2 < (toN L).length := by omega
    have h2 : s / 2 < (toN R).length := by rw [toN_len, g.lenR]; omega
    rw [gd h1, gd h2]
    split
    · simpa using g.lL _ (List.getElem_mem h1)
    · simpa using g.lR _ (List.getElem_mem h2)
  · rw [gd_out (by rw [nxtG_len]; exact hs)]; simp
theorem bst_mem {res w m} : ∀ ks b c, bst res w m ks b = some c → c ∈ ks ∨ b = some c := by
  intro ks
  induction ks with
  | nil => intro b c h; exact .inr h
  | cons k ks ih =>
    intro b c h
    rw [bst_cons] at h
    split at h
    · rcases ih _ _ h with h | h
      · exact .inl (by simp [h])
      · exact .inr h
    · cases b with
      | none =>
        rcases ih _ _ h with h | h
        · exact .inl (by simp [h])
        · cases h; exact .inl (by simp)
      | some d =>
        dsimp only at h
        split at h
        · rcases ih _ _ h with h | h
          · exact .inl (by simp [h])
          · cases h; exact .inl (by simp)
        · rcases ih _ _ h with h | h
          · exact .inl (by simp [h])
          · exact .inr h
theorem bst_at {res : List (Int × Int)} {w m : Int} {ks : List Nat} {k : Nat} (h : k < ks.length) (h2 : ks[k] < res.length) (b : Option Nat) : bst res w m (ks.drop k) b = if res[ks[k]].1 ≠ w then bst res w m (ks.drop (k + 1)) b else match b with
    | none => bst res w m (ks.drop (k + 1)) (some ks[k])
    | some c => if (w = m ∧ res[ks[k]].2 < (res.getD c (0, 0)).2) ∨ (w = 3 - m ∧ res[ks[k]].2 > (res.getD c (0, 0)).2) then bst res w m (ks.drop (k + 1)) (some ks[k]) else bst res w m (ks.drop (k + 1)) (some c) := by
  rw [List.drop_eq_getElem_cons h, bst_cons, gd h2]
  cases b <;> rfl

theorem implMove_ok (L R : List (List Int)) (a : Int) (left : Bool) : FCr Try.prog 34 [RLp L R, RVi a, RVb left] (.tup [RVi (placeOf (moveOf L R a left)), RVb (moveOf L R a left).isSome]) := by
  have hS := solved_ok L R a left
  cases ho : okAt L R a with
  | false =>
    rw [ho] at hS
    have h1 : moveOf L R a left = none := by simp [moveOf, ho]
    rw [h1]
    refine (fcr_in Try.func34 rfl (by simp only [Try.ntmps34, anys, List.length_cons, List.length_nil, Nat.reduceAdd, Nat.reduceSub, List.replicate_succ, List.replicate_zero, List.cons_append, List.nil_append] <;> rfl) ?_)
    repeat' first
      | refine w_seq ?_
      | refine w_block ?_
      | refine rb_n ?_
      | refine rb_ret ?_
      | refine rb_eq ?_
      | refine rb_ne (by rfl) ?_
      | refine w_exit ?_
      | refine rt_exit ?_
      | refine w_region ?_
      | refine l_nil ?_
      | refine rt_n ?_
      | refine w_ret ?_
      | refine rt_ret ?_
      | refine w_skip ?_
      | refine w_cond_t rfl ?_
      | refine w_cond_f rfl ?_
      | refine w_cnd rfl (fun hc => ?_) (fun hc => ?_)
      | refine w_cd rfl (fun hc => ?_) (fun hc => ?_)
      | refine w_cn rfl (fun hc => ?_) (fun hc => ?_)
      | refine w_cond rfl (fun hc => ?_) (fun hc => ?_)
      | (refine l_o ?_; first | refine l_eqnil rfl (by kernel_rfl) (by intro b; simp only [nz]; rfl) (fun b hb => ?_) | refine l_op rfl (by first | (apply k_callf; first | exact ops_callf (hfc := hS) | fail) | fail) (hk := ?_) | refine l_op (hk := ?_) | (refine l_g ?_; first | refine l_y rfl rfl rfl ?_ | refine l_n rfl rfl rfl rfl (hk := ?_) | refine l_n' rfl rfl rfl (hk := ?_) | refine l_spnd rfl rfl rfl (h1 := fun hc => ?_) (h2 := fun hc => ?_) | refine l_spd rfl rfl rfl (h1 := fun hc => ?_) (h2 := fun hc => ?_) | refine l_spn rfl rfl rfl (h1 := fun hc => ?_) (h2 := fun hc => ?_) | refine l_sp rfl rfl rfl (h1 := fun hc => ?_) (h2 := fun hc => ?_)))
      | refine d_nil ?_
      | (refine d_o ?_; first | refine d_fl (hk := ?_) | refine d_ef rfl (by first | exact .callf (hfc := hS) | exact .callfY (hfc := hS) | fail) (hk := ?_) | refine d_ef (hk := ?_) | (refine d_g ?_; first | refine d_spnd rfl rfl rfl (h1 := fun hc => ?_) (h2 := fun hc => ?_) | refine d_spd rfl rfl rfl (h1 := fun hc => ?_) (h2 := fun hc => ?_) | refine d_spn rfl rfl rfl (h1 := fun hc => ?_) (h2 := fun hc => ?_) | refine d_sp rfl rfl rfl (h1 := fun hc => ?_) (h2 := fun hc => ?_)))
      | (refine w_o ?_; first | refine w_draw (id := 11) (fun _ => true) (fun k => [].contains k) [] 64 (by kernel_rfl) rfl (by kernel_rfl) (by simp [nm, nset, -List.map_take, -List.map_drop]) ?_)
    refine en_end (hf := Try.results34) (hr := ?_); simp only [ne, nf, nl, nr, lget, reduceIte, Nat.reduceEqDiff]; first | rfl | refine congrArg RVb ?_ | refine congrArg RVi ?_ | skip
  | true =>
    have g := (goodN (okAt_good ho).1).len
    have hst := stN_lt (left := left) ho
    have hl := finG_len (L := L) (R := R)
    have hnl := nxtG_len (L := L) (R := R)
    have ha := altG (okAt_good ho).1
    have hrow := nxtG_row (okAt_good ho).1 (stN a.toNat left)
    have hmv := fun hne => fin_move (nxt := nxtG L R) (n := 2 * L.length) ha (by omega) (j := stN a.toNat left) hne
    have h0 : moveOf L R a left = bst (finG L R) ((finG L R).getD (stN a.toNat left) (0, 0)).1 (mv (stN a.toNat left)) ((nxtG L R).getD (stN a.toNat left) []) none := by rw [moveOf, ho, if_pos rfl]
    have hfin : fin (nxtG L R) (2 * L.length) = finG L R := rfl
    rw [hfin] at hmv
    have h2 : slvB L R a = finG L R := by simp [slvB, ho]
    have h3 : slvS L R a left = stN a.toNat left := by simp [slvS, ho]
    have h4 : slvA L R a = nxtG L R := by simp [slvA, ho]
    rw [ho, h2, h3, h4] at hS
    rw [h0]
    clear h0 h2 h3 h4 hfin
    generalize stN a.toNat left = s at *
    generalize finG L R = fi at *
    have hs2 : s < (nxtG L R).length := by omega
    have hin : ∀ k ∈ (nxtG L R).getD s [], k < fi.length := fun k hk => by have := (ha s k hk).1; omega
    clear ha
    generalize nxtG L R = nx at *
    rw [gd hs2] at hmv hin hrow ⊢
    rw [gd hst] at hmv ⊢
    by_cases hne : nx[s] = []
    · have hz : nx[s].length = 0 := by rw [hne]; rfl
      have h5 : bst fi fi[s].1 (mv s) nx[s] none = none := by rw [hne]; rfl
      rw [h5]
      clear h5
      refine (fcr_in Try.func34 rfl (by simp only [Try.ntmps34, anys, List.length_cons, List.length_nil, Nat.reduceAdd, Nat.reduceSub, List.replicate_succ, List.replicate_zero, List.cons_append, List.nil_append] <;> rfl) ?_)
      repeat' first
        | refine w_seq ?_
        | refine w_block ?_
        | refine rb_n ?_
        | refine rb_ret ?_
        | refine rb_eq ?_
        | refine rb_ne (by rfl) ?_
        | refine w_exit ?_
        | refine rt_exit ?_
        | refine w_region ?_
        | refine l_nil ?_
        | refine rt_n ?_
        | refine w_ret ?_
        | refine rt_ret ?_
        | refine w_skip ?_
        | refine w_cond_t rfl ?_
        | refine w_cond_f rfl ?_
        | refine w_cnd rfl (fun hc => ?_) (fun hc => ?_)
        | refine w_cd rfl (fun hc => ?_) (fun hc => ?_)
        | refine w_cn rfl (fun hc => ?_) (fun hc => ?_)
        | refine w_cond rfl (fun hc => ?_) (fun hc => ?_)
        | (refine l_o ?_; first | refine l_eqnil rfl (by kernel_rfl) (by intro b; simp only [nz]; rfl) (fun b hb => ?_) | refine l_op rfl (by first | (apply k_callf; first | exact ops_callf (hfc := hS) | fail) | fail) (hk := ?_) | refine l_op (hk := ?_) | (refine l_g ?_; first | refine l_y rfl rfl rfl ?_ | refine l_n rfl rfl rfl rfl (hk := ?_) | refine l_n' rfl rfl rfl (hk := ?_) | refine l_spnd rfl rfl rfl (h1 := fun hc => ?_) (h2 := fun hc => ?_) | refine l_spd rfl rfl rfl (h1 := fun hc => ?_) (h2 := fun hc => ?_) | refine l_spn rfl rfl rfl (h1 := fun hc => ?_) (h2 := fun hc => ?_) | refine l_sp rfl rfl rfl (h1 := fun hc => ?_) (h2 := fun hc => ?_)))
        | refine d_nil ?_
        | (refine d_o ?_; first | refine d_fl (hk := ?_) | refine d_ef rfl (by first | exact .callf (hfc := hS) | exact .callfY (hfc := hS) | fail) (hk := ?_) | refine d_ef (hk := ?_) | (refine d_g ?_; first | refine d_spnd rfl rfl rfl (h1 := fun hc => ?_) (h2 := fun hc => ?_) | refine d_spd rfl rfl rfl (h1 := fun hc => ?_) (h2 := fun hc => ?_) | refine d_spn rfl rfl rfl (h1 := fun hc => ?_) (h2 := fun hc => ?_) | refine d_sp rfl rfl rfl (h1 := fun hc => ?_) (h2 := fun hc => ?_)))
        | (refine w_o ?_; first | refine w_draw (id := 11) (fun _ => true) (fun k => [].contains k) [] 64 (by kernel_rfl) rfl (by kernel_rfl) (by simp [nm, nset, -List.map_take, -List.map_drop]) ?_)
      all_goals try (exfalso; omega)
      refine en_end (hf := Try.results34) (hr := ?_); simp only [ne, nf, nl, nr, lget, reduceIte, Nat.reduceEqDiff]; first | rfl | refine congrArg RVb ?_ | refine congrArg RVi ?_ | skip
    · obtain ⟨c0, hc0, hc1, -, -⟩ := hmv hne
      have hcb := hin c0 hc1
      have hz : ¬ nx[s].length = 0 := fun h => hne (List.eq_nil_of_length_eq_zero h)
      rw [hc0]
      refine (fcr_in Try.func34 rfl (by simp only [Try.ntmps34, anys, List.length_cons, List.length_nil, Nat.reduceAdd, Nat.reduceSub, List.replicate_succ, List.replicate_zero, List.cons_append, List.nil_append] <;> rfl) ?_)
      repeat' first
        | refine w_seq ?_
        | refine w_block ?_
        | refine rb_n ?_
        | refine rb_ret ?_
        | refine rb_eq ?_
        | refine rb_ne (by rfl) ?_
        | refine w_exit ?_
        | refine rt_exit ?_
        | refine w_region ?_
        | refine l_nil ?_
        | refine rt_n ?_
        | refine w_ret ?_
        | refine rt_ret ?_
        | refine w_skip ?_
        | refine w_cond_t rfl ?_
        | refine w_cond_f rfl ?_
        | refine w_cnd rfl (fun hc => ?_) (fun hc => ?_)
        | refine w_cd rfl (fun hc => ?_) (fun hc => ?_)
        | refine w_cn rfl (fun hc => ?_) (fun hc => ?_)
        | refine w_cond rfl (fun hc => ?_) (fun hc => ?_)
        | (refine l_o ?_; first | refine l_eqnil rfl (by kernel_rfl) (by intro b; simp only [nz]; rfl) (fun b hb => ?_) | refine l_op rfl (by first | (apply k_callf; first | exact ops_callf (hfc := hS) | fail) | fail) (hk := ?_) | refine l_op (hk := ?_) | (refine l_g ?_; first | refine l_y rfl rfl rfl ?_ | refine l_n rfl rfl rfl rfl (hk := ?_) | refine l_n' rfl rfl rfl (hk := ?_) | refine l_spnd rfl rfl rfl (h1 := fun hc => ?_) (h2 := fun hc => ?_) | refine l_spd rfl rfl rfl (h1 := fun hc => ?_) (h2 := fun hc => ?_) | refine l_spn rfl rfl rfl (h1 := fun hc => ?_) (h2 := fun hc => ?_) | refine l_sp rfl rfl rfl (h1 := fun hc => ?_) (h2 := fun hc => ?_)))
        | refine d_nil ?_
        | (refine d_o ?_; first | refine d_fl (hk := ?_) | refine d_ef rfl (by first | exact .callf (hfc := hS) | exact .callfY (hfc := hS) | fail) (hk := ?_) | refine d_ef (hk := ?_) | (refine d_g ?_; first | refine d_spnd rfl rfl rfl (h1 := fun hc => ?_) (h2 := fun hc => ?_) | refine d_spd rfl rfl rfl (h1 := fun hc => ?_) (h2 := fun hc => ?_) | refine d_spn rfl rfl rfl (h1 := fun hc => ?_) (h2 := fun hc => ?_) | refine d_sp rfl rfl rfl (h1 := fun hc => ?_) (h2 := fun hc => ?_)))
        | (refine w_o ?_; first | refine w_draw (id := 11) (fun _ => true) (fun k => [].contains k) [] 64 (by kernel_rfl) rfl (by kernel_rfl) (by simp [nm, nset, -List.map_take, -List.map_drop]) ?_)
      · omega
      refine w_loopm (ι := Nat × Option Nat) (fun k => [(46, RVn k.1), (12, RVi (bI k.2))]) (fun k => [(11, 2, [RR fi[s]]), (8, 2, [.agg [RNss nx, .sh (fi.map RR)]]), (3, 2, [RLp L R])]) (fun k => k.1 ≤ nx[s].length ∧ bst fi fi[s].1 (mv s) (nx[s].drop k.1) k.2 = some c0 ∧ ∀ c, k.2 = some c → c < fi.length) (fun k => nx[s].length - k.1) (0, none) (h0 := ?_) (hs := ?_) (round := ?_)
      · exact ⟨by omega, by rw [← hc0]; rfl, fun c h => by cases h⟩
      · refine le_eq (by (repeat' first | exact .nil | refine .keep ?_ | refine .any ?_); first | done | fail) rfl rfl
      · intro ⟨k, b⟩ ⟨hk, hg, hb⟩
        dsimp only at hk hg hb ⊢
        by_cases hkl : k < nx[s].length
        · have hkb := hin _ (List.getElem_mem hkl)
          rw [bst_at hkl hkb] at hg
          cases b with
          | none =>
            dsimp only [bI] at hg ⊢
            repeat' first
              | refine w_seq ?_
              | refine w_block ?_
              | refine rb_n ?_
              | refine rb_ret ?_
              | refine rb_eq ?_
              | refine rb_ne (by rfl) ?_
              | refine w_exit ?_
              | refine rt_exit ?_
              | refine w_region ?_
              | refine l_nil ?_
              | refine rt_n ?_
              | refine w_ret ?_
              | refine rt_ret ?_
              | refine w_skip ?_
              | refine w_cond_t rfl ?_
              | refine w_cond_f rfl ?_
              | refine w_cnd rfl (fun hc => ?_) (fun hc => ?_)
              | refine w_cd rfl (fun hc => ?_) (fun hc => ?_)
              | refine w_cn rfl (fun hc => ?_) (fun hc => ?_)
              | refine w_cond rfl (fun hc => ?_) (fun hc => ?_)
              | (exfalso; omega)
              | (refine l_o ?_; first | refine l_eqnil rfl (by kernel_rfl) (by intro b; simp only [nz]; rfl) (fun b hb => ?_) | refine l_op rfl (by first | (apply k_rem; first | exact ops_remn (n := 2) rfl rfl (by omega) | fail) | (apply k_add; first | exact ops_addn (a := 1) rfl rfl (by omega) | fail) | (apply k_sub; first | exact ops_subn (a := 2) rfl rfl (by omega) (by omega) | fail) | fail) (hk := ?_) | refine l_op (hk := ?_) | (refine l_g ?_; first | refine l_y rfl rfl rfl ?_ | refine l_n rfl rfl rfl rfl (hk := ?_) | refine l_n' rfl rfl rfl (hk := ?_) | refine l_spnd rfl rfl rfl (h1 := fun hc => ?_) (h2 := fun hc => ?_) | refine l_spd rfl rfl rfl (h1 := fun hc => ?_) (h2 := fun hc => ?_) | refine l_spn rfl rfl rfl (h1 := fun hc => ?_) (h2 := fun hc => ?_) | refine l_sp rfl rfl rfl (h1 := fun hc => ?_) (h2 := fun hc => ?_)))
              | refine d_nil ?_
              | (refine d_o ?_; first | refine d_fl rfl (by first | exact .pl (by first | (apply q_rem; first | exact fs_remn (n := 2) rfl rfl (by omega) | fail) | (apply q_add; first | exact fs_addn (a := 1) rfl rfl (by omega) | fail) | (apply q_sub; first | exact fs_subn (a := 2) rfl rfl (by omega) (by omega) | fail) | fail) | exact .ye rfl rfl rfl (by first | (apply q_rem; first | exact fs_remn (n := 2) rfl rfl (by omega) | fail) | (apply q_add; first | exact fs_addn (a := 1) rfl rfl (by omega) | fail) | (apply q_sub; first | exact fs_subn (a := 2) rfl rfl (by omega) (by omega) | fail) | fail) | fail) (hk := ?_) | refine d_fl (hk := ?_) | refine d_ef (hk := ?_) | (refine d_g ?_; first | refine d_spnd rfl rfl rfl (h1 := fun hc => ?_) (h2 := fun hc => ?_) | refine d_spd rfl rfl rfl (h1 := fun hc => ?_) (h2 := fun hc => ?_) | refine d_spn rfl rfl rfl (h1 := fun hc => ?_) (h2 := fun hc => ?_) | refine d_sp rfl rfl rfl (h1 := fun hc => ?_) (h2 := fun hc => ?_)))
              | (refine w_o ?_; first | refine w_draw (id := 11) (fun _ => true) (fun k => [].contains k) [] 64 (by kernel_rfl) rfl (by kernel_rfl) (by simp [nm, nset, -List.map_take, -List.map_drop]) ?_)
            · rw [if_pos hc] at hg
              refine rn_mk (k + 1, none) ⟨by dsimp only; omega, hg, hb⟩ (by dsimp only; omega) ?_
              refine le_dropd 15 (by simp only [nz]; rfl) (by simp only [nz, reduceIte, Nat.reduceEqDiff] <;> rfl) ?_
              refine le_eq (by (repeat' first | exact .nil | refine .keep ?_ | refine .any ?_); first | done | fail) rfl rfl
            · rw [if_neg hc] at hg
              refine rn_mk (k + 1, some nx[s][k]) ⟨by dsimp only; omega, hg, fun c h => by cases h; exact hkb⟩ (by dsimp only; omega) ?_
              refine le_dropd 15 (by simp only [nz]; rfl) (by simp only [nz, reduceIte, Nat.reduceEqDiff] <;> rfl) ?_
              refine le_eq (by (repeat' first | exact .nil | refine .keep ?_ | refine .any ?_); first | done | fail) rfl rfl
          | some c =>
            have hcl := hb c rfl
            have h12 := mv12 s
            dsimp only [bI] at hg ⊢
            rw [gd hcl] at hg
            repeat' first
              | refine w_seq ?_
              | refine w_block ?_
              | refine rb_n ?_
              | refine rb_ret ?_
              | refine rb_eq ?_
              | refine rb_ne (by rfl) ?_
              | refine w_exit ?_
              | refine rt_exit ?_
              | refine w_region ?_
              | refine l_nil ?_
              | refine rt_n ?_
              | refine w_ret ?_
              | refine rt_ret ?_
              | refine w_skip ?_
              | refine w_cond_t rfl ?_
              | refine w_cond_f rfl ?_
              | refine w_cnd rfl (fun hc => ?_) (fun hc => ?_)
              | refine w_cd rfl (fun hc => ?_) (fun hc => ?_)
              | refine w_cn rfl (fun hc => ?_) (fun hc => ?_)
              | refine w_cond rfl (fun hc => ?_) (fun hc => ?_)
              | (exfalso; omega)
              | (refine l_o ?_; first | refine l_eqnil rfl (by kernel_rfl) (by intro b; simp only [nz]; rfl) (fun b hb => ?_) | refine l_op rfl (by first | (apply k_rem; first | exact ops_remn (n := 2) rfl rfl (by omega) | fail) | (apply k_add; first | exact ops_addn (a := 1) rfl rfl (by omega) | fail) | (apply k_sub; first | exact ops_subn (a := 2) rfl rfl (by omega) (by omega) | fail) | fail) (hk := ?_) | refine l_op (hk := ?_) | (refine l_g ?_; first | refine l_y rfl rfl rfl ?_ | refine l_n rfl rfl rfl rfl (hk := ?_) | refine l_n' rfl rfl rfl (hk := ?_) | refine l_spnd rfl rfl rfl (h1 := fun hc => ?_) (h2 := fun hc => ?_) | refine l_spd rfl rfl rfl (h1 := fun hc => ?_) (h2 := fun hc => ?_) | refine l_spn rfl rfl rfl (h1 := fun hc => ?_) (h2 := fun hc => ?_) | refine l_sp rfl rfl rfl (h1 := fun hc => ?_) (h2 := fun hc => ?_)))
              | refine d_nil ?_
              | (refine d_o ?_; first | refine d_fl rfl (by first | exact .pl (by first | (apply q_rem; first | exact fs_remn (n := 2) rfl rfl (by omega) | fail) | (apply q_add; first | exact fs_addn (a := 1) rfl rfl (by omega) | fail) | (apply q_sub; first | exact fs_subn (a := 2) rfl rfl (by omega) (by omega) | fail) | fail) | exact .ye rfl rfl rfl (by first | (apply q_rem; first | exact fs_remn (n := 2) rfl rfl (by omega) | fail) | (apply q_add; first | exact fs_addn (a := 1) rfl rfl (by omega) | fail) | (apply q_sub; first | exact fs_subn (a := 2) rfl rfl (by omega) (by omega) | fail) | fail) | fail) (hk := ?_) | refine d_fl (hk := ?_) | refine d_ef (hk := ?_) | (refine d_g ?_; first | refine d_spnd rfl rfl rfl (h1 := fun hc => ?_) (h2 := fun hc => ?_) | refine d_spd rfl rfl rfl (h1 := fun hc => ?_) (h2 := fun hc => ?_) | refine d_spn rfl rfl rfl (h1 := fun hc => ?_) (h2 := fun hc => ?_) | refine d_sp rfl rfl rfl (h1 := fun hc => ?_) (h2 := fun hc => ?_)))
              | (refine w_o ?_; first | refine w_draw (id := 11) (fun _ => true) (fun k => [].contains k) [] 64 (by kernel_rfl) rfl (by kernel_rfl) (by simp [nm, nset, -List.map_take, -List.map_drop]) ?_)
            · rw [if_pos hc] at hg
              refine rn_mk (k + 1, some c) ⟨by dsimp only; omega, hg, hb⟩ (by dsimp only; omega) ?_
              refine le_dropd 15 (by simp only [nz]; rfl) (by simp only [nz, reduceIte, Nat.reduceEqDiff] <;> rfl) ?_
              refine le_eq (by (repeat' first | exact .nil | refine .keep ?_ | refine .any ?_); first | done | fail) rfl rfl
            all_goals
              rw [if_neg (by omega)] at hg
              first
                | (rw [if_pos (by unfold mv at *; omega)] at hg
                   refine rn_mk (k + 1, some nx[s][k]) ⟨by dsimp only; omega, hg, fun c h => by cases h; exact hkb⟩ (by dsimp only; omega) ?_
                   refine le_dropd 15 (by simp only [nz]; rfl) (by simp only [nz, reduceIte, Nat.reduceEqDiff] <;> rfl) ?_
                   refine le_eq (by (repeat' first | exact .nil | refine .keep ?_ | refine .any ?_); first | done | fail) rfl rfl)
                | (rw [if_neg (by unfold mv at *; omega)] at hg
                   refine rn_mk (k + 1, some c) ⟨by dsimp only; omega, hg, hb⟩ (by dsimp only; omega) ?_
                   refine le_dropd 15 (by simp only [nz]; rfl) (by simp only [nz, reduceIte, Nat.reduceEqDiff] <;> rfl) ?_
                   refine le_eq (by (repeat' first | exact .nil | refine .keep ?_ | refine .any ?_); first | done | fail) rfl rfl)
        · obtain rfl : k = nx[s].length := by omega
          rw [List.drop_length, bst] at hg
          cases hg
          dsimp only [bI]
          repeat' first
            | refine w_seq ?_
            | refine w_block ?_
            | refine rb_n ?_
            | refine rb_ret ?_
            | refine rb_eq ?_
            | refine rb_ne (by rfl) ?_
            | refine w_exit ?_
            | refine rt_exit ?_
            | refine w_region ?_
            | refine l_nil ?_
            | refine rt_n ?_
            | refine w_ret ?_
            | refine rt_ret ?_
            | refine w_skip ?_
            | refine w_cond_t rfl ?_
            | refine w_cond_f rfl ?_
            | refine w_cnd rfl (fun hc => ?_) (fun hc => ?_)
            | refine w_cd rfl (fun hc => ?_) (fun hc => ?_)
            | refine w_cn rfl (fun hc => ?_) (fun hc => ?_)
            | refine w_cond rfl (fun hc => ?_) (fun hc => ?_)
            | (exfalso; omega)
            | (refine l_o ?_; first | refine l_eqnil rfl (by kernel_rfl) (by intro b; simp only [nz]; rfl) (fun b hb => ?_) | refine l_op rfl (by first | (apply k_quo; first | exact ops_quon (n := 2) rfl rfl (by omega) (by omega) | fail) | fail) (hk := ?_) | refine l_op (hk := ?_) | (refine l_g ?_; first | refine l_y rfl rfl rfl ?_ | refine l_n rfl rfl rfl rfl (hk := ?_) | refine l_n' rfl rfl rfl (hk := ?_) | refine l_spnd rfl rfl rfl (h1 := fun hc => ?_) (h2 := fun hc => ?_) | refine l_spd rfl rfl rfl (h1 := fun hc => ?_) (h2 := fun hc => ?_) | refine l_spn rfl rfl rfl (h1 := fun hc => ?_) (h2 := fun hc => ?_) | refine l_sp rfl rfl rfl (h1 := fun hc => ?_) (h2 := fun hc => ?_)))
            | refine d_nil ?_
            | (refine d_o ?_; first | refine d_fl rfl (by first | exact .pl (by first | (apply q_quo; first | exact fs_quon (n := 2) rfl rfl (by omega) (by omega) | fail) | fail) | exact .ye rfl rfl rfl (by first | (apply q_quo; first | exact fs_quon (n := 2) rfl rfl (by omega) (by omega) | fail) | fail) | fail) (hk := ?_) | refine d_fl (hk := ?_) | refine d_ef (hk := ?_) | (refine d_g ?_; first | refine d_spnd rfl rfl rfl (h1 := fun hc => ?_) (h2 := fun hc => ?_) | refine d_spd rfl rfl rfl (h1 := fun hc => ?_) (h2 := fun hc => ?_) | refine d_spn rfl rfl rfl (h1 := fun hc => ?_) (h2 := fun hc => ?_) | refine d_sp rfl rfl rfl (h1 := fun hc => ?_) (h2 := fun hc => ?_)))
            | (refine w_o ?_; first | refine w_draw (id := 11) (fun _ => true) (fun k => [].contains k) [] 64 (by kernel_rfl) rfl (by kernel_rfl) (by simp [nm, nset, -List.map_take, -List.map_drop]) ?_)
          refine en_end (hf := Try.results34) (hr := ?_); simp only [ne, nf, nl, nr, lget, reduceIte, Nat.reduceEqDiff]; first | rfl | refine congrArg RVb ?_ | refine congrArg RVi ?_ | skip
end Go.Proofs.Ytoekdkoadienmaa
