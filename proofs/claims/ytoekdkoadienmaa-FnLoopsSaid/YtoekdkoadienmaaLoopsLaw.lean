/- The law FnLoops answers true. For all bytes. -/
import Derived.Test.YtoekdkoadienmaaMirror
import Derived.Test.YtoekdkoadienmaaDraws
import Derived.Test.YtoekdkoadienmaaMoveS
namespace Go.Proofs.Ytoekdkoadienmaa
open Eng
attribute [local irreducible] OpS OpG FC FCr Rel Fl Ef DR Fs
set_option linter.unusedSimpArgs false
set_option maxHeartbeats 0
set_option maxRecDepth 100000

theorem OIss_toN {L : List (List Int)} (h : ∀ r ∈ L, ∀ x ∈ r, 0 ≤ x) : OIss L = ONss (toN L) := by
  show RV.ow 1 (L.map OIs) = RV.ow 1 ((L.map fun l => l.map Int.toNat).map ONs)
  rw [List.map_map]
  refine congrArg (RV.ow 1) (List.map_congr_left fun r hr => ?_)
  show RV.ow 1 (r.map RVi) = RV.ow 1 ((r.map Int.toNat).map RVn)
  rw [List.map_map]
  refine congrArg (RV.ow 1) (List.map_congr_left fun x hx => ?_)
  have := h r hr x hx
  show RVi x = RVi (x.toNat : Int)
  rw [Int.toNat_of_nonneg this]
theorem good_own {L R} (h : goodLp L R = true) : OIss L = ONss (toN L) ∧ OIss R = ONss (toN R) := by
  obtain ⟨h1, h2, h3, h4, h5⟩ := goodLp_small h
  exact ⟨OIss_toN fun r hr x hx => (tgtOk_mem (h4 r hr) x hx).1, OIss_toN fun r hr x hx => (tgtOk_mem (h5 r hr) x hx).1⟩
theorem fin_won {nxt n j} (ha : Alt nxt n) (h : j < n) : won (fin nxt n) (mv j) (nxt.getD j []) = decide (((fin nxt n).getD j (0, 0)).1 = mv j) := by
  have h12 := mv12 j
  have hw := fin_wf nxt n j
  have h3 : ((fin nxt n).getD j (0, 0)).1 = 0 ∨ ((fin nxt n).getD j (0, 0)).1 = mv j ∨ ((fin nxt n).getD j (0, 0)).1 = 3 - mv j := by
    rcases hw with hw | hw
    · left; rw [hw]
    · omega
  rw [Bool.eq_iff_iff, won_iff, decide_eq_true_eq]
  constructor
  · rintro ⟨k, hk, hk2⟩
    rcases h3 with h3 | h3 | h3
    · exact absurd hk2 ((fin_draw h h3).2 k hk)
    · exact h3
    · have := ((fin_lose ha h h3).1 k hk).1; omega
  · intro h4
    obtain ⟨⟨k, hk, hk2⟩, _⟩ := fin_win ha h h4
    exact ⟨k, hk, by rw [hk2]⟩
theorem fin_lost {nxt n j} (ha : Alt nxt n) (h : j < n) : lostAll (fin nxt n) (mv j) (nxt.getD j []) = decide (((fin nxt n).getD j (0, 0)).1 = 3 - mv j) := by
  have h12 := mv12 j
  have hw := fin_wf nxt n j
  have h3 : ((fin nxt n).getD j (0, 0)).1 = 0 ∨ ((fin nxt n).getD j (0, 0)).1 = mv j ∨ ((fin nxt n).getD j (0, 0)).1 = 3 - mv j := by
    rcases hw with hw | hw
    · left; rw [hw]
    · omega
  rw [Bool.eq_iff_iff, lost_iff, decide_eq_true_eq]
  constructor
  · intro hall
    rcases h3 with h3 | h3 | h3
    · obtain ⟨⟨k, hk, hk2⟩, _⟩ := fin_draw h h3
      have := hall k hk; omega
    · obtain ⟨⟨k, hk, hk2⟩, _⟩ := fin_win ha h h3
      have := hall k hk; rw [hk2] at this; simp only at this; omega
    · exact h3
  · intro h4 k hk
    exact ((fin_lose ha h h4).1 k hk).1
theorem won_at {res : List (Int × Int)} {m : Int} {ks : List Nat} {k : Nat} (h : k < ks.length) : won res m (ks.drop k) = (decide ((res.getD ks[k] (0, 0)).1 = m) || won res m (ks.drop (k + 1))) := by
  rw [List.drop_eq_getElem_cons h, won, List.any_cons]; rfl
theorem lost_at {res : List (Int × Int)} {m : Int} {ks : List Nat} {k : Nat} (h : k < ks.length) : lostAll res m (ks.drop k) = (decide ((res.getD ks[k] (0, 0)).1 = 3 - m) && lostAll res m (ks.drop (k + 1))) := by
  rw [List.drop_eq_getElem_cons h, lostAll, List.all_cons]; rfl

theorem lawLoops_ok (code : List UInt8) : FCr Try.prog 10 [RYs code] (RVb true) := by
  have hD := drawTable_ok code
  have hB := rBig_ok code
  generalize (loose (cur0 code) 7).2.1 = L at *
  generalize (loose (cur0 code) 7).2.2 = R at *
  have hI := implTable_ok L R
  have hS := specTable_ok L R
  have hG := implGood_ok L R
  cases hg : goodLp L R with
  | false =>
    have h1 : tbl L R = [] := by simp [tbl, hg]
    rw [h1, hg] at hI hS
    rw [hg] at hG
    refine (fcr_in Try.func10 rfl (by simp only [Try.ntmps10, anys, List.length_cons, List.length_nil, Nat.reduceAdd, Nat.reduceSub, List.replicate_succ, List.replicate_zero, List.cons_append, List.nil_append] <;> rfl) ?_)
    repeat' first
      | refine w_seq ?_
      | refine w_block ?_
      | refine rb_n ?_
      | refine rb_ret ?_
      | refine rb_eq ?_
      | refine rb_ne (by rfl) ?_
      | refine w_exit ?_
      | refine rt_exit ?_
      | refine w_region ?_
      | refine l_nil ?_
      | refine rt_n ?_
      | refine w_ret ?_
      | refine rt_ret ?_
      | refine w_skip ?_
      | refine w_cond_t rfl ?_
      | refine w_cond_f rfl ?_
      | refine w_cnd rfl (fun hc => ?_) (fun hc => ?_)
      | refine w_cd rfl (fun hc => ?_) (fun hc => ?_)
      | refine w_cn rfl (fun hc => ?_) (fun hc => ?_)
      | refine w_cond rfl (fun hc => ?_) (fun hc => ?_)
      | (refine l_o ?_; first | refine l_eqnil rfl (by kernel_rfl) (by intro b; simp only [nz]; rfl) (fun b hb => ?_) | refine l_op rfl (by first | (apply k_callf; first | exact ops_callf (hfc := hB) | exact ops_callf (hfc := hD) | exact ops_callf (hfc := hI) | exact ops_callf (hfc := hS) | exact ops_callf (hfc := hG) | exact ops_callf (hfc := rInts_ok [] []) | fail) | fail) (hk := ?_) | refine l_op (hk := ?_) | (refine l_g ?_; first | refine l_y rfl rfl rfl ?_ | refine l_n rfl rfl rfl rfl (hk := ?_) | refine l_n' rfl rfl rfl (hk := ?_) | refine l_spnd rfl rfl rfl (h1 := fun hc => ?_) (h2 := fun hc => ?_) | refine l_spd rfl rfl rfl (h1 := fun hc => ?_) (h2 := fun hc => ?_) | refine l_spn rfl rfl rfl (h1 := fun hc => ?_) (h2 := fun hc => ?_) | refine l_sp rfl rfl rfl (h1 := fun hc => ?_) (h2 := fun hc => ?_)))
    all_goals first
      | exact absurd rfl hc
      | ((refine en_one (hf := Try.results10) (h := ?_); simp only [lget]; first | refine congrArg RVb ?_ | refine congrArg RVi ?_ | skip); done)
  | true =>
    have g := goodN hg
    have gl := g.len
    have gr := g.lenR
    obtain ⟨o1, o2⟩ := good_own hg
    have h1 : tbl L R = (finG L R).map (·.1) := by simp [tbl, hg]
    have hl := finG_len (L := L) (R := R)
    have ha := altG hg
    have hat := nxtTo_at (toN L) (toN R) (toN L).length
    have hrow := nxtG_row hg
    have hO : ∀ i, i < 2 * L.length → FCr Try.prog 24 [RLp L R, RVn (i / 2), RVb (decide (((i % 2 : Nat) : Int) = 0))] (.tup [RVi ((finG L R).getD i (0, 0)).1, RVb true]) := by
      intro i hi
      have := implOutcome_ok L R ((i / 2 : Nat) : Int) (decide (((i % 2 : Nat) : Int) = 0))
      have ho : okAt L R ((i / 2 : Nat) : Int) = true := by unfold okAt; rw [hg]; simp; omega
      have es : stN (((i / 2 : Nat) : Int)).toNat (decide (((i % 2 : Nat) : Int) = 0)) = i := by
        rw [Int.toNat_natCast]
        unfold stN
        by_cases h2 : i % 2 = 0
        · rw [decide_eq_true (by omega), if_pos rfl]; omega
        · rw [decide_eq_false (by omega), if_neg (by decide)]; omega
      rw [winner, ho, if_pos rfl, es] at this
      exact this
    have hwon := fun j (h : j < 2 * L.length) => fin_won ha h
    have hlost := fun j (h : j < 2 * L.length) => fin_lost ha h
    have hfin : fin (nxtG L R) (2 * L.length) = finG L R := rfl
    rw [hfin] at hwon hlost
    have hnx : nxtTo (toN L) (toN R) (toN L).length = nxtG L R := rfl
    rw [hnx, toN_len] at hat
    have e : RLp L R = .agg [RNss (toN L), RNss (toN R)] := by show RV.agg _ = _; rw [g.eL, g.eR]
    rw [h1, hg] at hI hS
    rw [hg] at hG
    rw [e] at hI hS hG hO
    rw [o1, o2] at hD
    have lA : (toN L).length = L.length := toN_len L
    have lB : (toN R).length = L.length := by rw [toN_len, gr]
    clear h1 hfin hnx e o1 o2 hg g
    generalize nxtG L R = nx at *
    generalize finG L R = fi at *
    generalize toN L = A at *
    generalize toN R = B at *
    generalize htb : fi.map (·.1) = tb at *
    have t1 : tb.length = fi.length := by rw [← htb]; simp
    have t2 : ∀ j (h : j < tb.length), (fi.getD j (0, 0)).1 = tb[j] := by
      intro j h
      subst htb
      have h2 : j < fi.length := by simpa using h
      rw [gd h2]; simp
    clear htb
    refine (fcr_in Try.func10 rfl (by simp only [Try.ntmps10, anys, List.length_cons, List.length_nil, Nat.reduceAdd, Nat.reduceSub, List.replicate_succ, List.replicate_zero, List.cons_append, List.nil_append] <;> rfl) ?_)
    repeat' first
      | refine w_seq ?_
      | refine w_block ?_
      | refine rb_n ?_
      | refine rb_ret ?_
      | refine rb_eq ?_
      | refine rb_ne (by rfl) ?_
      | refine w_exit ?_
      | refine rt_exit ?_
      | refine w_region ?_
      | refine l_nil ?_
      | refine rt_n ?_
      | refine w_ret ?_
      | refine rt_ret ?_
      | refine w_skip ?_
      | refine w_cond_t rfl ?_
      | refine w_cond_f rfl ?_
      | refine w_cnd rfl (fun hc => ?_) (fun hc => ?_)
      | refine w_cd rfl (fun hc => ?_) (fun hc => ?_)
      | refine w_cn rfl (fun hc => ?_) (fun hc => ?_)
      | refine w_cond rfl (fun hc => ?_) (fun hc => ?_)
      | (refine l_o ?_; first | refine l_eqnil rfl (by kernel_rfl) (by intro b; simp only [nz]; rfl) (fun b hb => ?_) | refine l_op rfl (by first | (apply k_mul; first | exact ops_muln (a := 2) rfl rfl (by omega) | fail) | (apply k_callf; first | exact ops_callf (hfc := hB) | exact ops_callf (hfc := hD) | exact ops_callf (hfc := hI) | exact ops_callf (hfc := hS) | exact ops_callf (hfc := hG) | exact ops_callf (hfc := rInts_ok _ _) | fail) | fail) (hk := ?_) | refine l_op (hk := ?_) | (refine l_g ?_; first | refine l_y rfl rfl rfl ?_ | refine l_n rfl rfl rfl rfl (hk := ?_) | refine l_n' rfl rfl rfl (hk := ?_) | refine l_spnd rfl rfl rfl (h1 := fun hc => ?_) (h2 := fun hc => ?_) | refine l_spd rfl rfl rfl (h1 := fun hc => ?_) (h2 := fun hc => ?_) | refine l_spn rfl rfl rfl (h1 := fun hc => ?_) (h2 := fun hc => ?_) | refine l_sp rfl rfl rfl (h1 := fun hc => ?_) (h2 := fun hc => ?_)))
    · refine en_one (hf := Try.results10) (h := ?_); simp only [lget]; first | refine congrArg RVb ?_ | refine congrArg RVi ?_ | skip
    · exfalso; omega
    refine w_loopm (ι := Nat) (fun i => [(8, RVn i)]) (fun i => [(3, 2, [.agg [RNss A, RNss B]])]) (fun i => i ≤ tb.length) (fun i => tb.length - i) 0 (h0 := ?_) (hs := ?_) (round := ?_)
    · omega
    · refine le_eq (by (repeat' first | exact .nil | refine .keep ?_ | refine .any ?_); first | done | fail) rfl rfl
    · intro i hi
      by_cases hil : i < tb.length
      · have hia : i / 2 < A.length := by omega
        have hib : i / 2 < B.length := by omega
        have hOi := hO i (by omega)
        have w1 := hwon i (by omega)
        have w2 := hlost i (by omega)
        have w3 := hat i (by omega)
        have w4 := ha i
        have w5 := hrow i
        rw [t2 i hil] at hOi w1 w2
        rw [gd hia, gd hib] at w3
        generalize nx.getD i [] = S at *
        by_cases hp : i % 2 = 0
        · rw [if_pos hp] at w3
          have hm : mv i = 1 := by unfold mv; omega
          rw [hm] at w1 w2
          have hS2 : S.length = A[i / 2].length := by rw [w3]; simp
          have hS3 : ∀ k (h : k < A[i / 2].length) (h2 : k < S.length), S[k] = 2 * A[i / 2][k] + 1 := by intro k h h2; subst w3; simp
          have hS4 : ∀ k (h : k < S.length), S[k] < tb.length := fun k h => by have := (w4 _ (List.getElem_mem h)).1; omega
          clear w3 w4 hat ha hrow hO hwon hlost
          repeat' first
            | refine w_seq ?_
            | refine w_block ?_
            | refine rb_n ?_
            | refine rb_ret ?_
            | refine rb_eq ?_
            | refine rb_ne (by rfl) ?_
            | refine w_exit ?_
            | refine rt_exit ?_
            | refine w_region ?_
            | refine l_nil ?_
            | refine rt_n ?_
            | refine w_ret ?_
            | refine rt_ret ?_
            | refine w_skip ?_
            | refine w_cond_t rfl ?_
            | refine w_cond_f rfl ?_
            | refine w_cnd rfl (fun hc => ?_) (fun hc => ?_)
            | refine w_cd rfl (fun hc => ?_) (fun hc => ?_)
            | refine w_cn rfl (fun hc => ?_) (fun hc => ?_)
            | refine w_cond rfl (fun hc => ?_) (fun hc => ?_)
            | (exfalso; omega)
            | (refine l_o ?_; first | refine l_eqnil rfl (by kernel_rfl) (by intro b; simp only [nz]; rfl) (fun b hb => ?_) | refine l_op rfl (by first | (apply k_rem; first | exact ops_remn (n := 2) rfl rfl (by omega) | fail) | (apply k_quo; first | exact ops_quon (n := 2) rfl rfl (by omega) (by omega) | fail) | (apply k_callf; first | exact ops_callf (hfc := hOi) | fail) | fail) (hk := ?_) | refine l_op (hk := ?_) | (refine l_g ?_; first | refine l_y rfl rfl rfl ?_ | refine l_n rfl rfl rfl rfl (hk := ?_) | refine l_n' rfl rfl rfl (hk := ?_) | refine l_spnd rfl rfl rfl (h1 := fun hc => ?_) (h2 := fun hc => ?_) | refine l_spd rfl rfl rfl (h1 := fun hc => ?_) (h2 := fun hc => ?_) | refine l_spn rfl rfl rfl (h1 := fun hc => ?_) (h2 := fun hc => ?_) | refine l_sp rfl rfl rfl (h1 := fun hc => ?_) (h2 := fun hc => ?_)))
          refine w_loopm (ι := Nat × Bool × Bool) (fun q => [(15, RVn q.1), (13, RVb q.2.1), (14, RVb q.2.2)]) (fun q => [(3, 2, [.agg [RNss A, RNss B]])]) (fun q => q.1 ≤ S.length ∧ (q.2.1 || won fi 1 (S.drop q.1)) = won fi 1 S ∧ (q.2.2 && lostAll fi 1 (S.drop q.1)) = lostAll fi 1 S) (fun q => S.length - q.1) (0, false, true) (h0 := ?_) (hs := ?_) (round := ?_)
          · simp
          · refine le_eq (by (repeat' first | exact .nil | refine .keep ?_ | refine .any ?_); first | done | fail) rfl rfl
          · intro ⟨k, w, l⟩ ⟨hk, hw, hlo⟩
            dsimp only at hk hw hlo ⊢
            by_cases hkl : k < S.length
            · have s1 := hS4 k hkl
              have s2 := hS3 k (by omega) hkl
              rw [won_at hkl, t2 _ s1] at hw
              rw [lost_at hkl, t2 _ s1] at hlo
              rw [s2] at s1
              have s3 : tb[S[k]] = tb[2 * A[i / 2][k] + 1] := by congr 1
              rw [s3] at hw hlo
              repeat' first
                | refine w_seq ?_
                | refine w_block ?_
                | refine rb_n ?_
                | refine rb_ret ?_
                | refine rb_eq ?_
                | refine rb_ne (by rfl) ?_
                | refine w_exit ?_
                | refine rt_exit ?_
                | refine w_region ?_
                | refine l_nil ?_
                | refine rt_n ?_
                | refine w_ret ?_
                | refine rt_ret ?_
                | refine w_skip ?_
                | refine w_cond_t rfl ?_
                | refine w_cond_f rfl ?_
                | refine w_cnd rfl (fun hc => ?_) (fun hc => ?_)
                | refine w_cd rfl (fun hc => ?_) (fun hc => ?_)
                | refine w_cn rfl (fun hc => ?_) (fun hc => ?_)
                | refine w_cond rfl (fun hc => ?_) (fun hc => ?_)
                | (exfalso; omega)
                | (refine l_o ?_; first | refine l_eqnil rfl (by kernel_rfl) (by intro b; simp only [nz]; rfl) (fun b hb => ?_) | refine l_op rfl (by first | (apply k_mul; first | exact ops_muln (a := 2) rfl rfl (by omega) | fail) | (apply k_add; first | exact ops_addn (b := 1) rfl rfl (by omega) | fail) | fail) (hk := ?_) | refine l_op (hk := ?_) | (refine l_g ?_; first | refine l_y rfl rfl rfl ?_ | refine l_n rfl rfl rfl rfl (hk := ?_) | refine l_n' rfl rfl rfl (hk := ?_) | refine l_spnd rfl rfl rfl (h1 := fun hc => ?_) (h2 := fun hc => ?_) | refine l_spd rfl rfl rfl (h1 := fun hc => ?_) (h2 := fun hc => ?_) | refine l_spn rfl rfl rfl (h1 := fun hc => ?_) (h2 := fun hc => ?_) | refine l_sp rfl rfl rfl (h1 := fun hc => ?_) (h2 := fun hc => ?_)))
              · rename_i q2; subst q2 hc
                refine rn_mk (k + 1, true, decide (tb[2 * A[i / 2][k] + 1] = 3 - 1)) ?_ (by first | omega | (dsimp only; omega)) (le_eq (by (repeat' first | exact .nil | refine .keep ?_ | refine .any ?_); first | done | fail) rfl rfl)
                refine ⟨by dsimp only; omega, ?_, ?_⟩
                · rw [← hw]; simp
                · rw [← hlo]; simp
              · rename_i q2; subst q2 hc
                refine rn_mk (k + 1, true, false) ?_ (by first | omega | (dsimp only; omega)) (le_eq (by (repeat' first | exact .nil | refine .keep ?_ | refine .any ?_); first | done | fail) rfl rfl)
                refine ⟨by dsimp only; omega, ?_, ?_⟩
                · rw [← hw]; simp
                · rw [← hlo]; simp
              · rename_i q2; subst q2 hc
                refine rn_mk (k + 1, decide (tb[2 * A[i / 2][k] + 1] = 1), decide (tb[2 * A[i / 2][k] + 1] = 3 - 1)) ?_ (by first | omega | (dsimp only; omega)) (le_eq (by (repeat' first | exact .nil | refine .keep ?_ | refine .any ?_); first | done | fail) rfl rfl)
                refine ⟨by dsimp only; omega, ?_, ?_⟩
                · rw [← hw]; simp
                · rw [← hlo]; simp
              · rename_i q2; subst q2 hc
                refine rn_mk (k + 1, decide (tb[2 * A[i / 2][k] + 1] = 1), false) ?_ (by first | omega | (dsimp only; omega)) (le_eq (by (repeat' first | exact .nil | refine .keep ?_ | refine .any ?_); first | done | fail) rfl rfl)
                refine ⟨by dsimp only; omega, ?_, ?_⟩
                · rw [← hw]; simp
                · rw [← hlo]; simp
            · have hd : S.drop k = [] := List.drop_eq_nil_of_le (by omega)
              rw [hd] at hw hlo
              rw [show won fi 1 [] = false from rfl, Bool.or_false] at hw
              rw [show lostAll fi 1 [] = true from rfl, Bool.and_true] at hlo
              rw [w1] at hw
              rw [w2] at hlo
              subst hw hlo
              repeat' first
                | refine w_seq ?_
                | refine w_block ?_
                | refine rb_n ?_
                | refine rb_ret ?_
                | refine rb_eq ?_
                | refine rb_ne (by rfl) ?_
                | refine w_exit ?_
                | refine rt_exit ?_
                | refine w_region ?_
                | refine l_nil ?_
                | refine rt_n ?_
                | refine w_ret ?_
                | refine rt_ret ?_
                | refine w_skip ?_
                | refine w_cond_t rfl ?_
                | refine w_cond_f rfl ?_
                | refine w_cnd rfl (fun hc => ?_) (fun hc => ?_)
                | refine w_cd rfl (fun hc => ?_) (fun hc => ?_)
                | refine w_cn rfl (fun hc => ?_) (fun hc => ?_)
                | refine w_cond rfl (fun hc => ?_) (fun hc => ?_)
                | (exfalso; omega)
                | (refine l_o ?_; first | refine l_eqnil rfl (by kernel_rfl) (by intro b; simp only [nz]; rfl) (fun b hb => ?_) | refine l_op rfl (by first | (apply k_rem; first | exact ops_remn (n := 2) rfl rfl (by omega) | fail) | (apply k_quo; first | exact ops_quon (n := 2) rfl rfl (by omega) (by omega) | fail) | (apply k_mul; first | exact ops_muln (a := 2) rfl rfl (by omega) | fail) | (apply k_add; first | exact ops_addn (b := 1) rfl rfl (by omega) | fail) | (apply k_callf; first | exact ops_callf (hfc := hOi) | fail) | fail) (hk := ?_) | refine l_op (hk := ?_) | (refine l_g ?_; first | refine l_y rfl rfl rfl ?_ | refine l_n rfl rfl rfl rfl (hk := ?_) | refine l_n' rfl rfl rfl (hk := ?_) | refine l_spnd rfl rfl rfl (h1 := fun hc => ?_) (h2 := fun hc => ?_) | refine l_spd rfl rfl rfl (h1 := fun hc => ?_) (h2 := fun hc => ?_) | refine l_spn rfl rfl rfl (h1 := fun hc => ?_) (h2 := fun hc => ?_) | refine l_sp rfl rfl rfl (h1 := fun hc => ?_) (h2 := fun hc => ?_)))
              all_goals try exact absurd rfl hc
              refine rn_mk (i + 1) ?_ (by first | omega | (dsimp only; omega)) (le_eq (by (repeat' first | exact .nil | refine .keep ?_ | refine .any ?_); first | done | fail) rfl rfl)
              show i + 1 ≤ tb.length
              omega
        · rw [if_neg hp] at w3
          have hm : mv i = 2 := by unfold mv; omega
          rw [hm] at w1 w2
          have hS2 : S.length = B[i / 2].length := by rw [w3]; simp
          have hS3 : ∀ k (h : k < B[i / 2].length) (h2 : k < S.length), S[k] = 2 * B[i / 2][k] + 0 := by intro k h h2; subst w3; simp
          have hS4 : ∀ k (h : k < S.length), S[k] < tb.length := fun k h => by have := (w4 _ (List.getElem_mem h)).1; omega
          clear w3 w4 hat ha hrow hO hwon hlost
          repeat' first
            | refine w_seq ?_
            | refine w_block ?_
            | refine rb_n ?_
            | refine rb_ret ?_
            | refine rb_eq ?_
            | refine rb_ne (by rfl) ?_
            | refine w_exit ?_
            | refine rt_exit ?_
            | refine w_region ?_
            | refine l_nil ?_
            | refine rt_n ?_
            | refine w_ret ?_
            | refine rt_ret ?_
            | refine w_skip ?_
            | refine w_cond_t rfl ?_
            | refine w_cond_f rfl ?_
            | refine w_cnd rfl (fun hc => ?_) (fun hc => ?_)
            | refine w_cd rfl (fun hc => ?_) (fun hc => ?_)
            | refine w_cn rfl (fun hc => ?_) (fun hc => ?_)
            | refine w_cond rfl (fun hc => ?_) (fun hc => ?_)
            | (exfalso; omega)
            | (refine l_o ?_; first | refine l_eqnil rfl (by kernel_rfl) (by intro b; simp only [nz]; rfl) (fun b hb => ?_) | refine l_op rfl (by first | (apply k_rem; first | exact ops_remn (n := 2) rfl rfl (by omega) | fail) | (apply k_quo; first | exact ops_quon (n := 2) rfl rfl (by omega) (by omega) | fail) | (apply k_callf; first | exact ops_callf (hfc := hOi) | fail) | fail) (hk := ?_) | refine l_op (hk := ?_) | (refine l_g ?_; first | refine l_y rfl rfl rfl ?_ | refine l_n rfl rfl rfl rfl (hk := ?_) | refine l_n' rfl rfl rfl (hk := ?_) | refine l_spnd rfl rfl rfl (h1 := fun hc => ?_) (h2 := fun hc => ?_) | refine l_spd rfl rfl rfl (h1 := fun hc => ?_) (h2 := fun hc => ?_) | refine l_spn rfl rfl rfl (h1 := fun hc => ?_) (h2 := fun hc => ?_) | refine l_sp rfl rfl rfl (h1 := fun hc => ?_) (h2 := fun hc => ?_)))
          refine w_loopm (ι := Nat × Bool × Bool) (fun q => [(15, RVn q.1), (13, RVb q.2.1), (14, RVb q.2.2)]) (fun q => [(3, 2, [.agg [RNss A, RNss B]])]) (fun q => q.1 ≤ S.length ∧ (q.2.1 || won fi 2 (S.drop q.1)) = won fi 2 S ∧ (q.2.2 && lostAll fi 2 (S.drop q.1)) = lostAll fi 2 S) (fun q => S.length - q.1) (0, false, true) (h0 := ?_) (hs := ?_) (round := ?_)
          · simp
          · refine le_eq (by (repeat' first | exact .nil | refine .keep ?_ | refine .any ?_); first | done | fail) rfl rfl
          · intro ⟨k, w, l⟩ ⟨hk, hw, hlo⟩
            dsimp only at hk hw hlo ⊢
            by_cases hkl : k < S.length
            · have s1 := hS4 k hkl
              have s2 := hS3 k (by omega) hkl
              rw [won_at hkl, t2 _ s1] at hw
              rw [lost_at hkl, t2 _ s1] at hlo
              rw [s2] at s1
              have s3 : tb[S[k]] = tb[2 * B[i / 2][k] + 0] := by congr 1
              rw [s3] at hw hlo
              repeat' first
                | refine w_seq ?_
                | refine w_block ?_
                | refine rb_n ?_
                | refine rb_ret ?_
                | refine rb_eq ?_
                | refine rb_ne (by rfl) ?_
                | refine w_exit ?_
                | refine rt_exit ?_
                | refine w_region ?_
                | refine l_nil ?_
                | refine rt_n ?_
                | refine w_ret ?_
                | refine rt_ret ?_
                | refine w_skip ?_
                | refine w_cond_t rfl ?_
                | refine w_cond_f rfl ?_
                | refine w_cnd rfl (fun hc => ?_) (fun hc => ?_)
                | refine w_cd rfl (fun hc => ?_) (fun hc => ?_)
                | refine w_cn rfl (fun hc => ?_) (fun hc => ?_)
                | refine w_cond rfl (fun hc => ?_) (fun hc => ?_)
                | (exfalso; omega)
                | (refine l_o ?_; first | refine l_eqnil rfl (by kernel_rfl) (by intro b; simp only [nz]; rfl) (fun b hb => ?_) | refine l_op rfl (by first | (apply k_mul; first | exact ops_muln (a := 2) rfl rfl (by omega) | fail) | (apply k_add; first | exact ops_addn (b := 0) rfl rfl (by omega) | fail) | fail) (hk := ?_) | refine l_op (hk := ?_) | (refine l_g ?_; first | refine l_y rfl rfl rfl ?_ | refine l_n rfl rfl rfl rfl (hk := ?_) | refine l_n' rfl rfl rfl (hk := ?_) | refine l_spnd rfl rfl rfl (h1 := fun hc => ?_) (h2 := fun hc => ?_) | refine l_spd rfl rfl rfl (h1 := fun hc => ?_) (h2 := fun hc => ?_) | refine l_spn rfl rfl rfl (h1 := fun hc => ?_) (h2 := fun hc => ?_) | refine l_sp rfl rfl rfl (h1 := fun hc => ?_) (h2 := fun hc => ?_)))
              · rename_i q2; subst q2 hc
                refine rn_mk (k + 1, true, decide (tb[2 * B[i / 2][k] + 0] = 3 - 2)) ?_ (by first | omega | (dsimp only; omega)) (le_eq (by (repeat' first | exact .nil | refine .keep ?_ | refine .any ?_); first | done | fail) rfl rfl)
                refine ⟨by dsimp only; omega, ?_, ?_⟩
                · rw [← hw]; simp
                · rw [← hlo]; simp
              · rename_i q2; subst q2 hc
                refine rn_mk (k + 1, true, false) ?_ (by first | omega | (dsimp only; omega)) (le_eq (by (repeat' first | exact .nil | refine .keep ?_ | refine .any ?_); first | done | fail) rfl rfl)
                refine ⟨by dsimp only; omega, ?_, ?_⟩
                · rw [← hw]; simp
                · rw [← hlo]; simp
              · rename_i q2; subst q2 hc
                refine rn_mk (k + 1, decide (tb[2 * B[i / 2][k] + 0] = 2), decide (tb[2 * B[i / 2][k] + 0] = 3 - 2)) ?_ (by first | omega | (dsimp only; omega)) (le_eq (by (repeat' first | exact .nil | refine .keep ?_ | refine .any ?_); first | done | fail) rfl rfl)
                refine ⟨by dsimp only; omega, ?_, ?_⟩
                · rw [← hw]; simp
                · rw [← hlo]; simp
              · rename_i q2; subst q2 hc
                refine rn_mk (k + 1, decide (tb[2 * B[i / 2][k] + 0] = 2), false) ?_ (by first | omega | (dsimp only; omega)) (le_eq (by (repeat' first | exact .nil | refine .keep ?_ | refine .any ?_); first | done | fail) rfl rfl)
                refine ⟨by dsimp only; omega, ?_, ?_⟩
                · rw [← hw]; simp
                · rw [← hlo]; simp
            · have hd : S.drop k = [] := List.drop_eq_nil_of_le (by omega)
              rw [hd] at hw hlo
              rw [show won fi 2 [] = false from rfl, Bool.or_false] at hw
              rw [show lostAll fi 2 [] = true from rfl, Bool.and_true] at hlo
              rw [w1] at hw
              rw [w2] at hlo
              subst hw hlo
              repeat' first
                | refine w_seq ?_
                | refine w_block ?_
                | refine rb_n ?_
                | refine rb_ret ?_
                | refine rb_eq ?_
                | refine rb_ne (by rfl) ?_
                | refine w_exit ?_
                | refine rt_exit ?_
                | refine w_region ?_
                | refine l_nil ?_
                | refine rt_n ?_
                | refine w_ret ?_
                | refine rt_ret ?_
                | refine w_skip ?_
                | refine w_cond_t rfl ?_
                | refine w_cond_f rfl ?_
                | refine w_cnd rfl (fun hc => ?_) (fun hc => ?_)
                | refine w_cd rfl (fun hc => ?_) (fun hc => ?_)
                | refine w_cn rfl (fun hc => ?_) (fun hc => ?_)
                | refine w_cond rfl (fun hc => ?_) (fun hc => ?_)
                | (exfalso; omega)
                | (refine l_o ?_; first | refine l_eqnil rfl (by kernel_rfl) (by intro b; simp only [nz]; rfl) (fun b hb => ?_) | refine l_op rfl (by first | (apply k_rem; first | exact ops_remn (n := 2) rfl rfl (by omega) | fail) | (apply k_quo; first | exact ops_quon (n := 2) rfl rfl (by omega) (by omega) | fail) | (apply k_mul; first | exact ops_muln (a := 2) rfl rfl (by omega) | fail) | (apply k_add; first | exact ops_addn (b := 0) rfl rfl (by omega) | fail) | (apply k_callf; first | exact ops_callf (hfc := hOi) | fail) | fail) (hk := ?_) | refine l_op (hk := ?_) | (refine l_g ?_; first | refine l_y rfl rfl rfl ?_ | refine l_n rfl rfl rfl rfl (hk := ?_) | refine l_n' rfl rfl rfl (hk := ?_) | refine l_spnd rfl rfl rfl (h1 := fun hc => ?_) (h2 := fun hc => ?_) | refine l_spd rfl rfl rfl (h1 := fun hc => ?_) (h2 := fun hc => ?_) | refine l_spn rfl rfl rfl (h1 := fun hc => ?_) (h2 := fun hc => ?_) | refine l_sp rfl rfl rfl (h1 := fun hc => ?_) (h2 := fun hc => ?_)))
              all_goals try exact absurd rfl hc
              refine rn_mk (i + 1) ?_ (by first | omega | (dsimp only; omega)) (le_eq (by (repeat' first | exact .nil | refine .keep ?_ | refine .any ?_); first | done | fail) rfl rfl)
              show i + 1 ≤ tb.length
              omega
      · repeat' first
          | refine w_seq ?_
          | refine w_block ?_
          | refine rb_n ?_
          | refine rb_ret ?_
          | refine rb_eq ?_
          | refine rb_ne (by rfl) ?_
          | refine w_exit ?_
          | refine rt_exit ?_
          | refine w_region ?_
          | refine l_nil ?_
          | refine rt_n ?_
          | refine w_ret ?_
          | refine rt_ret ?_
          | refine w_skip ?_
          | refine w_cond_t rfl ?_
          | refine w_cond_f rfl ?_
          | refine w_cnd rfl (fun hc => ?_) (fun hc => ?_)
          | refine w_cd rfl (fun hc => ?_) (fun hc => ?_)
          | refine w_cn rfl (fun hc => ?_) (fun hc => ?_)
          | refine w_cond rfl (fun hc => ?_) (fun hc => ?_)
          | (exfalso; omega)
          | (refine l_o ?_; first | refine l_eqnil rfl (by kernel_rfl) (by intro b; simp only [nz]; rfl) (fun b hb => ?_) | refine l_op (hk := ?_) | (refine l_g ?_; first | refine l_y rfl rfl rfl ?_ | refine l_n rfl rfl rfl rfl (hk := ?_) | refine l_n' rfl rfl rfl (hk := ?_) | refine l_spnd rfl rfl rfl (h1 := fun hc => ?_) (h2 := fun hc => ?_) | refine l_spd rfl rfl rfl (h1 := fun hc => ?_) (h2 := fun hc => ?_) | refine l_spn rfl rfl rfl (h1 := fun hc => ?_) (h2 := fun hc => ?_) | refine l_sp rfl rfl rfl (h1 := fun hc => ?_) (h2 := fun hc => ?_)))
        refine en_one (hf := Try.results10) (h := ?_); simp only [lget]; first | refine congrArg RVb ?_ | refine congrArg RVi ?_ | skip
end Go.Proofs.Ytoekdkoadienmaa
