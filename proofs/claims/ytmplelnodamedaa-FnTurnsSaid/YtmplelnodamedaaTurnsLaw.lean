/- The law FnTurns answers true whatever loop is drawn. -/
import Derived.Test.YtmplelnodamedaaDraws
import Derived.Test.YtmplelnodamedaaLoopsLaw
import Derived.Test.YtmplelnodamedaaStopLaw
namespace Go.Proofs.Ytmplelnodamedaa
open Eng
attribute [local irreducible] OpS OpG FC FCr Rel Fl Ef DR Fs
set_option linter.unusedSimpArgs false
set_option maxHeartbeats 0
set_option maxRecDepth 100000

theorem dfs_mx {L R} (h : goodLp L R = true) (hd : (dfsG L R).1 = true) : ∀ i, i < 2 * L.length → (dfsG L R).2.2.getD i 0 = mx (dfsG L R).2.2 ((nxtG L R).getD i []) ∧ (dfsG L R).2.2.getD i 0 ≤ 2 * L.length := by
  have hal := nxtOf_alt (goodN h).inside
  rw [toN_len] at hal
  have hin : In (nxtG L R) (2 * L.length) := fun a k hk => (hal a k hk).1
  have hle : ∀ k, (q0 (2 * L.length)).1.getD k 0 = 0 := fun k => getD_rep _ k
  have hle2 : ∀ k, (q0 (2 * L.length)).2.getD k 0 = 0 := fun k => getD_rep _ k
  have hi0 : Inv (nxtG L R) (2 * L.length) (q0 (2 * L.length)) := ⟨by simp [q0], by simp [q0], fun b hb => by rw [hle] at hb; omega, fun b _ => hle2 b, fun b => by rw [hle]; omega⟩
  have h1 := allD_ok hin (List.range (2 * L.length)) (q0 (2 * L.length)) (fun s hs => List.mem_range.1 hs) hi0 (fun g => by rw [hle]; omega)
  have h2 := (allD_wk hin (List.range (2 * L.length)) (q0 (2 * L.length)) (fun s hs => List.mem_range.1 hs) (by simp [q0]) (by simp [q0]) (q0_bd _) (fun k => by rw [hle]; omega))
  rw [show allD (nxtG L R) (2 * L.length) (List.range (2 * L.length)) (q0 (2 * L.length)) = dfsG L R from rfl] at h1 h2
  rw [if_pos hd] at h1
  obtain ⟨a1, a2, a3⟩ := h1
  intro i hi
  have hb := (h2.bd i).1
  have hc := cbk_le (q := (dfsG L R).2)
  rw [h2.l1] at hc
  exact ⟨(a1.bl i (a2 i (List.mem_range.2 hi))).2, by omega⟩
theorem lawTurns_of (code : List UInt8) {L R : List (List Int)} {a : Int} {left : Bool} (hD : FCr Try.prog 14 [RYs code] (.tup [.agg [OIss L, OIss R], RVi a, RVb left])) : FCr Try.prog 4 [RYs code] (RVb true) := by
  have hB := rBig_ok code
  have hI := implLongest_ok L R a left
  have hS := specLongest_ok L R a left
  cases ho : (okAt L R a && (dfsG L R).1) with
  | false =>
    rw [ho] at hI hS
    have h1 : longest L R a left = 0 := by unfold longest; rw [ho]; rfl
    rw [h1] at hI hS
    refine (fcr_in Try.func4 rfl (by simp only [Try.ntmps4, anys, List.length_cons, List.length_nil, Nat.reduceAdd, Nat.reduceSub, List.replicate_succ, List.replicate_zero, List.cons_append, List.nil_append] <;> rfl) ?_)
    repeat' first
      | refine w_seq ?_
      | refine w_block ?_
      | refine rb_n ?_
      | refine rb_ret ?_
      | refine rb_eq ?_
      | refine rb_ne (by rfl) ?_
      | refine w_exit ?_
      | refine rt_exit ?_
      | refine w_region ?_
      | refine l_nil ?_
      | refine rt_n ?_
      | refine w_ret ?_
      | refine rt_ret ?_
      | refine w_skip ?_
      | refine w_cond_t rfl ?_
      | refine w_cond_f rfl ?_
      | refine w_cnd rfl (fun hc => ?_) (fun hc => ?_)
      | refine w_cd rfl (fun hc => ?_) (fun hc => ?_)
      | refine w_cn rfl (fun hc => ?_) (fun hc => ?_)
      | refine w_cond rfl (fun hc => ?_) (fun hc => ?_)
      | (refine l_o ?_; first | refine l_eqnil rfl (by kernel_rfl) (by intro b; simp only [nz]; rfl) (fun b hb => ?_) | refine l_op rfl (by first | (apply k_callf; first | exact ops_callf (hfc := hB) | exact ops_callf (hfc := hD) | exact ops_callf (hfc := hI) | exact ops_callf (hfc := hS) | fail) | fail) (hk := ?_) | refine l_op (hk := ?_) | (refine l_g ?_; first | refine l_y rfl rfl rfl ?_ | refine l_n rfl rfl rfl rfl (hk := ?_) | refine l_n' rfl rfl rfl (hk := ?_) | refine l_spnd rfl rfl rfl (h1 := fun hc => ?_) (h2 := fun hc => ?_) | refine l_spd rfl rfl rfl (h1 := fun hc => ?_) (h2 := fun hc => ?_) | refine l_spn rfl rfl rfl (h1 := fun hc => ?_) (h2 := fun hc => ?_) | refine l_sp rfl rfl rfl (h1 := fun hc => ?_) (h2 := fun hc => ?_)))
      | refine d_nil ?_
      | (refine d_o ?_; first | refine d_fl (hk := ?_) | refine d_ef rfl (by first | exact .callf (hfc := hB) | exact .callf (hfc := hD) | exact .callf (hfc := hI) | exact .callf (hfc := hS) | exact .callfY (hfc := hB) | exact .callfY (hfc := hD) | exact .callfY (hfc := hI) | exact .callfY (hfc := hS) | fail) (hk := ?_) | refine d_ef (hk := ?_) | (refine d_g ?_; first | refine d_spnd rfl rfl rfl (h1 := fun hc => ?_) (h2 := fun hc => ?_) | refine d_spd rfl rfl rfl (h1 := fun hc => ?_) (h2 := fun hc => ?_) | refine d_spn rfl rfl rfl (h1 := fun hc => ?_) (h2 := fun hc => ?_) | refine d_sp rfl rfl rfl (h1 := fun hc => ?_) (h2 := fun hc => ?_)))
      | (refine w_o ?_; first | refine w_draw (id := 17) (fun _ => true) (fun k => [7].contains k) [[]] 64 (by kernel_rfl) rfl (by kernel_rfl) (by simp [nm, nset, -List.map_take, -List.map_drop]) ?_)
    all_goals first
      | exact absurd rfl hc
      | ((refine en_one (hf := Try.results4) (h := ?_); simp only [lget]; first | refine congrArg RVb ?_ | refine congrArg RVi ?_ | skip); done)
  | true =>
    obtain ⟨ho1, ho2⟩ := Bool.and_eq_true_iff.1 ho
    obtain ⟨hg, b1, b2⟩ := okAt_good ho1
    have g := goodN hg
    have gl := g.len
    have gr := g.lenR
    have hmx := dfs_mx hg ho2
    have hst := stN_lt (left := left) ho1
    rw [finG_len] at hst
    have h1 : longest L R a left = (dfsG L R).2.2.getD (stN a.toNat left) 0 := by unfold longest; rw [ho]; rfl
    rw [ho, h1] at hI hS
    obtain ⟨n, rfl⟩ := Int.eq_ofNat_of_zero_le b1
    rw [Int.toNat_natCast] at *
    obtain ⟨o1, o2⟩ := good_own hg
    rw [o1, o2] at hD
    have e : RLp L R = .agg [RNss (toN L), RNss (toN R)] := by show RV.agg _ = _; rw [g.eL, g.eR]
    have hin := g.inside
    have lA : (toN L).length = L.length := toN_len L
    have lB : (toN R).length = L.length := by rw [toN_len, gr]
    have hlA := g.lL
    have hlB := g.lR
    have hC : ∀ x : Nat, x < L.length → FCr Try.prog 15 [RLp L R, RVn x, RVb (!left)] (.tup [RVn ((dfsG L R).2.2.getD (stN x (!left)) 0), RVb true]) := by
      intro x hx
      have h := implLongest_ok L R (x : Int) (!left)
      have hok : okAt L R (x : Int) = true := by unfold okAt; rw [hg]; simp; omega
      have h2 : longest L R (x : Int) (!left) = (dfsG L R).2.2.getD (stN x (!left)) 0 := by unfold longest; rw [hok, ho2, Int.toNat_natCast]; rfl
      rw [hok, ho2, h2] at h
      exact h
    have hat := nxtTo_at (toN L) (toN R) (toN L).length (stN n left) (by omega)
    rw [show nxtTo (toN L) (toN R) (toN L).length = nxtG L R from rfl] at hat
    obtain ⟨m1, m2⟩ := hmx (stN n left) hst
    rw [hat] at m1
    have hbd : ∀ x, x < L.length → (dfsG L R).2.2.getD (stN x (!left)) 0 ≤ 2 * L.length := fun x hx => (hmx _ (by unfold stN; split <;> omega)).2
    rw [e] at hI hS hC
    clear hat hmx h1 e o1 o2 ho ho1 ho2 g hst
    generalize (dfsG L R).2.2 = tn at *
    generalize toN L = A at *
    generalize toN R = B at *
    have hnA : n < A.length := by omega
    have hnB : n < B.length := by omega
    cases left with
    | true =>
      have es : stN n true = 2 * n := by simp [stN]
      rw [es, if_pos (by omega), show (2 * n) / 2 = n by omega, gd hnA] at m1
      rw [es] at hI hS
      generalize tn.getD (2 * n) 0 = v at *
      rw [show A[n].map (fun x => 2 * x + 1) = A[n].map (fun x => stN x (!true)) from List.map_congr_left fun x _ => by simp [stN]] at m1
      have hT : ∀ x ∈ A[n], x < L.length := fun x hx => by have := hin.2.1 _ (List.getElem_mem hnA) x hx; omega
      have hTl : A[n].length ≤ 24 := hlA _ (List.getElem_mem hnA)
      refine (fcr_in Try.func4 rfl (by simp only [Try.ntmps4, anys, List.length_cons, List.length_nil, Nat.reduceAdd, Nat.reduceSub, List.replicate_succ, List.replicate_zero, List.cons_append, List.nil_append] <;> rfl) ?_)
      repeat' first
        | refine w_seq ?_
        | refine w_block ?_
        | refine rb_n ?_
        | refine rb_ret ?_
        | refine rb_eq ?_
        | refine rb_ne (by rfl) ?_
        | refine w_exit ?_
        | refine rt_exit ?_
        | refine w_region ?_
        | refine l_nil ?_
        | refine rt_n ?_
        | refine w_ret ?_
        | refine rt_ret ?_
        | refine w_skip ?_
        | refine w_cond_t rfl ?_
        | refine w_cond_f rfl ?_
        | refine w_cnd rfl (fun hc => ?_) (fun hc => ?_)
        | refine w_cd rfl (fun hc => ?_) (fun hc => ?_)
        | refine w_cn rfl (fun hc => ?_) (fun hc => ?_)
        | refine w_cond rfl (fun hc => ?_) (fun hc => ?_)
        | (refine l_o ?_; first | refine l_eqnil rfl (by kernel_rfl) (by intro b; simp only [nz]; rfl) (fun b hb => ?_) | refine l_op rfl (by first | (apply k_callf; first | exact ops_callf (hfc := hB) | exact ops_callf (hfc := hD) | exact ops_callf (hfc := hI) | exact ops_callf (hfc := hS) | fail) | fail) (hk := ?_) | refine l_op (hk := ?_) | (refine l_g ?_; first | refine l_y rfl rfl rfl ?_ | refine l_n rfl rfl rfl rfl (hk := ?_) | refine l_n' rfl rfl rfl (hk := ?_) | refine l_spnd rfl rfl rfl (h1 := fun hc => ?_) (h2 := fun hc => ?_) | refine l_spd rfl rfl rfl (h1 := fun hc => ?_) (h2 := fun hc => ?_) | refine l_spn rfl rfl rfl (h1 := fun hc => ?_) (h2 := fun hc => ?_) | refine l_sp rfl rfl rfl (h1 := fun hc => ?_) (h2 := fun hc => ?_)))
        | refine d_nil ?_
        | (refine d_o ?_; first | refine d_fl (hk := ?_) | refine d_ef rfl (by first | exact .callf (hfc := hB) | exact .callf (hfc := hD) | exact .callf (hfc := hI) | exact .callf (hfc := hS) | exact .callfY (hfc := hB) | exact .callfY (hfc := hD) | exact .callfY (hfc := hI) | exact .callfY (hfc := hS) | fail) (hk := ?_) | refine d_ef (hk := ?_) | (refine d_g ?_; first | refine d_spnd rfl rfl rfl (h1 := fun hc => ?_) (h2 := fun hc => ?_) | refine d_spd rfl rfl rfl (h1 := fun hc => ?_) (h2 := fun hc => ?_) | refine d_spn rfl rfl rfl (h1 := fun hc => ?_) (h2 := fun hc => ?_) | refine d_sp rfl rfl rfl (h1 := fun hc => ?_) (h2 := fun hc => ?_)))
        | (refine w_o ?_; first | refine w_draw (id := 17) (fun _ => true) (fun k => [7].contains k) [[]] 64 (by kernel_rfl) rfl (by kernel_rfl) (by simp [nm, nset, -List.map_take, -List.map_drop]) ?_)
      · ((refine en_one (hf := Try.results4) (h := ?_); simp only [lget]; first | refine congrArg RVb ?_ | refine congrArg RVi ?_ | skip); done)
      · exact absurd rfl hc
      refine w_loopm (ι := Nat × Nat) (fun q => [(12, RVn q.1), (11, RVn q.2)]) (fun q => [(3, 2, [.agg [RNss A, RNss B]])]) (fun q => q.1 ≤ A[n].length ∧ q.2 = mx tn ((A[n].take q.1).map fun x => stN x (!true))) (fun q => A[n].length - q.1) (0, 0) (h0 := ?_) (hs := ?_) (round := ?_)
      · exact ⟨Nat.zero_le _, rfl⟩
      · refine le_eq (by (repeat' first | exact .nil | refine .keep ?_ | refine .any ?_); first | done | fail) rfl rfl
      · intro ⟨k, m⟩ ⟨hk, hm⟩
        dsimp only at hk hm ⊢
        by_cases hkl : k < A[n].length
        · have hx := hT _ (List.getElem_mem hkl)
          have hc1 := hC _ hx
          have hb1 := hbd _ hx
          have hs : mx tn ((A[n].take (k + 1)).map fun x => stN x (!true)) = max m (tn.getD (stN A[n][k] (!true)) 0 + 1) := by
            rw [List.take_succ_eq_append_getElem hkl, List.map_append, List.map_cons, List.map_nil, mx_snoc, ← hm]
          clear hC hbd hm
          generalize tn.getD (stN A[n][k] (!true)) 0 = y at *
          repeat' first
            | refine w_seq ?_
            | refine w_block ?_
            | refine rb_n ?_
            | refine rb_ret ?_
            | refine rb_eq ?_
            | refine rb_ne (by rfl) ?_
            | refine w_exit ?_
            | refine rt_exit ?_
            | refine w_region ?_
            | refine l_nil ?_
            | refine rt_n ?_
            | refine w_ret ?_
            | refine rt_ret ?_
            | refine w_skip ?_
            | refine w_cond_t rfl ?_
            | refine w_cond_f rfl ?_
            | refine w_cnd rfl (fun hc => ?_) (fun hc => ?_)
            | refine w_cd rfl (fun hc => ?_) (fun hc => ?_)
            | refine w_cn rfl (fun hc => ?_) (fun hc => ?_)
            | refine w_cond rfl (fun hc => ?_) (fun hc => ?_)
            | (exfalso; omega)
            | (refine l_o ?_; first | refine l_eqnil rfl (by kernel_rfl) (by intro b; simp only [nz]; rfl) (fun b hb => ?_) | refine l_op rfl (by first | (apply k_add; first | exact ops_addn (b := 1) rfl rfl (by omega) | fail) | (apply k_callf; first | exact ops_callf (hfc := hc1) | fail) | fail) (hk := ?_) | refine l_op (hk := ?_) | (refine l_g ?_; first | refine l_y rfl rfl rfl ?_ | refine l_n rfl rfl rfl rfl (hk := ?_) | refine l_n' rfl rfl rfl (hk := ?_) | refine l_spnd rfl rfl rfl (h1 := fun hc => ?_) (h2 := fun hc => ?_) | refine l_spd rfl rfl rfl (h1 := fun hc => ?_) (h2 := fun hc => ?_) | refine l_spn rfl rfl rfl (h1 := fun hc => ?_) (h2 := fun hc => ?_) | refine l_sp rfl rfl rfl (h1 := fun hc => ?_) (h2 := fun hc => ?_)))
            | refine d_nil ?_
            | (refine d_o ?_; first | refine d_fl rfl (by first | exact .pl (by first | (apply q_add; first | exact fs_addn (b := 1) rfl rfl (by omega) | fail) | fail) | exact .ye rfl rfl rfl (by first | (apply q_add; first | exact fs_addn (b := 1) rfl rfl (by omega) | fail) | fail) | fail) (hk := ?_) | refine d_fl (hk := ?_) | refine d_ef rfl (by first | exact .callf (hfc := hc1) | exact .callfY (hfc := hc1) | fail) (hk := ?_) | refine d_ef (hk := ?_) | (refine d_g ?_; first | refine d_spnd rfl rfl rfl (h1 := fun hc => ?_) (h2 := fun hc => ?_) | refine d_spd rfl rfl rfl (h1 := fun hc => ?_) (h2 := fun hc => ?_) | refine d_spn rfl rfl rfl (h1 := fun hc => ?_) (h2 := fun hc => ?_) | refine d_sp rfl rfl rfl (h1 := fun hc => ?_) (h2 := fun hc => ?_)))
            | (refine w_o ?_; first | refine w_draw (id := 17) (fun _ => true) (fun k => [7].contains k) [[]] 64 (by kernel_rfl) rfl (by kernel_rfl) (by simp [nm, nset, -List.map_take, -List.map_drop]) ?_)
          · refine rn_mk (k + 1, y + 1) ?_ (by first | omega | (dsimp only; omega)) (le_eq (by (repeat' first | exact .nil | refine .keep ?_ | refine .any ?_); first | done | fail) rfl rfl)
            exact ⟨by dsimp only; omega, by dsimp only; rw [hs]; omega⟩
          · refine rn_mk (k + 1, m) ?_ (by first | omega | (dsimp only; omega)) (le_eq (by (repeat' first | exact .nil | refine .keep ?_ | refine .any ?_); first | done | fail) rfl rfl)
            exact ⟨by dsimp only; omega, by dsimp only; rw [hs]; omega⟩
        · rw [List.take_of_length_le (by omega), ← m1] at hm
          subst hm
          repeat' first
            | refine w_seq ?_
            | refine w_block ?_
            | refine rb_n ?_
            | refine rb_ret ?_
            | refine rb_eq ?_
            | refine rb_ne (by rfl) ?_
            | refine w_exit ?_
            | refine rt_exit ?_
            | refine w_region ?_
            | refine l_nil ?_
            | refine rt_n ?_
            | refine w_ret ?_
            | refine rt_ret ?_
            | refine w_skip ?_
            | refine w_cond_t rfl ?_
            | refine w_cond_f rfl ?_
            | refine w_cnd rfl (fun hc => ?_) (fun hc => ?_)
            | refine w_cd rfl (fun hc => ?_) (fun hc => ?_)
            | refine w_cn rfl (fun hc => ?_) (fun hc => ?_)
            | refine w_cond rfl (fun hc => ?_) (fun hc => ?_)
            | (exfalso; omega)
            | (refine l_o ?_; first | refine l_eqnil rfl (by kernel_rfl) (by intro b; simp only [nz]; rfl) (fun b hb => ?_) | refine l_op (hk := ?_) | (refine l_g ?_; first | refine l_y rfl rfl rfl ?_ | refine l_n rfl rfl rfl rfl (hk := ?_) | refine l_n' rfl rfl rfl (hk := ?_) | refine l_spnd rfl rfl rfl (h1 := fun hc => ?_) (h2 := fun hc => ?_) | refine l_spd rfl rfl rfl (h1 := fun hc => ?_) (h2 := fun hc => ?_) | refine l_spn rfl rfl rfl (h1 := fun hc => ?_) (h2 := fun hc => ?_) | refine l_sp rfl rfl rfl (h1 := fun hc => ?_) (h2 := fun hc => ?_)))
            | refine d_nil ?_
            | (refine d_o ?_; first | refine d_fl (hk := ?_) | refine d_ef (hk := ?_) | (refine d_g ?_; first | refine d_spnd rfl rfl rfl (h1 := fun hc => ?_) (h2 := fun hc => ?_) | refine d_spd rfl rfl rfl (h1 := fun hc => ?_) (h2 := fun hc => ?_) | refine d_spn rfl rfl rfl (h1 := fun hc => ?_) (h2 := fun hc => ?_) | refine d_sp rfl rfl rfl (h1 := fun hc => ?_) (h2 := fun hc => ?_)))
            | (refine w_o ?_; first | refine w_draw (id := 17) (fun _ => true) (fun k => [7].contains k) [[]] 64 (by kernel_rfl) rfl (by kernel_rfl) (by simp [nm, nset, -List.map_take, -List.map_drop]) ?_)
          refine en_one (hf := Try.results4) (h := ?_); simp only [lget]; first | refine congrArg RVb ?_ | refine congrArg RVi ?_ | skip
          simp
    | false =>
      have es : stN n false = 2 * n + 1 := by simp [stN]
      rw [es, if_neg (by omega), show (2 * n + 1) / 2 = n by omega, gd hnB] at m1
      rw [es] at hI hS
      generalize tn.getD (2 * n + 1) 0 = v at *
      rw [show B[n].map (fun x => 2 * x) = B[n].map (fun x => stN x (!false)) from List.map_congr_left fun x _ => by simp [stN]] at m1
      have hT : ∀ x ∈ B[n], x < L.length := fun x hx => by have := hin.2.2 _ (List.getElem_mem hnB) x hx; omega
      have hTl : B[n].length ≤ 24 := hlB _ (List.getElem_mem hnB)
      refine (fcr_in Try.func4 rfl (by simp only [Try.ntmps4, anys, List.length_cons, List.length_nil, Nat.reduceAdd, Nat.reduceSub, List.replicate_succ, List.replicate_zero, List.cons_append, List.nil_append] <;> rfl) ?_)
      repeat' first
        | refine w_seq ?_
        | refine w_block ?_
        | refine rb_n ?_
        | refine rb_ret ?_
        | refine rb_eq ?_
        | refine rb_ne (by rfl) ?_
        | refine w_exit ?_
        | refine rt_exit ?_
        | refine w_region ?_
        | refine l_nil ?_
        | refine rt_n ?_
        | refine w_ret ?_
        | refine rt_ret ?_
        | refine w_skip ?_
        | refine w_cond_t rfl ?_
        | refine w_cond_f rfl ?_
        | refine w_cnd rfl (fun hc => ?_) (fun hc => ?_)
        | refine w_cd rfl (fun hc => ?_) (fun hc => ?_)
        | refine w_cn rfl (fun hc => ?_) (fun hc => ?_)
        | refine w_cond rfl (fun hc => ?_) (fun hc => ?_)
        | (refine l_o ?_; first | refine l_eqnil rfl (by kernel_rfl) (by intro b; simp only [nz]; rfl) (fun b hb => ?_) | refine l_op rfl (by first | (apply k_callf; first | exact ops_callf (hfc := hB) | exact ops_callf (hfc := hD) | exact ops_callf (hfc := hI) | exact ops_callf (hfc := hS) | fail) | fail) (hk := ?_) | refine l_op (hk := ?_) | (refine l_g ?_; first | refine l_y rfl rfl rfl ?_ | refine l_n rfl rfl rfl rfl (hk := ?_) | refine l_n' rfl rfl rfl (hk := ?_) | refine l_spnd rfl rfl rfl (h1 := fun hc => ?_) (h2 := fun hc => ?_) | refine l_spd rfl rfl rfl (h1 := fun hc => ?_) (h2 := fun hc => ?_) | refine l_spn rfl rfl rfl (h1 := fun hc => ?_) (h2 := fun hc => ?_) | refine l_sp rfl rfl rfl (h1 := fun hc => ?_) (h2 := fun hc => ?_)))
        | refine d_nil ?_
        | (refine d_o ?_; first | refine d_fl (hk := ?_) | refine d_ef rfl (by first | exact .callf (hfc := hB) | exact .callf (hfc := hD) | exact .callf (hfc := hI) | exact .callf (hfc := hS) | exact .callfY (hfc := hB) | exact .callfY (hfc := hD) | exact .callfY (hfc := hI) | exact .callfY (hfc := hS) | fail) (hk := ?_) | refine d_ef (hk := ?_) | (refine d_g ?_; first | refine d_spnd rfl rfl rfl (h1 := fun hc => ?_) (h2 := fun hc => ?_) | refine d_spd rfl rfl rfl (h1 := fun hc => ?_) (h2 := fun hc => ?_) | refine d_spn rfl rfl rfl (h1 := fun hc => ?_) (h2 := fun hc => ?_) | refine d_sp rfl rfl rfl (h1 := fun hc => ?_) (h2 := fun hc => ?_)))
        | (refine w_o ?_; first | refine w_draw (id := 17) (fun _ => true) (fun k => [7].contains k) [[]] 64 (by kernel_rfl) rfl (by kernel_rfl) (by simp [nm, nset, -List.map_take, -List.map_drop]) ?_)
      · ((refine en_one (hf := Try.results4) (h := ?_); simp only [lget]; first | refine congrArg RVb ?_ | refine congrArg RVi ?_ | skip); done)
      · exact absurd rfl hc
      refine w_loopm (ι := Nat × Nat) (fun q => [(12, RVn q.1), (11, RVn q.2)]) (fun q => [(3, 2, [.agg [RNss A, RNss B]])]) (fun q => q.1 ≤ B[n].length ∧ q.2 = mx tn ((B[n].take q.1).map fun x => stN x (!false))) (fun q => B[n].length - q.1) (0, 0) (h0 := ?_) (hs := ?_) (round := ?_)
      · exact ⟨Nat.zero_le _, rfl⟩
      · refine le_eq (by (repeat' first | exact .nil | refine .keep ?_ | refine .any ?_); first | done | fail) rfl rfl
      · intro ⟨k, m⟩ ⟨hk, hm⟩
        dsimp only at hk hm ⊢
        by_cases hkl : k < B[n].length
        · have hx := hT _ (List.getElem_mem hkl)
          have hc1 := hC _ hx
          have hb1 := hbd _ hx
          have hs : mx tn ((B[n].take (k + 1)).map fun x => stN x (!false)) = max m (tn.getD (stN B[n][k] (!false)) 0 + 1) := by
            rw [List.take_succ_eq_append_getElem hkl, List.map_append, List.map_cons, List.map_nil, mx_snoc, ← hm]
          clear hC hbd hm
          generalize tn.getD (stN B[n][k] (!false)) 0 = y at *
          repeat' first
            | refine w_seq ?_
            | refine w_block ?_
            | refine rb_n ?_
            | refine rb_ret ?_
            | refine rb_eq ?_
            | refine rb_ne (by rfl) ?_
            | refine w_exit ?_
            | refine rt_exit ?_
            | refine w_region ?_
            | refine l_nil ?_
            | refine rt_n ?_
            | refine w_ret ?_
            | refine rt_ret ?_
            | refine w_skip ?_
            | refine w_cond_t rfl ?_
            | refine w_cond_f rfl ?_
            | refine w_cnd rfl (fun hc => ?_) (fun hc => ?_)
            | refine w_cd rfl (fun hc => ?_) (fun hc => ?_)
            | refine w_cn rfl (fun hc => ?_) (fun hc => ?_)
            | refine w_cond rfl (fun hc => ?_) (fun hc => ?_)
            | (exfalso; omega)
            | (refine l_o ?_; first | refine l_eqnil rfl (by kernel_rfl) (by intro b; simp only [nz]; rfl) (fun b hb => ?_) | refine l_op rfl (by first | (apply k_add; first | exact ops_addn (b := 1) rfl rfl (by omega) | fail) | (apply k_callf; first | exact ops_callf (hfc := hc1) | fail) | fail) (hk := ?_) | refine l_op (hk := ?_) | (refine l_g ?_; first | refine l_y rfl rfl rfl ?_ | refine l_n rfl rfl rfl rfl (hk := ?_) | refine l_n' rfl rfl rfl (hk := ?_) | refine l_spnd rfl rfl rfl (h1 := fun hc => ?_) (h2 := fun hc => ?_) | refine l_spd rfl rfl rfl (h1 := fun hc => ?_) (h2 := fun hc => ?_) | refine l_spn rfl rfl rfl (h1 := fun hc => ?_) (h2 := fun hc => ?_) | refine l_sp rfl rfl rfl (h1 := fun hc => ?_) (h2 := fun hc => ?_)))
            | refine d_nil ?_
            | (refine d_o ?_; first | refine d_fl rfl (by first | exact .pl (by first | (apply q_add; first | exact fs_addn (b := 1) rfl rfl (by omega) | fail) | fail) | exact .ye rfl rfl rfl (by first | (apply q_add; first | exact fs_addn (b := 1) rfl rfl (by omega) | fail) | fail) | fail) (hk := ?_) | refine d_fl (hk := ?_) | refine d_ef rfl (by first | exact .callf (hfc := hc1) | exact .callfY (hfc := hc1) | fail) (hk := ?_) | refine d_ef (hk := ?_) | (refine d_g ?_; first | refine d_spnd rfl rfl rfl (h1 := fun hc => ?_) (h2 := fun hc => ?_) | refine d_spd rfl rfl rfl (h1 := fun hc => ?_) (h2 := fun hc => ?_) | refine d_spn rfl rfl rfl (h1 := fun hc => ?_) (h2 := fun hc => ?_) | refine d_sp rfl rfl rfl (h1 := fun hc => ?_) (h2 := fun hc => ?_)))
            | (refine w_o ?_; first | refine w_draw (id := 17) (fun _ => true) (fun k => [7].contains k) [[]] 64 (by kernel_rfl) rfl (by kernel_rfl) (by simp [nm, nset, -List.map_take, -List.map_drop]) ?_)
          · refine rn_mk (k + 1, y + 1) ?_ (by first | omega | (dsimp only; omega)) (le_eq (by (repeat' first | exact .nil | refine .keep ?_ | refine .any ?_); first | done | fail) rfl rfl)
            exact ⟨by dsimp only; omega, by dsimp only; rw [hs]; omega⟩
          · refine rn_mk (k + 1, m) ?_ (by first | omega | (dsimp only; omega)) (le_eq (by (repeat' first | exact .nil | refine .keep ?_ | refine .any ?_); first | done | fail) rfl rfl)
            exact ⟨by dsimp only; omega, by dsimp only; rw [hs]; omega⟩
        · rw [List.take_of_length_le (by omega), ← m1] at hm
          subst hm
          repeat' first
            | refine w_seq ?_
            | refine w_block ?_
            | refine rb_n ?_
            | refine rb_ret ?_
            | refine rb_eq ?_
            | refine rb_ne (by rfl) ?_
            | refine w_exit ?_
            | refine rt_exit ?_
            | refine w_region ?_
            | refine l_nil ?_
            | refine rt_n ?_
            | refine w_ret ?_
            | refine rt_ret ?_
            | refine w_skip ?_
            | refine w_cond_t rfl ?_
            | refine w_cond_f rfl ?_
            | refine w_cnd rfl (fun hc => ?_) (fun hc => ?_)
            | refine w_cd rfl (fun hc => ?_) (fun hc => ?_)
            | refine w_cn rfl (fun hc => ?_) (fun hc => ?_)
            | refine w_cond rfl (fun hc => ?_) (fun hc => ?_)
            | (exfalso; omega)
            | (refine l_o ?_; first | refine l_eqnil rfl (by kernel_rfl) (by intro b; simp only [nz]; rfl) (fun b hb => ?_) | refine l_op (hk := ?_) | (refine l_g ?_; first | refine l_y rfl rfl rfl ?_ | refine l_n rfl rfl rfl rfl (hk := ?_) | refine l_n' rfl rfl rfl (hk := ?_) | refine l_spnd rfl rfl rfl (h1 := fun hc => ?_) (h2 := fun hc => ?_) | refine l_spd rfl rfl rfl (h1 := fun hc => ?_) (h2 := fun hc => ?_) | refine l_spn rfl rfl rfl (h1 := fun hc => ?_) (h2 := fun hc => ?_) | refine l_sp rfl rfl rfl (h1 := fun hc => ?_) (h2 := fun hc => ?_)))
            | refine d_nil ?_
            | (refine d_o ?_; first | refine d_fl (hk := ?_) | refine d_ef (hk := ?_) | (refine d_g ?_; first | refine d_spnd rfl rfl rfl (h1 := fun hc => ?_) (h2 := fun hc => ?_) | refine d_spd rfl rfl rfl (h1 := fun hc => ?_) (h2 := fun hc => ?_) | refine d_spn rfl rfl rfl (h1 := fun hc => ?_) (h2 := fun hc => ?_) | refine d_sp rfl rfl rfl (h1 := fun hc => ?_) (h2 := fun hc => ?_)))
            | (refine w_o ?_; first | refine w_draw (id := 17) (fun _ => true) (fun k => [7].contains k) [[]] 64 (by kernel_rfl) rfl (by kernel_rfl) (by simp [nm, nset, -List.map_take, -List.map_drop]) ?_)
          refine en_one (hf := Try.results4) (h := ?_); simp only [lget]; first | refine congrArg RVb ?_ | refine congrArg RVi ?_ | skip
          simp
end Go.Proofs.Ytmplelnodamedaa
