/- HoldTable, StopAtLeast, StopSame of the reference answer as the program's. For all loops and places. -/
import Derived.Test.YtmalajoglcpijaaHoldS
namespace Go.Proofs.Ytmalajoglcpijaa
open Eng
attribute [local irreducible] OpS OpG FC FCr Rel Fl Ef DR Fs
set_option linter.unusedSimpArgs false
set_option maxHeartbeats 0
set_option maxRecDepth 100000

theorem hldJ_len (gL gR hL hR : List (List Int)) : (hldJ gL gR hL hR).length = nJ gL hL := by simp [hldJ, hld]
theorem specHold_ok (gL gR hL hR : List (List Int)) : FCr Try.prog 20 [RLp gL gR, RLp hL hR] (.tup [OBss (tblJ gL gR hL hR), RVb (stops gL gR && stops hL hR)]) := by
  have hG := specStopper_ok gL gR
  have hH := specStopper_ok hL hR
  unfold tblJ
  cases cg : stops gL gR with
  | false =>
    rw [cg] at hG
    refine (fcr_in Try.func20 rfl (by simp only [Try.ntmps20, anys, List.length_cons, List.length_nil, Nat.reduceAdd, Nat.reduceSub, List.replicate_succ, List.replicate_zero, List.cons_append, List.nil_append] <;> rfl) ?_)
    repeat' first
      | refine w_seq ?_
      | refine w_block ?_
      | refine rb_n ?_
      | refine rb_ret ?_
      | refine rb_eq ?_
      | refine rb_ne (by rfl) ?_
      | refine w_exit ?_
      | refine rt_exit ?_
      | refine w_region ?_
      | refine l_nil ?_
      | refine rt_n ?_
      | refine w_ret ?_
      | refine rt_ret ?_
      | refine w_skip ?_
      | refine w_cond_t rfl ?_
      | refine w_cond_f rfl ?_
      | refine w_cnd rfl (fun hc => ?_) (fun hc => ?_)
      | refine w_cd rfl (fun hc => ?_) (fun hc => ?_)
      | refine w_cn rfl (fun hc => ?_) (fun hc => ?_)
      | refine w_cond rfl (fun hc => ?_) (fun hc => ?_)
      | (refine l_o ?_; first | refine l_op rfl (by first | (apply k_callf; first | exact ops_callf (hfc := hG) | fail) | fail) (hk := ?_) | refine l_op (hk := ?_) | (refine l_g ?_; first | refine l_y rfl rfl rfl ?_ | refine l_n rfl rfl rfl rfl (hk := ?_) | refine l_n' rfl rfl rfl (hk := ?_) | refine l_spnd rfl rfl rfl (h1 := fun hc => ?_) (h2 := fun hc => ?_) | refine l_spd rfl rfl rfl (h1 := fun hc => ?_) (h2 := fun hc => ?_) | refine l_spn rfl rfl rfl (h1 := fun hc => ?_) (h2 := fun hc => ?_) | refine l_sp rfl rfl rfl (h1 := fun hc => ?_) (h2 := fun hc => ?_)))
    refine en_endn ([.ow 1 [], RVb false]) (hf := Try.results20) (hr := ?_); simp only [ne]; first | rfl | skip
  | true =>
    rw [cg] at hG
    cases ch : stops hL hR with
    | false =>
      rw [ch] at hH
      refine (fcr_in Try.func20 rfl (by simp only [Try.ntmps20, anys, List.length_cons, List.length_nil, Nat.reduceAdd, Nat.reduceSub, List.replicate_succ, List.replicate_zero, List.cons_append, List.nil_append] <;> rfl) ?_)
      repeat' first
        | refine w_seq ?_
        | refine w_block ?_
        | refine rb_n ?_
        | refine rb_ret ?_
        | refine rb_eq ?_
        | refine rb_ne (by rfl) ?_
        | refine w_exit ?_
        | refine rt_exit ?_
        | refine w_region ?_
        | refine l_nil ?_
        | refine rt_n ?_
        | refine w_ret ?_
        | refine rt_ret ?_
        | refine w_skip ?_
        | refine w_cond_t rfl ?_
        | refine w_cond_f rfl ?_
        | refine w_cnd rfl (fun hc => ?_) (fun hc => ?_)
        | refine w_cd rfl (fun hc => ?_) (fun hc => ?_)
        | refine w_cn rfl (fun hc => ?_) (fun hc => ?_)
        | refine w_cond rfl (fun hc => ?_) (fun hc => ?_)
        | (refine l_o ?_; first | refine l_op rfl (by first | (apply k_callf; first | exact ops_callf (hfc := hG) | exact ops_callf (hfc := hH) | fail) | fail) (hk := ?_) | refine l_op (hk := ?_) | (refine l_g ?_; first | refine l_y rfl rfl rfl ?_ | refine l_n rfl rfl rfl rfl (hk := ?_) | refine l_n' rfl rfl rfl (hk := ?_) | refine l_spnd rfl rfl rfl (h1 := fun hc => ?_) (h2 := fun hc => ?_) | refine l_spd rfl rfl rfl (h1 := fun hc => ?_) (h2 := fun hc => ?_) | refine l_spn rfl rfl rfl (h1 := fun hc => ?_) (h2 := fun hc => ?_) | refine l_sp rfl rfl rfl (h1 := fun hc => ?_) (h2 := fun hc => ?_)))
      refine en_endn ([.ow 1 [], RVb false]) (hf := Try.results20) (hr := ?_); simp only [ne]; first | rfl | skip
    | true =>
      rw [ch] at hH
      have hN := l26Hold_ok (stops_good cg) (stops_good ch)
      have hgl := (goodI (stops_good cg)).len
      have hhl := (goodI (stops_good ch)).len
      have hlen := hldJ_len gL gR hL hR
      have hJn : nJ gL hL = 2 * (gL.length * hL.length) := rfl
      have hb : gL.length * hL.length ≤ 1296 := Nat.le_trans (Nat.mul_le_mul hgl hhl) (Nat.le_refl _)
      simp only [Bool.and_self, if_true]
      generalize hldJ gL gR hL hR = H at *
      refine (fcr_in Try.func20 rfl (by simp only [Try.ntmps20, anys, List.length_cons, List.length_nil, Nat.reduceAdd, Nat.reduceSub, List.replicate_succ, List.replicate_zero, List.cons_append, List.nil_append] <;> rfl) ?_)
      repeat' first
        | refine w_seq ?_
        | refine w_block ?_
        | refine rb_n ?_
        | refine rb_ret ?_
        | refine rb_eq ?_
        | refine rb_ne (by rfl) ?_
        | refine w_exit ?_
        | refine rt_exit ?_
        | refine w_region ?_
        | refine l_nil ?_
        | refine rt_n ?_
        | refine w_ret ?_
        | refine rt_ret ?_
        | refine w_skip ?_
        | refine w_cond_t rfl ?_
        | refine w_cond_f rfl ?_
        | refine w_cnd rfl (fun hc => ?_) (fun hc => ?_)
        | refine w_cd rfl (fun hc => ?_) (fun hc => ?_)
        | refine w_cn rfl (fun hc => ?_) (fun hc => ?_)
        | refine w_cond rfl (fun hc => ?_) (fun hc => ?_)
        | (refine l_o ?_; first | refine l_op rfl (by first | (apply k_callf; first | exact ops_callf (hfc := hG) | exact ops_callf (hfc := hH) | exact ops_callf (hfc := hN) | fail) | fail) (hk := ?_) | refine l_op (hk := ?_) | (refine l_g ?_; first | refine l_y rfl rfl rfl ?_ | refine l_n rfl rfl rfl rfl (hk := ?_) | refine l_n' rfl rfl rfl (hk := ?_) | refine l_spnd rfl rfl rfl (h1 := fun hc => ?_) (h2 := fun hc => ?_) | refine l_spd rfl rfl rfl (h1 := fun hc => ?_) (h2 := fun hc => ?_) | refine l_spn rfl rfl rfl (h1 := fun hc => ?_) (h2 := fun hc => ?_) | refine l_sp rfl rfl rfl (h1 := fun hc => ?_) (h2 := fun hc => ?_)))
      refine w_loopm (ι := Nat × List (List Bool)) (fun q => [(8, RVn q.1), (7, .ref 22 0 q.2.length), (22, .any), (9, .any), (10, .any)]) (fun q => [(22, 1, q.2.map OBs), (3, 2, [.agg [RIss hL, RIss hR]]), (2, 2, [.agg [RIss gL, RIss gR]])]) (fun q => q.1 ≤ gL.length ∧ q.2.length = q.1 ∧ q.2 = hTab H q.1 hL.length) (fun q => gL.length - q.1) (0, []) (h0 := ?_) (hs := ?_) (round := ?_)
      · exact ⟨by omega, rfl, rfl⟩
      · refine le_eq (by (repeat' first | exact .nil | refine .keep ?_ | refine .any ?_); first | done | fail) rfl rfl
      · intro ⟨u, out⟩ ⟨hu, hol, ho⟩
        dsimp only at hu hol ho ⊢
        by_cases hul : u < gL.length
        · repeat' first
            | refine w_seq ?_
            | refine w_block ?_
            | refine rb_n ?_
            | refine rb_ret ?_
            | refine rb_eq ?_
            | refine rb_ne (by rfl) ?_
            | refine w_exit ?_
            | refine rt_exit ?_
            | refine w_region ?_
            | refine l_nil ?_
            | refine rt_n ?_
            | refine w_ret ?_
            | refine rt_ret ?_
            | refine w_skip ?_
            | refine w_cond_t rfl ?_
            | refine w_cond_f rfl ?_
            | refine w_cnd rfl (fun hc => ?_) (fun hc => ?_)
            | refine w_cd rfl (fun hc => ?_) (fun hc => ?_)
            | refine w_cn rfl (fun hc => ?_) (fun hc => ?_)
            | refine w_cond rfl (fun hc => ?_) (fun hc => ?_)
            | (exfalso; omega)
            | (refine l_o ?_; first | refine l_op (hk := ?_) | (refine l_g ?_; first | refine l_y rfl rfl rfl ?_ | refine l_n rfl rfl rfl rfl (hk := ?_) | refine l_n' rfl rfl rfl (hk := ?_) | refine l_spnd rfl rfl rfl (h1 := fun hc => ?_) (h2 := fun hc => ?_) | refine l_spd rfl rfl rfl (h1 := fun hc => ?_) (h2 := fun hc => ?_) | refine l_spn rfl rfl rfl (h1 := fun hc => ?_) (h2 := fun hc => ?_) | refine l_sp rfl rfl rfl (h1 := fun hc => ?_) (h2 := fun hc => ?_)))
          refine w_loopm (ι := Nat × List Bool) (fun q => [(10, RVn q.1), (9, .ref 30 0 q.2.length), (30, .any)]) (fun q => [(30, 1, q.2.map RVb), (22, 1, out.map OBs), (3, 2, [.agg [RIss hL, RIss hR]]), (2, 2, [.agg [RIss gL, RIss gR]])]) (fun q => q.1 ≤ hL.length ∧ q.2.length = q.1 ∧ q.2 = (List.range q.1).map fun v => H.getD (2 * (u * hL.length + v) + 1) false) (fun q => hL.length - q.1) (0, []) (h0 := ?_) (hs := ?_) (round := ?_)
          · exact ⟨by omega, rfl, rfl⟩
          · refine le_eq (by (repeat' first | exact .nil | refine .keep ?_ | refine .any ?_); first | done | fail) rfl rfl
          · intro ⟨v, row⟩ ⟨hv, hrl, hr⟩
            dsimp only at hv hrl hr ⊢
            by_cases hvl : v < hL.length
            · have hm1 : u * hL.length + hL.length ≤ gL.length * hL.length := by rw [← Nat.succ_mul]; exact Nat.mul_le_mul_right _ hul
              have hil : 2 * (u * hL.length + v) + 1 < H.length := by omega
              repeat' first
                | refine w_seq ?_
                | refine w_block ?_
                | refine rb_n ?_
                | refine rb_ret ?_
                | refine rb_eq ?_
                | refine rb_ne (by rfl) ?_
                | refine w_exit ?_
                | refine rt_exit ?_
                | refine w_region ?_
                | refine l_nil ?_
                | refine rt_n ?_
                | refine w_ret ?_
                | refine rt_ret ?_
                | refine w_skip ?_
                | refine w_cond_t rfl ?_
                | refine w_cond_f rfl ?_
                | refine w_cnd rfl (fun hc => ?_) (fun hc => ?_)
                | refine w_cd rfl (fun hc => ?_) (fun hc => ?_)
                | refine w_cn rfl (fun hc => ?_) (fun hc => ?_)
                | refine w_cond rfl (fun hc => ?_) (fun hc => ?_)
                | (exfalso; omega)
                | (refine l_o ?_; first | refine l_op rfl (by first | (apply k_mul; first | exact ops_muln (m := u) (n := hL.length) rfl rfl (by omega) | exact ops_muln (m := 2) (n := u * hL.length + v) rfl rfl (by omega) | fail) | (apply k_add; first | exact ops_addn (a := u * hL.length) (b := v) rfl rfl (by omega) | exact ops_addn (a := 2 * (u * hL.length + v)) (b := 1) rfl rfl (by omega) | fail) | fail) (hk := ?_) | refine l_op (hk := ?_) | (refine l_g ?_; first | refine l_y rfl rfl rfl ?_ | refine l_n rfl rfl rfl rfl (hk := ?_) | refine l_n' rfl rfl rfl (hk := ?_) | refine l_spnd rfl rfl rfl (h1 := fun hc => ?_) (h2 := fun hc => ?_) | refine l_spd rfl rfl rfl (h1 := fun hc => ?_) (h2 := fun hc => ?_) | refine l_spn rfl rfl rfl (h1 := fun hc => ?_) (h2 := fun hc => ?_) | refine l_sp rfl rfl rfl (h1 := fun hc => ?_) (h2 := fun hc => ?_)))
              refine rn_mk (v + 1, row ++ [H[2 * (u * hL.length + v) + 1]]) ?_ (by first | omega | (dsimp only; omega)) (le_eq (by (repeat' first | exact .nil | refine .keep ?_ | refine .any ?_); first | done | fail) rfl rfl)
              refine ⟨by dsimp only; omega, by simp; omega, ?_⟩
              dsimp only
              rw [hr, List.range_succ, List.map_append]
              show _ ++ [_] = _ ++ [H.getD (2 * (u * hL.length + v) + 1) false]
              rw [gdB hil]
            · obtain rfl : v = hL.length := by omega
              repeat' first
                | refine w_seq ?_
                | refine w_block ?_
                | refine rb_n ?_
                | refine rb_ret ?_
                | refine rb_eq ?_
                | refine rb_ne (by rfl) ?_
                | refine w_exit ?_
                | refine rt_exit ?_
                | refine w_region ?_
                | refine l_nil ?_
                | refine rt_n ?_
                | refine w_ret ?_
                | refine rt_ret ?_
                | refine w_skip ?_
                | refine w_cond_t rfl ?_
                | refine w_cond_f rfl ?_
                | refine w_cnd rfl (fun hc => ?_) (fun hc => ?_)
                | refine w_cd rfl (fun hc => ?_) (fun hc => ?_)
                | refine w_cn rfl (fun hc => ?_) (fun hc => ?_)
                | refine w_cond rfl (fun hc => ?_) (fun hc => ?_)
                | (exfalso; omega)
                | (refine l_o ?_; first | refine l_op (hk := ?_) | (refine l_g ?_; first | refine l_y rfl rfl rfl ?_ | refine l_n rfl rfl rfl rfl (hk := ?_) | refine l_n' rfl rfl rfl (hk := ?_) | refine l_spnd rfl rfl rfl (h1 := fun hc => ?_) (h2 := fun hc => ?_) | refine l_spd rfl rfl rfl (h1 := fun hc => ?_) (h2 := fun hc => ?_) | refine l_spn rfl rfl rfl (h1 := fun hc => ?_) (h2 := fun hc => ?_) | refine l_sp rfl rfl rfl (h1 := fun hc => ?_) (h2 := fun hc => ?_)))
              refine rn_mk (u + 1, out ++ [row]) ?_ (by first | omega | (dsimp only; omega)) (le_eq (by (repeat' first | exact .nil | refine .keep ?_ | refine .any ?_); first | done | fail) rfl rfl)
              refine ⟨by dsimp only; omega, by simp; omega, ?_⟩
              dsimp only
              rw [ho, hr, hTab, hTab, List.range_succ, List.map_append]
              rfl
        · obtain rfl : u = gL.length := by omega
          rw [ho]
          repeat' first
            | refine w_seq ?_
            | refine w_block ?_
            | refine rb_n ?_
            | refine rb_ret ?_
            | refine rb_eq ?_
            | refine rb_ne (by rfl) ?_
            | refine w_exit ?_
            | refine rt_exit ?_
            | refine w_region ?_
            | refine l_nil ?_
            | refine rt_n ?_
            | refine w_ret ?_
            | refine rt_ret ?_
            | refine w_skip ?_
            | refine w_cond_t rfl ?_
            | refine w_cond_f rfl ?_
            | refine w_cnd rfl (fun hc => ?_) (fun hc => ?_)
            | refine w_cd rfl (fun hc => ?_) (fun hc => ?_)
            | refine w_cn rfl (fun hc => ?_) (fun hc => ?_)
            | refine w_cond rfl (fun hc => ?_) (fun hc => ?_)
            | (exfalso; omega)
            | (refine l_o ?_; first | refine l_op (hk := ?_) | (refine l_g ?_; first | refine l_y rfl rfl rfl ?_ | refine l_n rfl rfl rfl rfl (hk := ?_) | refine l_n' rfl rfl rfl (hk := ?_) | refine l_spnd rfl rfl rfl (h1 := fun hc => ?_) (h2 := fun hc => ?_) | refine l_spd rfl rfl rfl (h1 := fun hc => ?_) (h2 := fun hc => ?_) | refine l_spn rfl rfl rfl (h1 := fun hc => ?_) (h2 := fun hc => ?_) | refine l_sp rfl rfl rfl (h1 := fun hc => ?_) (h2 := fun hc => ?_)))
          refine en_end (hf := Try.results20) (hr := ?_); simp only [ne, nf, nl, nr, lget, reduceIte, Nat.reduceEqDiff]; first | rfl | refine congrArg RVb ?_ | refine congrArg RVi ?_ | skip
theorem specAtLeast_ok (gL gR : List (List Int)) (u : Int) (hL hR : List (List Int)) (v : Int) : FCr Try.prog 25 [RLp gL gR, RVi u, RLp hL hR, RVi v] (.tup [RVb (atl gL gR hL hR u v), RVb (okS gL gR hL hR u v)]) := by
  have hG := specStopper_ok gL gR
  have hH := specStopper_ok hL hR
  have hP := l25At_ok gL gR u
  have hQ := l25At_ok hL hR v
  have e1 : okS gL gR hL hR u v = (stops gL gR && stops hL hR && okAt gL gR u && okAt hL hR v) := by
    unfold okS plc okAt
    cases cg : stops gL gR with
    | false => simp
    | true =>
      cases ch : stops hL hR with
      | false => simp
      | true => rw [stops_good cg, stops_good ch]; simp
  unfold atl
  cases ho : okS gL gR hL hR u v with
  | false =>
    rw [ho] at e1
    simp only [Bool.false_and]
    generalize okAt gL gR u = p at *
    generalize okAt hL hR v = q at *
    generalize stops gL gR = a at *
    generalize stops hL hR = b at *
    refine (fcr_in Try.func25 rfl (by simp only [Try.ntmps25, anys, List.length_cons, List.length_nil, Nat.reduceAdd, Nat.reduceSub, List.replicate_succ, List.replicate_zero, List.cons_append, List.nil_append] <;> rfl) ?_)
    repeat' first
      | refine w_seq ?_
      | refine w_region ?_
      | refine l_nil ?_
      | refine rt_n ?_
      | refine w_ret ?_
      | refine rt_ret ?_
      | refine w_skip ?_
      | refine w_cond_t rfl ?_
      | refine w_cond_f rfl ?_
      | refine w_cnd rfl (fun hc => ?_) (fun hc => ?_)
      | refine w_cd rfl (fun hc => ?_) (fun hc => ?_)
      | refine w_cn rfl (fun hc => ?_) (fun hc => ?_)
      | refine w_cond rfl (fun hc => ?_) (fun hc => ?_)
      | (refine l_o ?_; first | refine l_op rfl (by first | (apply k_callf; first | exact ops_callf (hfc := hG) | exact ops_callf (hfc := hH) | exact ops_callf (hfc := hP) | exact ops_callf (hfc := hQ) | fail) | fail) (hk := ?_) | refine l_op (hk := ?_) | (refine l_g ?_; first | refine l_y rfl rfl rfl ?_ | refine l_n rfl rfl rfl rfl (hk := ?_) | refine l_n' rfl rfl rfl (hk := ?_) | refine l_spnd rfl rfl rfl (h1 := fun hc => ?_) (h2 := fun hc => ?_) | refine l_spd rfl rfl rfl (h1 := fun hc => ?_) (h2 := fun hc => ?_) | refine l_spn rfl rfl rfl (h1 := fun hc => ?_) (h2 := fun hc => ?_) | refine l_sp rfl rfl rfl (h1 := fun hc => ?_) (h2 := fun hc => ?_)))
      | refine d_nil ?_
      | (refine d_o ?_; first | refine d_fl (hk := ?_) | refine d_ef rfl (by first | exact .callf (hfc := hG) | exact .callf (hfc := hH) | exact .callf (hfc := hP) | exact .callf (hfc := hQ) | exact .callfY (hfc := hG) | exact .callfY (hfc := hH) | exact .callfY (hfc := hP) | exact .callfY (hfc := hQ) | fail) (hk := ?_) | refine d_ef (hk := ?_) | (refine d_g ?_; first | refine d_spnd rfl rfl rfl (h1 := fun hc => ?_) (h2 := fun hc => ?_) | refine d_spd rfl rfl rfl (h1 := fun hc => ?_) (h2 := fun hc => ?_) | refine d_spn rfl rfl rfl (h1 := fun hc => ?_) (h2 := fun hc => ?_) | refine d_sp rfl rfl rfl (h1 := fun hc => ?_) (h2 := fun hc => ?_)))
      | (refine w_o ?_; first | refine w_draw (id := 3) (fun _ => true) (fun k => [2].contains k) [[]] 64 (by kernel_rfl) rfl (by kernel_rfl) (by simp [nm, nset, -List.map_take, -List.map_drop]) ?_)
    all_goals first
      | (refine en_end (hf := Try.results25) (hr := ?_); simp only [ne, nf, nl, nr, lget, reduceIte, Nat.reduceEqDiff]; first | rfl | refine congrArg RVb ?_ | refine congrArg RVi ?_ | skip; done)
      | (exfalso; simp_all; done)
  | true =>
    rw [ho] at e1
    have e2 := e1.symm
    simp only [Bool.and_eq_true] at e2
    obtain ⟨⟨⟨cg, ch⟩, cp⟩, cq⟩ := e2
    have hN := l26Hold_ok (stops_good cg) (stops_good ch)
    have hgl := (goodI (stops_good cg)).len
    have hhl := (goodI (stops_good ch)).len
    have hlen := hldJ_len gL gR hL hR
    have hJn : nJ gL hL = 2 * (gL.length * hL.length) := rfl
    have hb : gL.length * hL.length ≤ 1296 := Nat.le_trans (Nat.mul_le_mul hgl hhl) (Nat.le_refl _)
    have bu := okAt_good cp
    have bv := okAt_good cq
    rw [cg] at hG
    rw [ch] at hH
    rw [cp] at hP
    rw [cq] at hQ
    rw [Bool.true_and]
    generalize hldJ gL gR hL hR = H at *
    obtain ⟨a, rfl⟩ := Int.eq_ofNat_of_zero_le bu.2.1
    obtain ⟨b, rfl⟩ := Int.eq_ofNat_of_zero_le bv.2.1
    rw [Int.toNat_natCast, Int.toNat_natCast]
    have hlt := mul_lt (show a < gL.length by omega) (show b < hL.length by omega)
    have hm1 : a * hL.length ≤ gL.length * hL.length := Nat.mul_le_mul_right _ (by omega)
    have hil : 2 * (a * hL.length + b) + 1 < H.length := by omega
    rw [gdB hil]
    refine (fcr_in Try.func25 rfl (by simp only [Try.ntmps25, anys, List.length_cons, List.length_nil, Nat.reduceAdd, Nat.reduceSub, List.replicate_succ, List.replicate_zero, List.cons_append, List.nil_append] <;> rfl) ?_)
    repeat' first
      | refine w_seq ?_
      | refine w_region ?_
      | refine l_nil ?_
      | refine rt_n ?_
      | refine w_ret ?_
      | refine rt_ret ?_
      | refine w_skip ?_
      | refine w_cond_t rfl ?_
      | refine w_cond_f rfl ?_
      | refine w_cnd rfl (fun hc => ?_) (fun hc => ?_)
      | refine w_cd rfl (fun hc => ?_) (fun hc => ?_)
      | refine w_cn rfl (fun hc => ?_) (fun hc => ?_)
      | refine w_cond rfl (fun hc => ?_) (fun hc => ?_)
      | (refine l_o ?_; first | refine l_op rfl (by first | (apply k_mul; first | exact ops_muln (m := a) (n := hL.length) rfl rfl (by omega) | exact ops_muln (m := 2) (n := a * hL.length + b) rfl rfl (by omega) | fail) | (apply k_add; first | exact ops_addn (a := a * hL.length) (b := b) rfl rfl (by omega) | exact ops_addn (a := 2 * (a * hL.length + b)) (b := 1) rfl rfl (by omega) | fail) | (apply k_callf; first | exact ops_callf (hfc := hG) | exact ops_callf (hfc := hH) | exact ops_callf (hfc := hP) | exact ops_callf (hfc := hQ) | exact ops_callf (hfc := hN) | fail) | fail) (hk := ?_) | refine l_op (hk := ?_) | (refine l_g ?_; first | refine l_y rfl rfl rfl ?_ | refine l_n rfl rfl rfl rfl (hk := ?_) | refine l_n' rfl rfl rfl (hk := ?_) | refine l_spnd rfl rfl rfl (h1 := fun hc => ?_) (h2 := fun hc => ?_) | refine l_spd rfl rfl rfl (h1 := fun hc => ?_) (h2 := fun hc => ?_) | refine l_spn rfl rfl rfl (h1 := fun hc => ?_) (h2 := fun hc => ?_) | refine l_sp rfl rfl rfl (h1 := fun hc => ?_) (h2 := fun hc => ?_)))
      | refine d_nil ?_
      | (refine d_o ?_; first | refine d_fl rfl (by first | exact .pl (by first | (apply q_mul; first | exact fs_muln (m := a) (n := hL.length) rfl rfl (by omega) | exact fs_muln (m := 2) (n := a * hL.length + b) rfl rfl (by omega) | fail) | (apply q_add; first | exact fs_addn (a := a * hL.length) (b := b) rfl rfl (by omega) | exact fs_addn (a := 2 * (a * hL.length + b)) (b := 1) rfl rfl (by omega) | fail) | fail) | exact .ye rfl rfl rfl (by first | (apply q_mul; first | exact fs_muln (m := a) (n := hL.length) rfl rfl (by omega) | exact fs_muln (m := 2) (n := a * hL.length + b) rfl rfl (by omega) | fail) | (apply q_add; first | exact fs_addn (a := a * hL.length) (b := b) rfl rfl (by omega) | exact fs_addn (a := 2 * (a * hL.length + b)) (b := 1) rfl rfl (by omega) | fail) | fail) | fail) (hk := ?_) | refine d_fl (hk := ?_) | refine d_ef rfl (by first | exact .callf (hfc := hG) | exact .callf (hfc := hH) | exact .callf (hfc := hP) | exact .callf (hfc := hQ) | exact .callf (hfc := hN) | exact .callfY (hfc := hG) | exact .callfY (hfc := hH) | exact .callfY (hfc := hP) | exact .callfY (hfc := hQ) | exact .callfY (hfc := hN) | fail) (hk := ?_) | refine d_ef (hk := ?_) | (refine d_g ?_; first | refine d_spnd rfl rfl rfl (h1 := fun hc => ?_) (h2 := fun hc => ?_) | refine d_spd rfl rfl rfl (h1 := fun hc => ?_) (h2 := fun hc => ?_) | refine d_spn rfl rfl rfl (h1 := fun hc => ?_) (h2 := fun hc => ?_) | refine d_sp rfl rfl rfl (h1 := fun hc => ?_) (h2 := fun hc => ?_)))
      | (refine w_o ?_; first | refine w_draw (id := 3) (fun _ => true) (fun k => [2].contains k) [[]] 64 (by kernel_rfl) rfl (by kernel_rfl) (by simp [nm, nset, -List.map_take, -List.map_drop]) ?_)
    all_goals first
      | (refine en_end (hf := Try.results25) (hr := ?_); simp only [ne, nf, nl, nr, lget, reduceIte, Nat.reduceEqDiff]; first | rfl | refine congrArg RVb ?_ | refine congrArg RVi ?_ | skip; done)
      | trace_state
theorem okS_comm (gL gR : List (List Int)) (u : Int) (hL hR : List (List Int)) (v : Int) : okS hL hR gL gR v u = okS gL gR hL hR u v := by
  unfold okS
  cases stops gL gR <;> cases stops hL hR <;> cases plc gL u <;> cases plc hL v <;> rfl
theorem specSame_ok (gL gR : List (List Int)) (u : Int) (hL hR : List (List Int)) (v : Int) : FCr Try.prog 27 [RLp gL gR, RVi u, RLp hL hR, RVi v] (.tup [RVb (atl gL gR hL hR u v && atl hL hR gL gR v u), RVb (okS gL gR hL hR u v && okS hL hR gL gR v u)]) := by
  have h1 := specAtLeast_ok gL gR u hL hR v
  have h2 := specAtLeast_ok hL hR v gL gR u
  have h3 : atl gL gR hL hR u v = true → okS gL gR hL hR u v = true := by unfold atl; simp only [Bool.and_eq_true]; exact fun h => h.1
  rw [okS_comm gL gR u hL hR v] at h2
  rw [okS_comm gL gR u hL hR v, Bool.and_self]
  generalize atl gL gR hL hR u v = a at *
  generalize atl hL hR gL gR v u = b at *
  generalize okS gL gR hL hR u v = c at *
  refine (fcr_in Try.func27 rfl (by simp only [Try.ntmps27, anys, List.length_cons, List.length_nil, Nat.reduceAdd, Nat.reduceSub, List.replicate_succ, List.replicate_zero, List.cons_append, List.nil_append] <;> rfl) ?_)
  repeat' first
    | refine w_seq ?_
    | refine w_region ?_
    | refine l_nil ?_
    | refine rt_n ?_
    | refine w_ret ?_
    | refine rt_ret ?_
    | refine w_skip ?_
    | (refine l_o ?_; first | refine l_op rfl (by first | (apply k_callf; first | exact ops_callf (hfc := h1) | exact ops_callf (hfc := h2) | fail) | fail) (hk := ?_) | refine l_op (hk := ?_) | (refine l_g ?_; first | refine l_y rfl rfl rfl ?_ | refine l_n rfl rfl rfl rfl (hk := ?_) | refine l_n' rfl rfl rfl (hk := ?_) | refine l_spnd rfl rfl rfl (h1 := fun hc => ?_) (h2 := fun hc => ?_) | refine l_spd rfl rfl rfl (h1 := fun hc => ?_) (h2 := fun hc => ?_) | refine l_spn rfl rfl rfl (h1 := fun hc => ?_) (h2 := fun hc => ?_) | refine l_sp rfl rfl rfl (h1 := fun hc => ?_) (h2 := fun hc => ?_)))
  all_goals first
    | (refine en_end (hf := Try.results27) (hr := ?_); simp only [ne, nf, nl, nr, lget, reduceIte, Nat.reduceEqDiff]; first | rfl | refine congrArg RVb ?_ | refine congrArg RVi ?_ | skip; done)
    | (subst_vars; refine en_end (hf := Try.results27) (hr := ?_); simp only [ne, nf, nl, nr, lget, reduceIte, Nat.reduceEqDiff]; first | rfl | refine congrArg RVb ?_ | refine congrArg RVi ?_ | skip; done)
    | (simp only [Bool.not_eq_true] at *; subst_vars; refine en_end (hf := Try.results27) (hr := ?_); simp only [ne, nf, nl, nr, lget, reduceIte, Nat.reduceEqDiff]; first | rfl | refine congrArg RVb ?_ | refine congrArg RVi ?_ | skip; done)
    | (cases a <;> cases b <;> cases c <;> simp at * <;> refine en_end (hf := Try.results27) (hr := ?_); simp only [ne, nf, nl, nr, lget, reduceIte, Nat.reduceEqDiff]; first | rfl | refine congrArg RVb ?_ | refine congrArg RVi ?_ | skip; done)
    | trace_state
end Go.Proofs.Ytmalajoglcpijaa
