/- PlacesAlike of the program and of the reference. For all loops. -/
import Derived.Test.YtpcckakchpblcaaGreatDoorJ14
import Derived.Test.YtpcckakchpblcaaGreatDoorJ36
namespace Go.Proofs.YtpcckakchpblcaaGreatDoor
open Eng
attribute [local irreducible] OpS OpG FC FCr Rel Fl Ef DR Fs
set_option linter.unusedSimpArgs false
set_option maxHeartbeats 0
set_option maxRecDepth 100000

theorem diag_holds {gL gR : List (List Int)} (g : GoodI gL gR) {u : Nat} (hu : u < gL.length) : (hldJ gL gR gL gR).getD (2 * (u * gL.length + u) + 1) false = true := by
  have hlt := mul_lt hu hu
  rw [hldJ, hld_at (by unfold nJ; omega), decide_eq_true_eq]
  intro h
  exact diag_no g ((fin (nxtJ gL gR gL gR) (nJ gL gL)).getD (2 * (u * gL.length + u) + 1) (0, 0)).2.toNat u hu h (by omega)
def plaJ (gL gR : List (List Int)) : List Int := if stops gL gR then (List.range gL.length).map fun u => ((firstP (alk (hldJ gL gR gL gR) gL.length u) u 0 : Nat) : Int) else []
theorem implPlaces_ok (gL gR : List (List Int)) : FCr Tryz.prog 20 [RLp gL gR] (.tup [OIs (plaJ gL gR), RVb (stops gL gR)]) := by
  have hH := implHold_ok gL gR gL gR
  rw [Bool.and_self] at hH
  unfold plaJ
  cases cg : stops gL gR with
  | false =>
    rw [cg] at hH
    refine (fcr_in Tryz.func20 rfl (by simp only [Tryz.ntmps20, anys, List.length_cons, List.length_nil, Nat.reduceAdd, Nat.reduceSub, List.replicate_succ, List.replicate_zero, List.cons_append, List.nil_append] <;> rfl) ?_)
    repeat' first
      | refine w_seq ?_
      | refine w_block ?_
      | refine rb_n ?_
      | refine rb_ret ?_
      | refine rb_eq ?_
      | refine rb_ne (by rfl) ?_
      | refine w_exit ?_
      | refine rt_exit ?_
      | refine w_region ?_
      | refine l_nil ?_
      | refine rt_n ?_
      | refine w_ret ?_
      | refine rt_ret ?_
      | refine w_skip ?_
      | refine w_cond_t rfl ?_
      | refine w_cond_f rfl ?_
      | refine w_cnd rfl (fun hc => ?_) (fun hc => ?_)
      | refine w_cd rfl (fun hc => ?_) (fun hc => ?_)
      | refine w_cn rfl (fun hc => ?_) (fun hc => ?_)
      | refine w_cond rfl (fun hc => ?_) (fun hc => ?_)
      | (refine l_o ?_; first | refine l_op rfl (by first | (apply k_callf; first | exact ops_callf (hfc := hH) | fail) | fail) (hk := ?_) | refine l_op (hk := ?_) | (refine l_g ?_; first | refine l_y rfl rfl rfl ?_ | refine l_n rfl rfl rfl rfl (hk := ?_) | refine l_n' rfl rfl rfl (hk := ?_) | refine l_spnd rfl rfl rfl (h1 := fun hc => ?_) (h2 := fun hc => ?_) | refine l_spd rfl rfl rfl (h1 := fun hc => ?_) (h2 := fun hc => ?_) | refine l_spn rfl rfl rfl (h1 := fun hc => ?_) (h2 := fun hc => ?_) | refine l_sp rfl rfl rfl (h1 := fun hc => ?_) (h2 := fun hc => ?_)))
    refine en_endn ([.ow 1 [], RVb false]) (hf := Tryz.results20) (hr := ?_); simp only [ne]; first | rfl | skip
  | true =>
    rw [cg] at hH
    have hT : tblJ gL gR gL gR = hTab (hldJ gL gR gL gR) gL.length gL.length := by unfold tblJ; rw [cg]; rfl
    have hTl : (tblJ gL gR gL gR).length = gL.length := by rw [hT]; simp [hTab]
    have hat : ∀ u v, u < gL.length → v < gL.length → ∃ (h1 : u < (tblJ gL gR gL gR).length) (h2 : v < (tblJ gL gR gL gR)[u].length), (tblJ gL gR gL gR)[u][v] = (hldJ gL gR gL gR).getD (2 * (u * gL.length + v) + 1) false := by
      rw [hT]; exact fun u v hu hv => hTab_at hu hv
    have hdi : ∀ u, u < gL.length → alk (hldJ gL gR gL gR) gL.length u u = true := fun u hu => by unfold alk; rw [diag_holds (goodI (stops_good cg)) hu]; rfl
    have hgl := (goodI (stops_good cg)).len
    simp only [if_true]
    clear hT
    generalize tblJ gL gR gL gR = T at *
    generalize hldJ gL gR gL gR = H at *
    refine (fcr_in Tryz.func20 rfl (by simp only [Tryz.ntmps20, anys, List.length_cons, List.length_nil, Nat.reduceAdd, Nat.reduceSub, List.replicate_succ, List.replicate_zero, List.cons_append, List.nil_append] <;> rfl) ?_)
    repeat' first
      | refine w_seq ?_
      | refine w_block ?_
      | refine rb_n ?_
      | refine rb_ret ?_
      | refine rb_eq ?_
      | refine rb_ne (by rfl) ?_
      | refine w_exit ?_
      | refine rt_exit ?_
      | refine w_region ?_
      | refine l_nil ?_
      | refine rt_n ?_
      | refine w_ret ?_
      | refine rt_ret ?_
      | refine w_skip ?_
      | refine w_cond_t rfl ?_
      | refine w_cond_f rfl ?_
      | refine w_cnd rfl (fun hc => ?_) (fun hc => ?_)
      | refine w_cd rfl (fun hc => ?_) (fun hc => ?_)
      | refine w_cn rfl (fun hc => ?_) (fun hc => ?_)
      | refine w_cond rfl (fun hc => ?_) (fun hc => ?_)
      | (refine l_o ?_; first | refine l_op rfl (by first | (apply k_callf; first | exact ops_callf (hfc := hH) | fail) | fail) (hk := ?_) | refine l_op (hk := ?_) | (refine l_g ?_; first | refine l_y rfl rfl rfl ?_ | refine l_n rfl rfl rfl rfl (hk := ?_) | refine l_n' rfl rfl rfl (hk := ?_) | refine l_spnd rfl rfl rfl (h1 := fun hc => ?_) (h2 := fun hc => ?_) | refine l_spd rfl rfl rfl (h1 := fun hc => ?_) (h2 := fun hc => ?_) | refine l_spn rfl rfl rfl (h1 := fun hc => ?_) (h2 := fun hc => ?_) | refine l_sp rfl rfl rfl (h1 := fun hc => ?_) (h2 := fun hc => ?_)))
    refine w_loopm (ι := Nat × List Int) (fun q => [(20, RVn q.1), (6, .ref 17 0 q.2.length), (17, .any), (7, .any), (8, .any)]) (fun q => [(17, 1, q.2.map RVi), (1, 2, [.agg [RIss gL, RIss gR]])]) (fun q => q.1 ≤ gL.length ∧ q.2.length = q.1 ∧ q.2 = (List.range q.1).map fun u => ((firstP (alk H gL.length u) u 0 : Nat) : Int)) (fun q => gL.length - q.1) (0, []) (h0 := ?_) (hs := ?_) (round := ?_)
    · exact ⟨by omega, rfl, rfl⟩
    · refine le_eq (by (repeat' first | exact .nil | refine .keep ?_ | refine .any ?_); first | done | fail) rfl rfl
    · intro ⟨u, out⟩ ⟨hu, hol, ho⟩
      dsimp only at hu hol ho ⊢
      by_cases hul : u < gL.length
      · repeat' first
          | refine w_seq ?_
          | refine w_block ?_
          | refine rb_n ?_
          | refine rb_ret ?_
          | refine rb_eq ?_
          | refine rb_ne (by rfl) ?_
          | refine w_exit ?_
          | refine rt_exit ?_
          | refine w_region ?_
          | refine l_nil ?_
          | refine rt_n ?_
          | refine w_ret ?_
          | refine rt_ret ?_
          | refine w_skip ?_
          | refine w_cond_t rfl ?_
          | refine w_cond_f rfl ?_
          | refine w_cnd rfl (fun hc => ?_) (fun hc => ?_)
          | refine w_cd rfl (fun hc => ?_) (fun hc => ?_)
          | refine w_cn rfl (fun hc => ?_) (fun hc => ?_)
          | refine w_cond rfl (fun hc => ?_) (fun hc => ?_)
          | (exfalso; omega)
          | (refine l_o ?_; first | refine l_op (hk := ?_) | (refine l_g ?_; first | refine l_y rfl rfl rfl ?_ | refine l_n rfl rfl rfl rfl (hk := ?_) | refine l_n' rfl rfl rfl (hk := ?_) | refine l_spnd rfl rfl rfl (h1 := fun hc => ?_) (h2 := fun hc => ?_) | refine l_spd rfl rfl rfl (h1 := fun hc => ?_) (h2 := fun hc => ?_) | refine l_spn rfl rfl rfl (h1 := fun hc => ?_) (h2 := fun hc => ?_) | refine l_sp rfl rfl rfl (h1 := fun hc => ?_) (h2 := fun hc => ?_)))
        refine w_loopm (ι := Nat) (fun q => [(8, RVn q)]) (fun q => [(17, 1, out.map RVi), (1, 2, [.agg [RIss gL, RIss gR]])]) (fun q => q ≤ u ∧ firstP (alk H gL.length u) (u - q) q = firstP (alk H gL.length u) u 0) (fun q => u - q) 0 (h0 := ?_) (hs := ?_) (round := ?_)
        · exact ⟨by omega, rfl⟩
        · refine le_eq (by (repeat' first | exact .nil | refine .keep ?_ | refine .any ?_); first | done | fail) rfl rfl
        · intro v ⟨hv, hf⟩
          obtain ⟨h1, h2, h3⟩ := hat u v hul (by omega)
          obtain ⟨k1, k2, k3⟩ := hat v u (by omega) hul
          have ha : alk H gL.length u v = (T[u][v] && T[v][u]) := by rw [h3, k3]; rfl
          by_cases hp : alk H gL.length u v = true
          · rw [firstP_yes hp] at hf
            rw [ha, Bool.and_eq_true] at hp
            obtain ⟨c1, c2⟩ := hp
            repeat' first
              | refine w_seq ?_
              | refine w_block ?_
              | refine rb_n ?_
              | refine rb_ret ?_
              | refine rb_eq ?_
              | refine rb_ne (by rfl) ?_
              | refine w_exit ?_
              | refine rt_exit ?_
              | refine w_region ?_
              | refine l_nil ?_
              | refine rt_n ?_
              | refine w_ret ?_
              | refine rt_ret ?_
              | refine w_skip ?_
              | refine w_cond_t rfl ?_
              | refine w_cond_f rfl ?_
              | refine w_cnd rfl (fun hc => ?_) (fun hc => ?_)
              | refine w_cd rfl (fun hc => ?_) (fun hc => ?_)
              | refine w_cn rfl (fun hc => ?_) (fun hc => ?_)
              | refine w_cond rfl (fun hc => ?_) (fun hc => ?_)
              | (exfalso; omega)
              | (exfalso; revert hc; simp [c1, c2]; done)
              | (refine l_o ?_; first | refine l_op (hk := ?_) | (refine l_g ?_; first | refine l_y rfl rfl rfl ?_ | refine l_n rfl rfl rfl rfl (hk := ?_) | refine l_n' rfl rfl rfl (hk := ?_) | refine l_spnd rfl rfl rfl (h1 := fun hc => ?_) (h2 := fun hc => ?_) | refine l_spd rfl rfl rfl (h1 := fun hc => ?_) (h2 := fun hc => ?_) | refine l_spn rfl rfl rfl (h1 := fun hc => ?_) (h2 := fun hc => ?_) | refine l_sp rfl rfl rfl (h1 := fun hc => ?_) (h2 := fun hc => ?_)))
            refine rn_mk (u + 1, out ++ [((v : Nat) : Int)]) ⟨by dsimp only; omega, by simp; omega, ?_⟩ (by dsimp only; omega) ?_
            · dsimp only
              rw [ho, List.range_succ, List.map_append, hf]
              rfl
            · refine le_eq (by (repeat' first | exact .nil | refine .keep ?_ | refine .any ?_); first | done | fail) rfl rfl
          · rw [Bool.not_eq_true] at hp
            obtain ⟨hlt, hst⟩ := firstP_no hp (hdi u hul) hv
            rw [hst] at hf
            rw [ha] at hp
            cases c1 : T[u][v] <;> cases c2 : T[v][u]
            all_goals first
              | (exfalso; rw [c1, c2] at hp; cases hp; done)
              | skip
            all_goals
              repeat' first
                | refine w_seq ?_
                | refine w_block ?_
                | refine rb_n ?_
                | refine rb_ret ?_
                | refine rb_eq ?_
                | refine rb_ne (by rfl) ?_
                | refine w_exit ?_
                | refine rt_exit ?_
                | refine w_region ?_
                | refine l_nil ?_
                | refine rt_n ?_
                | refine w_ret ?_
                | refine rt_ret ?_
                | refine w_skip ?_
                | refine w_cond_t rfl ?_
                | refine w_cond_f rfl ?_
                | refine w_cnd rfl (fun hc => ?_) (fun hc => ?_)
                | refine w_cd rfl (fun hc => ?_) (fun hc => ?_)
                | refine w_cn rfl (fun hc => ?_) (fun hc => ?_)
                | refine w_cond rfl (fun hc => ?_) (fun hc => ?_)
                | (exfalso; omega)
                | (exfalso; revert hc; simp [c1, c2]; done)
                | (refine l_o ?_; first | refine l_op (hk := ?_) | (refine l_g ?_; first | refine l_y rfl rfl rfl ?_ | refine l_n rfl rfl rfl rfl (hk := ?_) | refine l_n' rfl rfl rfl (hk := ?_) | refine l_spnd rfl rfl rfl (h1 := fun hc => ?_) (h2 := fun hc => ?_) | refine l_spd rfl rfl rfl (h1 := fun hc => ?_) (h2 := fun hc => ?_) | refine l_spn rfl rfl rfl (h1 := fun hc => ?_) (h2 := fun hc => ?_) | refine l_sp rfl rfl rfl (h1 := fun hc => ?_) (h2 := fun hc => ?_)))
              refine rn_mk (v + 1) ?_ (by first | omega | (dsimp only; omega)) (le_eq (by (repeat' first | exact .nil | refine .keep ?_ | refine .any ?_); first | done | fail) rfl rfl)
              exact ⟨by omega, hf⟩
      · obtain rfl : u = gL.length := by omega
        rw [← ho]
        repeat' first
          | refine w_seq ?_
          | refine w_block ?_
          | refine rb_n ?_
          | refine rb_ret ?_
          | refine rb_eq ?_
          | refine rb_ne (by rfl) ?_
          | refine w_exit ?_
          | refine rt_exit ?_
          | refine w_region ?_
          | refine l_nil ?_
          | refine rt_n ?_
          | refine w_ret ?_
          | refine rt_ret ?_
          | refine w_skip ?_
          | refine w_cond_t rfl ?_
          | refine w_cond_f rfl ?_
          | refine w_cnd rfl (fun hc => ?_) (fun hc => ?_)
          | refine w_cd rfl (fun hc => ?_) (fun hc => ?_)
          | refine w_cn rfl (fun hc => ?_) (fun hc => ?_)
          | refine w_cond rfl (fun hc => ?_) (fun hc => ?_)
          | (exfalso; omega)
          | (refine l_o ?_; first | refine l_op (hk := ?_) | (refine l_g ?_; first | refine l_y rfl rfl rfl ?_ | refine l_n rfl rfl rfl rfl (hk := ?_) | refine l_n' rfl rfl rfl (hk := ?_) | refine l_spnd rfl rfl rfl (h1 := fun hc => ?_) (h2 := fun hc => ?_) | refine l_spd rfl rfl rfl (h1 := fun hc => ?_) (h2 := fun hc => ?_) | refine l_spn rfl rfl rfl (h1 := fun hc => ?_) (h2 := fun hc => ?_) | refine l_sp rfl rfl rfl (h1 := fun hc => ?_) (h2 := fun hc => ?_)))
        refine en_end (hf := Tryz.results20) (hr := ?_); simp only [ne, nf, nl, nr, lget, reduceIte, Nat.reduceEqDiff]; first | rfl | refine congrArg RVb ?_ | refine congrArg RVi ?_ | skip
theorem specPlaces_ok (gL gR : List (List Int)) : FCr Tryz.prog 21 [RLp gL gR] (.tup [OIs (plaJ gL gR), RVb (stops gL gR)]) := by
  have hG := specStopper_ok gL gR
  unfold plaJ
  cases cg : stops gL gR with
  | false =>
    rw [cg] at hG
    refine (fcr_in Tryz.func21 rfl (by simp only [Tryz.ntmps21, anys, List.length_cons, List.length_nil, Nat.reduceAdd, Nat.reduceSub, List.replicate_succ, List.replicate_zero, List.cons_append, List.nil_append] <;> rfl) ?_)
    repeat' first
      | refine w_seq ?_
      | refine w_block ?_
      | refine rb_n ?_
      | refine rb_ret ?_
      | refine rb_eq ?_
      | refine rb_ne (by rfl) ?_
      | refine w_exit ?_
      | refine rt_exit ?_
      | refine w_region ?_
      | refine l_nil ?_
      | refine rt_n ?_
      | refine w_ret ?_
      | refine rt_ret ?_
      | refine w_skip ?_
      | refine w_cond_t rfl ?_
      | refine w_cond_f rfl ?_
      | refine w_cnd rfl (fun hc => ?_) (fun hc => ?_)
      | refine w_cd rfl (fun hc => ?_) (fun hc => ?_)
      | refine w_cn rfl (fun hc => ?_) (fun hc => ?_)
      | refine w_cond rfl (fun hc => ?_) (fun hc => ?_)
      | (refine l_o ?_; first | refine l_op rfl (by first | (apply k_callf; first | exact ops_callf (hfc := hG) | fail) | fail) (hk := ?_) | refine l_op (hk := ?_) | (refine l_g ?_; first | refine l_y rfl rfl rfl ?_ | refine l_n rfl rfl rfl rfl (hk := ?_) | refine l_n' rfl rfl rfl (hk := ?_) | refine l_spnd rfl rfl rfl (h1 := fun hc => ?_) (h2 := fun hc => ?_) | refine l_spd rfl rfl rfl (h1 := fun hc => ?_) (h2 := fun hc => ?_) | refine l_spn rfl rfl rfl (h1 := fun hc => ?_) (h2 := fun hc => ?_) | refine l_sp rfl rfl rfl (h1 := fun hc => ?_) (h2 := fun hc => ?_)))
    refine en_endn ([.ow 1 [], RVb false]) (hf := Tryz.results21) (hr := ?_); simp only [ne]; first | rfl | skip
  | true =>
    rw [cg] at hG
    have hN := l26Hold_ok (stops_good cg) (stops_good cg)
    have hlen := hldJ_len gL gR gL gR
    have hJn : nJ gL gL = 2 * (gL.length * gL.length) := rfl
    have hdi : ∀ u, u < gL.length → alk (hldJ gL gR gL gR) gL.length u u = true := fun u hu => by unfold alk; rw [diag_holds (goodI (stops_good cg)) hu]; rfl
    have hgl := (goodI (stops_good cg)).len
    have hb : gL.length * gL.length ≤ 1296 := Nat.le_trans (Nat.mul_le_mul hgl hgl) (Nat.le_refl _)
    simp only [if_true]
    generalize hldJ gL gR gL gR = H at *
    refine (fcr_in Tryz.func21 rfl (by simp only [Tryz.ntmps21, anys, List.length_cons, List.length_nil, Nat.reduceAdd, Nat.reduceSub, List.replicate_succ, List.replicate_zero, List.cons_append, List.nil_append] <;> rfl) ?_)
    repeat' first
      | refine w_seq ?_
      | refine w_block ?_
      | refine rb_n ?_
      | refine rb_ret ?_
      | refine rb_eq ?_
      | refine rb_ne (by rfl) ?_
      | refine w_exit ?_
      | refine rt_exit ?_
      | refine w_region ?_
      | refine l_nil ?_
      | refine rt_n ?_
      | refine w_ret ?_
      | refine rt_ret ?_
      | refine w_skip ?_
      | refine w_cond_t rfl ?_
      | refine w_cond_f rfl ?_
      | refine w_cnd rfl (fun hc => ?_) (fun hc => ?_)
      | refine w_cd rfl (fun hc => ?_) (fun hc => ?_)
      | refine w_cn rfl (fun hc => ?_) (fun hc => ?_)
      | refine w_cond rfl (fun hc => ?_) (fun hc => ?_)
      | (refine l_o ?_; first | refine l_op rfl (by first | (apply k_callf; first | exact ops_callf (hfc := hG) | exact ops_callf (hfc := hN) | fail) | fail) (hk := ?_) | refine l_op (hk := ?_) | (refine l_g ?_; first | refine l_y rfl rfl rfl ?_ | refine l_n rfl rfl rfl rfl (hk := ?_) | refine l_n' rfl rfl rfl (hk := ?_) | refine l_spnd rfl rfl rfl (h1 := fun hc => ?_) (h2 := fun hc => ?_) | refine l_spd rfl rfl rfl (h1 := fun hc => ?_) (h2 := fun hc => ?_) | refine l_spn rfl rfl rfl (h1 := fun hc => ?_) (h2 := fun hc => ?_) | refine l_sp rfl rfl rfl (h1 := fun hc => ?_) (h2 := fun hc => ?_)))
    refine w_loopm (ι := Nat × List Int) (fun q => [(7, RVn q.1), (6, .ref 18 0 q.2.length), (18, .any), (8, .any)]) (fun q => [(18, 1, q.2.map RVi), (1, 2, [.agg [RIss gL, RIss gR]])]) (fun q => q.1 ≤ gL.length ∧ q.2.length = q.1 ∧ q.2 = (List.range q.1).map fun u => ((firstP (alk H gL.length u) u 0 : Nat) : Int)) (fun q => gL.length - q.1) (0, []) (h0 := ?_) (hs := ?_) (round := ?_)
    · exact ⟨by omega, rfl, rfl⟩
    · refine le_eq (by (repeat' first | exact .nil | refine .keep ?_ | refine .any ?_); first | done | fail) rfl rfl
    · intro ⟨u, out⟩ ⟨hu, hol, ho⟩
      dsimp only at hu hol ho ⊢
      by_cases hul : u < gL.length
      · repeat' first
          | refine w_seq ?_
          | refine w_block ?_
          | refine rb_n ?_
          | refine rb_ret ?_
          | refine rb_eq ?_
          | refine rb_ne (by rfl) ?_
          | refine w_exit ?_
          | refine rt_exit ?_
          | refine w_region ?_
          | refine l_nil ?_
          | refine rt_n ?_
          | refine w_ret ?_
          | refine rt_ret ?_
          | refine w_skip ?_
          | refine w_cond_t rfl ?_
          | refine w_cond_f rfl ?_
          | refine w_cnd rfl (fun hc => ?_) (fun hc => ?_)
          | refine w_cd rfl (fun hc => ?_) (fun hc => ?_)
          | refine w_cn rfl (fun hc => ?_) (fun hc => ?_)
          | refine w_cond rfl (fun hc => ?_) (fun hc => ?_)
          | (exfalso; omega)
          | (refine l_o ?_; first | refine l_op (hk := ?_) | (refine l_g ?_; first | refine l_y rfl rfl rfl ?_ | refine l_n rfl rfl rfl rfl (hk := ?_) | refine l_n' rfl rfl rfl (hk := ?_) | refine l_spnd rfl rfl rfl (h1 := fun hc => ?_) (h2 := fun hc => ?_) | refine l_spd rfl rfl rfl (h1 := fun hc => ?_) (h2 := fun hc => ?_) | refine l_spn rfl rfl rfl (h1 := fun hc => ?_) (h2 := fun hc => ?_) | refine l_sp rfl rfl rfl (h1 := fun hc => ?_) (h2 := fun hc => ?_)))
        refine w_loopm (ι := Nat) (fun q => [(8, RVn q)]) (fun q => [(18, 1, out.map RVi), (1, 2, [.agg [RIss gL, RIss gR]])]) (fun q => q ≤ u ∧ firstP (alk H gL.length u) (u - q) q = firstP (alk H gL.length u) u 0) (fun q => u - q) 0 (h0 := ?_) (hs := ?_) (round := ?_)
        · exact ⟨by omega, rfl⟩
        · refine le_eq (by (repeat' first | exact .nil | refine .keep ?_ | refine .any ?_); first | done | fail) rfl rfl
        · intro v ⟨hv, hf⟩
          have q1 := mul_lt hul (show v < gL.length by omega)
          have q2 := mul_lt (show v < gL.length by omega) hul
          have h1 : 2 * (u * gL.length + v) + 1 < H.length := by omega
          have k1 : 2 * (v * gL.length + u) + 1 < H.length := by omega
          have ha : alk H gL.length u v = (H[2 * (u * gL.length + v) + 1] && H[2 * (v * gL.length + u) + 1]) := by rw [alk, gdB h1, gdB k1]
          by_cases hp : alk H gL.length u v = true
          · rw [firstP_yes hp] at hf
            rw [ha, Bool.and_eq_true] at hp
            obtain ⟨c1, c2⟩ := hp
            repeat' first
              | refine w_seq ?_
              | refine w_block ?_
              | refine rb_n ?_
              | refine rb_ret ?_
              | refine rb_eq ?_
              | refine rb_ne (by rfl) ?_
              | refine w_exit ?_
              | refine rt_exit ?_
              | refine w_region ?_
              | refine l_nil ?_
              | refine rt_n ?_
              | refine w_ret ?_
              | refine rt_ret ?_
              | refine w_skip ?_
              | refine w_cond_t rfl ?_
              | refine w_cond_f rfl ?_
              | refine w_cnd rfl (fun hc => ?_) (fun hc => ?_)
              | refine w_cd rfl (fun hc => ?_) (fun hc => ?_)
              | refine w_cn rfl (fun hc => ?_) (fun hc => ?_)
              | refine w_cond rfl (fun hc => ?_) (fun hc => ?_)
              | (exfalso; omega)
              | (exfalso; revert hc; simp [c1, c2]; done)
              | (refine l_o ?_; first | refine l_op rfl (by first | (apply k_mul; first | exact ops_muln (m := u) (n := gL.length) rfl rfl (by omega) | exact ops_muln (m := 2) (n := u * gL.length + v) rfl rfl (by omega) | exact ops_muln (m := v) (n := gL.length) rfl rfl (by omega) | exact ops_muln (m := 2) (n := v * gL.length + u) rfl rfl (by omega) | fail) | (apply k_add; first | exact ops_addn (a := u * gL.length) (b := v) rfl rfl (by omega) | exact ops_addn (a := 2 * (u * gL.length + v)) (b := 1) rfl rfl (by omega) | exact ops_addn (a := v * gL.length) (b := u) rfl rfl (by omega) | exact ops_addn (a := 2 * (v * gL.length + u)) (b := 1) rfl rfl (by omega) | fail) | fail) (hk := ?_) | refine l_op (hk := ?_) | (refine l_g ?_; first | refine l_y rfl rfl rfl ?_ | refine l_n rfl rfl rfl rfl (hk := ?_) | refine l_n' rfl rfl rfl (hk := ?_) | refine l_spnd rfl rfl rfl (h1 := fun hc => ?_) (h2 := fun hc => ?_) | refine l_spd rfl rfl rfl (h1 := fun hc => ?_) (h2 := fun hc => ?_) | refine l_spn rfl rfl rfl (h1 := fun hc => ?_) (h2 := fun hc => ?_) | refine l_sp rfl rfl rfl (h1 := fun hc => ?_) (h2 := fun hc => ?_)))
            refine rn_mk (u + 1, out ++ [((v : Nat) : Int)]) ⟨by dsimp only; omega, by simp; omega, ?_⟩ (by dsimp only; omega) ?_
            · dsimp only
              rw [ho, List.range_succ, List.map_append, hf]
              rfl
            · refine le_eq (by (repeat' first | exact .nil | refine .keep ?_ | refine .any ?_); first | done | fail) rfl rfl
          · rw [Bool.not_eq_true] at hp
            obtain ⟨hlt, hst⟩ := firstP_no hp (hdi u hul) hv
            rw [hst] at hf
            rw [ha] at hp
            cases c1 : H[2 * (u * gL.length + v) + 1] <;> cases c2 : H[2 * (v * gL.length + u) + 1]
            all_goals first
              | (exfalso; rw [c1, c2] at hp; cases hp; done)
              | skip
            all_goals
              repeat' first
                | refine w_seq ?_
                | refine w_block ?_
                | refine rb_n ?_
                | refine rb_ret ?_
                | refine rb_eq ?_
                | refine rb_ne (by rfl) ?_
                | refine w_exit ?_
                | refine rt_exit ?_
                | refine w_region ?_
                | refine l_nil ?_
                | refine rt_n ?_
                | refine w_ret ?_
                | refine rt_ret ?_
                | refine w_skip ?_
                | refine w_cond_t rfl ?_
                | refine w_cond_f rfl ?_
                | refine w_cnd rfl (fun hc => ?_) (fun hc => ?_)
                | refine w_cd rfl (fun hc => ?_) (fun hc => ?_)
                | refine w_cn rfl (fun hc => ?_) (fun hc => ?_)
                | refine w_cond rfl (fun hc => ?_) (fun hc => ?_)
                | (exfalso; omega)
                | (exfalso; revert hc; simp [c1, c2]; done)
                | (refine l_o ?_; first | refine l_op rfl (by first | (apply k_mul; first | exact ops_muln (m := u) (n := gL.length) rfl rfl (by omega) | exact ops_muln (m := 2) (n := u * gL.length + v) rfl rfl (by omega) | exact ops_muln (m := v) (n := gL.length) rfl rfl (by omega) | exact ops_muln (m := 2) (n := v * gL.length + u) rfl rfl (by omega) | fail) | (apply k_add; first | exact ops_addn (a := u * gL.length) (b := v) rfl rfl (by omega) | exact ops_addn (a := 2 * (u * gL.length + v)) (b := 1) rfl rfl (by omega) | exact ops_addn (a := v * gL.length) (b := u) rfl rfl (by omega) | exact ops_addn (a := 2 * (v * gL.length + u)) (b := 1) rfl rfl (by omega) | fail) | fail) (hk := ?_) | refine l_op (hk := ?_) | (refine l_g ?_; first | refine l_y rfl rfl rfl ?_ | refine l_n rfl rfl rfl rfl (hk := ?_) | refine l_n' rfl rfl rfl (hk := ?_) | refine l_spnd rfl rfl rfl (h1 := fun hc => ?_) (h2 := fun hc => ?_) | refine l_spd rfl rfl rfl (h1 := fun hc => ?_) (h2 := fun hc => ?_) | refine l_spn rfl rfl rfl (h1 := fun hc => ?_) (h2 := fun hc => ?_) | refine l_sp rfl rfl rfl (h1 := fun hc => ?_) (h2 := fun hc => ?_)))
              refine rn_mk (v + 1) ?_ (by first | omega | (dsimp only; omega)) (le_eq (by (repeat' first | exact .nil | refine .keep ?_ | refine .any ?_); first | done | fail) rfl rfl)
              exact ⟨by omega, hf⟩
      · obtain rfl : u = gL.length := by omega
        rw [← ho]
        repeat' first
          | refine w_seq ?_
          | refine w_block ?_
          | refine rb_n ?_
          | refine rb_ret ?_
          | refine rb_eq ?_
          | refine rb_ne (by rfl) ?_
          | refine w_exit ?_
          | refine rt_exit ?_
          | refine w_region ?_
          | refine l_nil ?_
          | refine rt_n ?_
          | refine w_ret ?_
          | refine rt_ret ?_
          | refine w_skip ?_
          | refine w_cond_t rfl ?_
          | refine w_cond_f rfl ?_
          | refine w_cnd rfl (fun hc => ?_) (fun hc => ?_)
          | refine w_cd rfl (fun hc => ?_) (fun hc => ?_)
          | refine w_cn rfl (fun hc => ?_) (fun hc => ?_)
          | refine w_cond rfl (fun hc => ?_) (fun hc => ?_)
          | (exfalso; omega)
          | (refine l_o ?_; first | refine l_op (hk := ?_) | (refine l_g ?_; first | refine l_y rfl rfl rfl ?_ | refine l_n rfl rfl rfl rfl (hk := ?_) | refine l_n' rfl rfl rfl (hk := ?_) | refine l_spnd rfl rfl rfl (h1 := fun hc => ?_) (h2 := fun hc => ?_) | refine l_spd rfl rfl rfl (h1 := fun hc => ?_) (h2 := fun hc => ?_) | refine l_spn rfl rfl rfl (h1 := fun hc => ?_) (h2 := fun hc => ?_) | refine l_sp rfl rfl rfl (h1 := fun hc => ?_) (h2 := fun hc => ?_)))
        refine en_end (hf := Tryz.results21) (hr := ?_); simp only [ne, nf, nl, nr, lget, reduceIte, Nat.reduceEqDiff]; first | rfl | refine congrArg RVb ?_ | refine congrArg RVi ?_ | skip
end Go.Proofs.YtpcckakchpblcaaGreatDoor
