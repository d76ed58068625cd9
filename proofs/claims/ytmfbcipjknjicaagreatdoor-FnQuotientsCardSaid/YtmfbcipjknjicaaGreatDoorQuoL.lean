/- The program's losing classes of a box, and its positions. For all codes and boxes. -/
import Derived.Test.YtmfbcipjknjicaaGreatDoorCallY
import Derived.Test.YtmfbcipjknjicaaGreatDoorQuoI
namespace Go.Proofs.YtmfbcipjknjicaaGreatDoor
open Eng
attribute [local irreducible] OpS OpG FC FCr Rel Fl Ef DR Fs
attribute [local simp] RV.fzR_names
set_option linter.unusedSimpArgs false
set_option linter.unusedVariables false
set_option maxHeartbeats 0
set_option maxRecDepth 100000

def lost (c : List Int) (P : List (List Int)) (i : Nat) : Bool := decide (mv c (P.getD i []) 0 0 = 0)
def loM (nx : List Int → Nat → Nat → Mem → Mem) (Q : List Int) (P : List (List Int)) (M : Mem) : Nat → Mem
  | 0 => M
  | k + 1 => if Q.getD k 0 = (k : Int) then nx (P.getD k []) 0 0 (loM nx Q P M k) else loM nx Q P M k
theorem posB_vld {s m : Nat} (hs : s ≤ 6) (hm : m ≤ 6) (hsm : s * m ≤ 6) {p : List Int} (hp : p ∈ posB s m) : vld p 0 0 := by
  obtain ⟨_, h2⟩ := posB_okS hs hm hsm hp
  obtain ⟨p1, p2, p3⟩ := posB_mem hp
  exact ⟨⟨fun x hx => (p2 x hx).1, p3⟩, by omega, .inl ⟨rfl, rfl⟩⟩
theorem losers_ok {c : List Int} (hcg : gcode c = true) {s m : Nat} (hs : s ≤ 6) (hm : m ≤ 6) (hsm : s * m ≤ 6) {M : Mem} (hM : memOk c M) : ∃ M', memOk c M' ∧ ∀ b : Nat, FC Tryz.prog 39 [.agg [RIs c, .v (.map (some b))], RBx s m] [(1000000000000, 0, MSI b M)] fun rv O => rv = .ow 1 ((stI (quL (sgL c s m)) (lost c (posB s m)) (posB s m).length).map RVi) ∧ O = [(1000000000000, 0, MSI b M')] := by
  obtain ⟨nx, hnx⟩ := nx_all hcg
  obtain ⟨M0, hM0, hq⟩ := quotient_ok hcg hs hm hsm hM
  have hP := positions_ok hs hm
  have hPv : ∀ p ∈ posB s m, vld p 0 0 := fun p hp => posB_vld hs hm hsm hp
  have hpl : (posB s m).length ≤ 1000000 := by have := posT_len hs (m + 1) (by omega); unfold posB; omega
  have hQl : (quL (sgL c s m)).length = (posB s m).length := by rw [quL_len, sgL_len]
  generalize quL (sgL c s m) = Q at *
  generalize posB s m = P at *
  have hmk : ∀ k, k ≤ P.length → memOk c (loM nx Q P M0 k) := by
    intro k
    induction k with
    | zero => intro _; exact hM0
    | succ k ih =>
      intro hk
      rw [loM]
      split
      · refine (hnx _ _ _ _ (hPv _ ?_) (ih (by omega))).1
        rw [List.getD_eq_getElem?_getD, List.getElem?_eq_getElem (by omega), Option.getD_some]
        exact List.getElem_mem _
      · exact ih (by omega)
  refine ⟨loM nx Q P M0 P.length, hmk _ (Nat.le_refl _), fun b => ?_⟩
  have hqb := hq b
  refine (fc_in Tryz.func39 rfl (by simp only [Tryz.ntmps39, anys, List.length_cons, List.length_nil, Nat.reduceAdd, Nat.reduceSub, List.replicate_succ, List.replicate_zero, List.cons_append, List.nil_append] <;> rfl) ?_)
  repeat' first | apply w_seq | apply w_block | apply rb_n | apply rb_ret | apply rb_eq | refine rb_ne (by rfl) ?_ | apply w_exit | apply rt_exit | apply w_region | apply l_nil | apply rt_n | apply w_ret | apply rt_ret | apply w_skip | refine w_cond_t rfl ?_ | refine w_cond_f rfl ?_ | ((first | refine w_cnd rfl ?_ ?_ | refine w_cd rfl ?_ ?_ | refine w_cn rfl ?_ ?_ | refine w_cond rfl ?_ ?_) <;> intro hc) | (refine l_le _ (le_freeze 14 rfl (by simp only [nz, nf, nl, nb, nr, ng, nq, nu, reduceIte, Nat.reduceEqDiff, Nat.reduceAdd]; rfl) (by simp only [nz, nf, nl, nb, nr, ng, nq, nu, reduceIte, Nat.reduceEqDiff, Nat.reduceAdd]; rfl)) ?_) | (refine l_o ?_; first | refine l_eqnil rfl (by kernel_rfl) (by intro b; simp only [nz]; rfl) (fun b hb => ?_) | refine l_op rfl (by first | (apply k_callf; first | exact ops_callP (d := 14) 1000000000000 (MSI b M0) (hfc := hqb) | exact ops_callf (d := 11) (hfc := hP) | fail) | fail) (hk := ?_) | refine l_op (hk := ?_) | (refine l_g ?_; first | refine l_y rfl rfl rfl ?_ | refine l_n rfl rfl rfl rfl (hk := ?_) | refine l_n' rfl rfl rfl (hk := ?_) | refine l_spnd rfl rfl rfl (h1 := fun hc => ?_) (h2 := fun hc => ?_) | refine l_spd rfl rfl rfl (h1 := fun hc => ?_) (h2 := fun hc => ?_) | refine l_spn rfl rfl rfl (h1 := fun hc => ?_) (h2 := fun hc => ?_) | refine l_sp rfl rfl rfl (h1 := fun hc => ?_) (h2 := fun hc => ?_))) | refine d_nil ?_ | (refine d_o ?_; first | refine d_fl (hk := ?_) | refine d_ef rfl (by first | exact .callP (d := 14) 1000000000000 (MSI b M0) (hfc := hqb) | exact .callf (d := 11) (hfc := hP) | exact .callPY (d := 14) 1000000000000 (MSI b M0) (hfc := hqb) | exact .callfY (d := 11) (hfc := hP) | fail) (hk := ?_) | refine d_ef (hk := ?_) | (refine d_g ?_; first | refine d_spnd rfl rfl rfl (h1 := fun hc => ?_) (h2 := fun hc => ?_) | refine d_spd rfl rfl rfl (h1 := fun hc => ?_) (h2 := fun hc => ?_) | refine d_spn rfl rfl rfl (h1 := fun hc => ?_) (h2 := fun hc => ?_) | refine d_sp rfl rfl rfl (h1 := fun hc => ?_) (h2 := fun hc => ?_))) | (refine w_o ?_; first | refine w_draw (id := 6) (fun _ => true) (fun k => [9].contains k) [[]] 64 (by kernel_rfl) rfl (by kernel_rfl) (by simp [nm, nset, -List.map_take, -List.map_drop]) ?_)
  refine w_le _ (le_perm [9, 3, 2, 1000000000000] rfl rfl) ?_
  refine w_loopm (ι := Nat × List Int × Mem) (fun q => [(16, RVn q.1), (5, .ref 9 0 q.2.1.length), (7, .any), (8, .any), (9, .any)]) (fun q => [(9, 1, q.2.1.map RVi), (3, 2, [RBx s m]), (2, 2, [RV.agg [RIs c, RV.v (Value.map (some b))]]), (1000000000000, 0, MSI b q.2.2)]) (fun q => q.1 ≤ P.length ∧ q.2.1 = stI Q (lost c P) q.1 ∧ q.2.2 = loM nx Q P M0 q.1) (fun q => P.length - q.1) (0, [], M0) (h0 := ?_) (hs := ?_) (round := ?_)
  · exact ⟨Nat.zero_le _, rfl, rfl⟩
  · refine le_eq (by (repeat' first | exact .nil | refine .keep ?_ | refine .any ?_); first | done | fail) rfl rfl
  · intro ⟨k, L, M1⟩ ⟨hk, hL, hM1⟩
    dsimp only at hk hL hM1 ⊢
    have hLl : L.length ≤ k := by rw [hL]; exact stI_len _ _ _
    by_cases hk2 : k < P.length
    · have hQk : k < Q.length := by omega
      have hqd : Q.getD k 0 = Q[k] := by rw [List.getD_eq_getElem?_getD, List.getElem?_eq_getElem hQk]; rfl
      have hpd : P.getD k [] = P[k] := by rw [List.getD_eq_getElem?_getD, List.getElem?_eq_getElem hk2]; rfl
      have hs1 := stI_succ Q (lost c P) k
      have hs2 : loM nx Q P M0 (k + 1) = if Q.getD k 0 = (k : Int) then nx (P.getD k []) 0 0 (loM nx Q P M0 k) else loM nx Q P M0 k := rfl
      rw [hqd, ← hL] at hs1
      rw [hqd, hpd, ← hM1] at hs2
      by_cases he : Q[k] = (k : Int)
      · rw [if_pos he] at hs2
        have hqq := hnx P[k] 0 0 M1 (hPv _ (List.getElem_mem hk2)) (hM1 ▸ hmk k hk)
        have hcall := hqq.2 b
        have hlo : lost c P k = decide (mv c P[k] 0 0 = 0) := by unfold lost; rw [hpd]
        rw [hlo] at hs1
        clear hqq hlo
        generalize nx P[k] 0 0 M1 = M2 at *
        generalize mv c P[k] 0 0 = v at *
        by_cases hv : v = 0
        · rw [if_pos ⟨he, decide_eq_true hv⟩] at hs1
          repeat' first | apply w_seq | apply w_block | apply rb_n | apply rb_ret | apply rb_eq | refine rb_ne (by rfl) ?_ | apply w_exit | apply rt_exit | apply w_region | apply l_nil | apply rt_n | apply w_ret | apply rt_ret | apply w_skip | refine w_cond_t rfl ?_ | refine w_cond_f rfl ?_ | ((first | refine w_cnd rfl ?_ ?_ | refine w_cd rfl ?_ ?_ | refine w_cn rfl ?_ ?_ | refine w_cond rfl ?_ ?_) <;> intro hc) | (exfalso; omega) | (exfalso; exact hc he.symm) | (refine l_o ?_; first | refine l_eqnil rfl (by kernel_rfl) (by intro b; simp only [nz]; rfl) (fun b hb => ?_) | refine l_op rfl (by first | (apply k_callf; first | exact ops_callP (d := 30) 1000000000000 (MSI b M2) (hfc := hcall) | fail) | fail) (hk := ?_) | refine l_op (hk := ?_) | (refine l_g ?_; first | refine l_y rfl rfl rfl ?_ | refine l_n rfl rfl rfl rfl (hk := ?_) | refine l_n' rfl rfl rfl (hk := ?_) | refine l_spnd rfl rfl rfl (h1 := fun hc => ?_) (h2 := fun hc => ?_) | refine l_spd rfl rfl rfl (h1 := fun hc => ?_) (h2 := fun hc => ?_) | refine l_spn rfl rfl rfl (h1 := fun hc => ?_) (h2 := fun hc => ?_) | refine l_sp rfl rfl rfl (h1 := fun hc => ?_) (h2 := fun hc => ?_))) | refine d_nil ?_ | (refine d_o ?_; first | refine d_fl (hk := ?_) | refine d_ef rfl (by first | exact .callP (d := 30) 1000000000000 (MSI b M2) (hfc := hcall) | exact .callPY (d := 30) 1000000000000 (MSI b M2) (hfc := hcall) | fail) (hk := ?_) | refine d_ef (hk := ?_) | (refine d_g ?_; first | refine d_spnd rfl rfl rfl (h1 := fun hc => ?_) (h2 := fun hc => ?_) | refine d_spd rfl rfl rfl (h1 := fun hc => ?_) (h2 := fun hc => ?_) | refine d_spn rfl rfl rfl (h1 := fun hc => ?_) (h2 := fun hc => ?_) | refine d_sp rfl rfl rfl (h1 := fun hc => ?_) (h2 := fun hc => ?_))) | (refine w_o ?_; first | refine w_draw (id := 6) (roL [2]) (fun k => [9].contains k) [[]] 64 (by kernel_rfl) rfl (by kernel_rfl) (by simp [nm, nset, -List.map_take, -List.map_drop]) ?_)
          refine rn_mk (k + 1, L ++ [(k : Int)], M2) ?_ (by first | omega | (dsimp only; omega)) (le_eq (by (repeat' first | exact .nil | refine .keep ?_ | refine .any ?_); first | done | fail) rfl rfl)
          exact ⟨hk2, hs1.symm, hs2.symm⟩
        · rw [if_neg fun h => hv (by simpa using h.2)] at hs1
          repeat' first | apply w_seq | apply w_block | apply rb_n | apply rb_ret | apply rb_eq | refine rb_ne (by rfl) ?_ | apply w_exit | apply rt_exit | apply w_region | apply l_nil | apply rt_n | apply w_ret | apply rt_ret | apply w_skip | refine w_cond_t rfl ?_ | refine w_cond_f rfl ?_ | ((first | refine w_cnd rfl ?_ ?_ | refine w_cd rfl ?_ ?_ | refine w_cn rfl ?_ ?_ | refine w_cond rfl ?_ ?_) <;> intro hc) | (exfalso; omega) | (exfalso; exact hc he.symm) | (refine l_o ?_; first | refine l_eqnil rfl (by kernel_rfl) (by intro b; simp only [nz]; rfl) (fun b hb => ?_) | refine l_op rfl (by first | (apply k_callf; first | exact ops_callP (d := 30) 1000000000000 (MSI b M2) (hfc := hcall) | fail) | fail) (hk := ?_) | refine l_op (hk := ?_) | (refine l_g ?_; first | refine l_y rfl rfl rfl ?_ | refine l_n rfl rfl rfl rfl (hk := ?_) | refine l_n' rfl rfl rfl (hk := ?_) | refine l_spnd rfl rfl rfl (h1 := fun hc => ?_) (h2 := fun hc => ?_) | refine l_spd rfl rfl rfl (h1 := fun hc => ?_) (h2 := fun hc => ?_) | refine l_spn rfl rfl rfl (h1 := fun hc => ?_) (h2 := fun hc => ?_) | refine l_sp rfl rfl rfl (h1 := fun hc => ?_) (h2 := fun hc => ?_))) | refine d_nil ?_ | (refine d_o ?_; first | refine d_fl (hk := ?_) | refine d_ef rfl (by first | exact .callP (d := 30) 1000000000000 (MSI b M2) (hfc := hcall) | exact .callPY (d := 30) 1000000000000 (MSI b M2) (hfc := hcall) | fail) (hk := ?_) | refine d_ef (hk := ?_) | (refine d_g ?_; first | refine d_spnd rfl rfl rfl (h1 := fun hc => ?_) (h2 := fun hc => ?_) | refine d_spd rfl rfl rfl (h1 := fun hc => ?_) (h2 := fun hc => ?_) | refine d_spn rfl rfl rfl (h1 := fun hc => ?_) (h2 := fun hc => ?_) | refine d_sp rfl rfl rfl (h1 := fun hc => ?_) (h2 := fun hc => ?_))) | (refine w_o ?_; first | refine w_draw (id := 6) (roL [2]) (fun k => [9].contains k) [[]] 64 (by kernel_rfl) rfl (by kernel_rfl) (by simp [nm, nset, -List.map_take, -List.map_drop]) ?_)
          refine rn_mk (k + 1, L, M2) ?_ (by first | omega | (dsimp only; omega)) (le_eq (by (repeat' first | exact .nil | refine .keep ?_ | refine .any ?_); first | done | fail) rfl rfl)
          exact ⟨hk2, hs1.symm, hs2.symm⟩
      · rw [if_neg he] at hs2
        rw [if_neg fun h => he h.1] at hs1
        repeat' first | apply w_seq | apply w_block | apply rb_n | apply rb_ret | apply rb_eq | refine rb_ne (by rfl) ?_ | apply w_exit | apply rt_exit | apply w_region | apply l_nil | apply rt_n | apply w_ret | apply rt_ret | apply w_skip | refine w_cond_t rfl ?_ | refine w_cond_f rfl ?_ | ((first | refine w_cnd rfl ?_ ?_ | refine w_cd rfl ?_ ?_ | refine w_cn rfl ?_ ?_ | refine w_cond rfl ?_ ?_) <;> intro hc) | (exfalso; omega) | (exfalso; exact he hc.symm) | (refine l_o ?_; first | refine l_eqnil rfl (by kernel_rfl) (by intro b; simp only [nz]; rfl) (fun b hb => ?_) | refine l_op (hk := ?_) | (refine l_g ?_; first | refine l_y rfl rfl rfl ?_ | refine l_n rfl rfl rfl rfl (hk := ?_) | refine l_n' rfl rfl rfl (hk := ?_) | refine l_spnd rfl rfl rfl (h1 := fun hc => ?_) (h2 := fun hc => ?_) | refine l_spd rfl rfl rfl (h1 := fun hc => ?_) (h2 := fun hc => ?_) | refine l_spn rfl rfl rfl (h1 := fun hc => ?_) (h2 := fun hc => ?_) | refine l_sp rfl rfl rfl (h1 := fun hc => ?_) (h2 := fun hc => ?_))) | refine d_nil ?_ | (refine d_o ?_; first | refine d_fl (hk := ?_) | refine d_ef (hk := ?_) | (refine d_g ?_; first | refine d_spnd rfl rfl rfl (h1 := fun hc => ?_) (h2 := fun hc => ?_) | refine d_spd rfl rfl rfl (h1 := fun hc => ?_) (h2 := fun hc => ?_) | refine d_spn rfl rfl rfl (h1 := fun hc => ?_) (h2 := fun hc => ?_) | refine d_sp rfl rfl rfl (h1 := fun hc => ?_) (h2 := fun hc => ?_))) | (refine w_o ?_; first | refine w_draw (id := 6) (roL [2]) (fun k => [9].contains k) [[]] 64 (by kernel_rfl) rfl (by kernel_rfl) (by simp [nm, nset, -List.map_take, -List.map_drop]) ?_)
        refine rn_mk (k + 1, L, M1) ?_ (by first | omega | (dsimp only; omega)) (le_eq (by (repeat' first | exact .nil | refine .keep ?_ | refine .any ?_); first | done | fail) rfl rfl)
        exact ⟨hk2, hs1.symm, hs2.symm⟩
    · obtain rfl : k = P.length := by omega
      rw [← hL, ← hM1]
      repeat' first | apply w_seq | apply w_block | apply rb_n | apply rb_ret | apply rb_eq | refine rb_ne (by rfl) ?_ | apply w_exit | apply rt_exit | apply w_region | apply l_nil | apply rt_n | apply w_ret | apply rt_ret | apply w_skip | refine w_cond_t rfl ?_ | refine w_cond_f rfl ?_ | ((first | refine w_cnd rfl ?_ ?_ | refine w_cd rfl ?_ ?_ | refine w_cn rfl ?_ ?_ | refine w_cond rfl ?_ ?_) <;> intro hc) | (exfalso; omega) | (refine l_o ?_; first | refine l_eqnil rfl (by kernel_rfl) (by intro b; simp only [nz]; rfl) (fun b hb => ?_) | refine l_op (hk := ?_) | (refine l_g ?_; first | refine l_y rfl rfl rfl ?_ | refine l_n rfl rfl rfl rfl (hk := ?_) | refine l_n' rfl rfl rfl (hk := ?_) | refine l_spnd rfl rfl rfl (h1 := fun hc => ?_) (h2 := fun hc => ?_) | refine l_spd rfl rfl rfl (h1 := fun hc => ?_) (h2 := fun hc => ?_) | refine l_spn rfl rfl rfl (h1 := fun hc => ?_) (h2 := fun hc => ?_) | refine l_sp rfl rfl rfl (h1 := fun hc => ?_) (h2 := fun hc => ?_))) | refine d_nil ?_ | (refine d_o ?_; first | refine d_fl (hk := ?_) | refine d_ef (hk := ?_) | (refine d_g ?_; first | refine d_spnd rfl rfl rfl (h1 := fun hc => ?_) (h2 := fun hc => ?_) | refine d_spd rfl rfl rfl (h1 := fun hc => ?_) (h2 := fun hc => ?_) | refine d_spn rfl rfl rfl (h1 := fun hc => ?_) (h2 := fun hc => ?_) | refine d_sp rfl rfl rfl (h1 := fun hc => ?_) (h2 := fun hc => ?_))) | (refine w_o ?_; first | refine w_draw (id := 6) (fun _ => true) (fun k => [9].contains k) [[]] 64 (by kernel_rfl) rfl (by kernel_rfl) (by simp [nm, nset, -List.map_take, -List.map_drop]) ?_)
      refine en_endm ([(3, 2, [RBx s m]), (2, 2, [RV.agg [RIs c, RV.v (Value.map (some b))]])]) (hf := Tryz.results39) (hO := ?_) (hr := ?_)
      · rfl
      · simp [nz, ne, sealG, lget, seal2, packR]
def losV (c : List Int) (s m : Nat) : List Int := stI (quL (sgL c s m)) (lost c (posB s m)) (posB s m).length
def losR (c : List Int) (s m : Int) : RV := if gcode c && goodB s m then .tup [.ow 1 ((losV c s.toNat m.toNat).map RVi), RVb true] else .tup [.ow 1 [], RVb false]
theorem losingClasses_ok (c : List Int) (s m : Int) (hc : c.length ≤ 1048576) : FCr Tryz.prog 11 [RIs c, RBx s m] (losR c s m) := by
  have hC := goodCode_ok c hc
  have hB := goodBox_ok s m
  have hN := newMisere_ok c
  unfold losR losV
  by_cases hg : gcode c = true
  · rw [hg] at hC ⊢
    by_cases hb : goodB s m = true
    · rw [hb] at hB ⊢
      obtain ⟨a, b, rfl, rfl, h1, h2, h3, h4, h5⟩ := goodB_nat hb
      obtain ⟨M', _, hq⟩ := losers_ok hg h3 h4 h5 (memOk_nil c)
      rw [Int.toNat_natCast, Int.toNat_natCast]
      generalize stI (quL (sgL c a b)) (lost c (posB a b)) (posB a b).length = Z at *
      refine (fcr_in Tryz.func11 rfl (by simp only [Tryz.ntmps11, anys, List.length_cons, List.length_nil, Nat.reduceAdd, Nat.reduceSub, List.replicate_succ, List.replicate_zero, List.cons_append, List.nil_append] <;> rfl) ?_)
      repeat' first | apply w_seq | apply w_region | apply l_nil | apply rt_n | apply w_ret | apply rt_ret | apply w_skip | refine w_cond_t rfl ?_ | refine w_cond_f rfl ?_ | ((first | refine w_cnd rfl ?_ ?_ | refine w_cd rfl ?_ ?_ | refine w_cn rfl ?_ ?_ | refine w_cond rfl ?_ ?_) <;> intro hc) | (refine l_callM (hfc := hN) (hk := fun b _ => ?_)) | (refine l_o ?_; first | refine l_op rfl (by first | (apply k_callf; first | exact ops_callP (d := 17) 15 (MSI _ M') (hfc := (hq _)) | exact ops_callf (hfc := hC) | exact ops_callf (hfc := hB) | fail) | fail) (hk := ?_) | refine l_op (hk := ?_) | (refine l_g ?_; first | refine l_y rfl rfl rfl ?_ | refine l_n rfl rfl rfl rfl (hk := ?_) | refine l_n' rfl rfl rfl (hk := ?_) | refine l_spnd rfl rfl rfl (h1 := fun hc => ?_) (h2 := fun hc => ?_) | refine l_spd rfl rfl rfl (h1 := fun hc => ?_) (h2 := fun hc => ?_) | refine l_spn rfl rfl rfl (h1 := fun hc => ?_) (h2 := fun hc => ?_) | refine l_sp rfl rfl rfl (h1 := fun hc => ?_) (h2 := fun hc => ?_))) | refine y_fin (by decide +kernel) ?_ | refine y_go (by decide +kernel) ?_ | exact yb_z | refine yb_skip (by decide +kernel) ?_ | refine yb_go rfl ?_ ?_ | refine d_nil ?_ | (refine d_o ?_; first | refine d_fl (hk := ?_) | refine d_ef rfl (by first | exact .callP (d := 17) 15 (MSI _ M') (hfc := (hq _)) | exact .callf (hfc := hC) | exact .callf (hfc := hB) | exact .callPY (d := 17) 15 (MSI _ M') (hfc := (hq _)) | exact .callfY (hfc := hC) | exact .callfY (hfc := hB) | fail) (hk := ?_) | refine d_ef (hk := ?_) | (refine d_g ?_; first | refine d_spnd rfl rfl rfl (h1 := fun hc => ?_) (h2 := fun hc => ?_) | refine d_spd rfl rfl rfl (h1 := fun hc => ?_) (h2 := fun hc => ?_) | refine d_spn rfl rfl rfl (h1 := fun hc => ?_) (h2 := fun hc => ?_) | refine d_sp rfl rfl rfl (h1 := fun hc => ?_) (h2 := fun hc => ?_))) | (refine w_o ?_; first | refine w_drawE (id := 3) (by kernel_rfl) ?_)
      all_goals
        refine en_end (hf := Tryz.results11) (hr := ?_); simp only [ne, nf, nl, nr, lget, reduceIte, Nat.reduceEqDiff]; first | rfl | refine congrArg RVb ?_ | refine congrArg RVi ?_ | skip
    · rw [Bool.not_eq_true] at hb
      rw [hb] at hB ⊢
      refine (fcr_in Tryz.func11 rfl (by simp only [Tryz.ntmps11, anys, List.length_cons, List.length_nil, Nat.reduceAdd, Nat.reduceSub, List.replicate_succ, List.replicate_zero, List.cons_append, List.nil_append] <;> rfl) ?_)
      repeat' first | apply w_seq | apply w_region | apply l_nil | apply rt_n | apply w_ret | apply rt_ret | apply w_skip | refine w_cond_t rfl ?_ | refine w_cond_f rfl ?_ | ((first | refine w_cnd rfl ?_ ?_ | refine w_cd rfl ?_ ?_ | refine w_cn rfl ?_ ?_ | refine w_cond rfl ?_ ?_) <;> intro hc) | (refine l_o ?_; first | refine l_op rfl (by first | (apply k_callf; first | exact ops_callf (hfc := hC) | exact ops_callf (hfc := hB) | fail) | fail) (hk := ?_) | refine l_op (hk := ?_) | (refine l_g ?_; first | refine l_y rfl rfl rfl ?_ | refine l_n rfl rfl rfl rfl (hk := ?_) | refine l_n' rfl rfl rfl (hk := ?_) | refine l_spnd rfl rfl rfl (h1 := fun hc => ?_) (h2 := fun hc => ?_) | refine l_spd rfl rfl rfl (h1 := fun hc => ?_) (h2 := fun hc => ?_) | refine l_spn rfl rfl rfl (h1 := fun hc => ?_) (h2 := fun hc => ?_) | refine l_sp rfl rfl rfl (h1 := fun hc => ?_) (h2 := fun hc => ?_))) | refine d_nil ?_ | (refine d_o ?_; first | refine d_fl (hk := ?_) | refine d_ef rfl (by first | exact .callf (hfc := hC) | exact .callf (hfc := hB) | exact .callfY (hfc := hC) | exact .callfY (hfc := hB) | fail) (hk := ?_) | refine d_ef (hk := ?_) | (refine d_g ?_; first | refine d_spnd rfl rfl rfl (h1 := fun hc => ?_) (h2 := fun hc => ?_) | refine d_spd rfl rfl rfl (h1 := fun hc => ?_) (h2 := fun hc => ?_) | refine d_spn rfl rfl rfl (h1 := fun hc => ?_) (h2 := fun hc => ?_) | refine d_sp rfl rfl rfl (h1 := fun hc => ?_) (h2 := fun hc => ?_))) | (refine w_o ?_; first | refine w_draw (id := 3) (fun _ => true) (fun k => [1, 3].contains k) [[], []] 64 (by kernel_rfl) rfl (by kernel_rfl) (by simp [nm, nset, -List.map_take, -List.map_drop]) ?_)
      refine en_endn ([.ow 1 [], RVb false]) (hf := Tryz.results11) (hr := ?_); simp only [ne]; first | rfl | skip
  · rw [Bool.not_eq_true] at hg
    rw [hg] at hC ⊢
    refine (fcr_in Tryz.func11 rfl (by simp only [Tryz.ntmps11, anys, List.length_cons, List.length_nil, Nat.reduceAdd, Nat.reduceSub, List.replicate_succ, List.replicate_zero, List.cons_append, List.nil_append] <;> rfl) ?_)
    repeat' first | apply w_seq | apply w_region | apply l_nil | apply rt_n | apply w_ret | apply rt_ret | apply w_skip | refine w_cond_t rfl ?_ | refine w_cond_f rfl ?_ | ((first | refine w_cnd rfl ?_ ?_ | refine w_cd rfl ?_ ?_ | refine w_cn rfl ?_ ?_ | refine w_cond rfl ?_ ?_) <;> intro hc) | (refine l_o ?_; first | refine l_op rfl (by first | (apply k_callf; first | exact ops_callf (hfc := hC) | fail) | fail) (hk := ?_) | refine l_op (hk := ?_) | (refine l_g ?_; first | refine l_y rfl rfl rfl ?_ | refine l_n rfl rfl rfl rfl (hk := ?_) | refine l_n' rfl rfl rfl (hk := ?_) | refine l_spnd rfl rfl rfl (h1 := fun hc => ?_) (h2 := fun hc => ?_) | refine l_spd rfl rfl rfl (h1 := fun hc => ?_) (h2 := fun hc => ?_) | refine l_spn rfl rfl rfl (h1 := fun hc => ?_) (h2 := fun hc => ?_) | refine l_sp rfl rfl rfl (h1 := fun hc => ?_) (h2 := fun hc => ?_))) | refine d_nil ?_ | (refine d_o ?_; first | refine d_fl (hk := ?_) | refine d_ef rfl (by first | exact .callf (hfc := hC) | exact .callfY (hfc := hC) | fail) (hk := ?_) | refine d_ef (hk := ?_) | (refine d_g ?_; first | refine d_spnd rfl rfl rfl (h1 := fun hc => ?_) (h2 := fun hc => ?_) | refine d_spd rfl rfl rfl (h1 := fun hc => ?_) (h2 := fun hc => ?_) | refine d_spn rfl rfl rfl (h1 := fun hc => ?_) (h2 := fun hc => ?_) | refine d_sp rfl rfl rfl (h1 := fun hc => ?_) (h2 := fun hc => ?_))) | (refine w_o ?_; first | refine w_draw (id := 3) (fun _ => true) (fun k => [1, 3].contains k) [[], []] 64 (by kernel_rfl) rfl (by kernel_rfl) (by simp [nm, nset, -List.map_take, -List.map_drop]) ?_)
    refine en_endn ([.ow 1 [], RVb false]) (hf := Tryz.results11) (hr := ?_); simp only [ne]; first | rfl | skip
def boxR (s m : Int) : RV := if goodB s m then .tup [.ow 1 ((posB s.toNat m.toNat).map RIs), RVb true] else .tup [.ow 1 [], RVb false]
theorem boxHeaps_ok (s m : Int) : FCr Tryz.prog 10 [RBx s m] (boxR s m) := by
  have hB := goodBox_ok s m
  unfold boxR
  by_cases hb : goodB s m = true
  · rw [hb] at hB ⊢
    obtain ⟨a, b, rfl, rfl, h1, h2, h3, h4, h5⟩ := goodB_nat hb
    have hP := positions_ok h3 h4
    rw [Int.toNat_natCast, Int.toNat_natCast]
    generalize posB a b = Z at *
    refine (fcr_in Tryz.func10 rfl (by simp only [Tryz.ntmps10, anys, List.length_cons, List.length_nil, Nat.reduceAdd, Nat.reduceSub, List.replicate_succ, List.replicate_zero, List.cons_append, List.nil_append] <;> rfl) ?_)
    repeat' first | apply w_seq | apply w_region | apply l_nil | apply rt_n | apply w_ret | apply rt_ret | apply w_skip | refine w_cond_t rfl ?_ | refine w_cond_f rfl ?_ | ((first | refine w_cnd rfl ?_ ?_ | refine w_cd rfl ?_ ?_ | refine w_cn rfl ?_ ?_ | refine w_cond rfl ?_ ?_) <;> intro hc) | (refine l_o ?_; first | refine l_op rfl (by first | (apply k_callf; first | exact ops_call (d := 8) (hfc := hP) | exact ops_callf (hfc := hB) | fail) | fail) (hk := ?_) | refine l_op (hk := ?_))
    refine en_end (hf := Tryz.results10) (hr := ?_); simp only [ne, nf, nl, nr, lget, reduceIte, Nat.reduceEqDiff]; first | rfl | refine congrArg RVb ?_ | refine congrArg RVi ?_ | skip
  · rw [Bool.not_eq_true] at hb
    rw [hb] at hB ⊢
    refine (fcr_in Tryz.func10 rfl (by simp only [Tryz.ntmps10, anys, List.length_cons, List.length_nil, Nat.reduceAdd, Nat.reduceSub, List.replicate_succ, List.replicate_zero, List.cons_append, List.nil_append] <;> rfl) ?_)
    repeat' first | apply w_seq | apply w_region | apply l_nil | apply rt_n | apply w_ret | apply rt_ret | apply w_skip | refine w_cond_t rfl ?_ | refine w_cond_f rfl ?_ | ((first | refine w_cnd rfl ?_ ?_ | refine w_cd rfl ?_ ?_ | refine w_cn rfl ?_ ?_ | refine w_cond rfl ?_ ?_) <;> intro hc) | (refine l_o ?_; first | refine l_op rfl (by first | (apply k_callf; first | exact ops_callf (hfc := hB) | fail) | fail) (hk := ?_) | refine l_op (hk := ?_))
    refine en_endn ([.ow 1 [], RVb false]) (hf := Tryz.results10) (hr := ?_); simp only [ne]; first | rfl | skip
end Go.Proofs.YtmfbcipjknjicaaGreatDoor
