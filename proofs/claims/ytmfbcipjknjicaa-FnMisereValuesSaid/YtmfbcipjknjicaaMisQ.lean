/- The program's first heap whose winner differs between both kinds of play. For all codes. -/
import Derived.Test.YtmfbcipjknjicaaGvI
import Derived.Test.YtmfbcipjknjicaaMisW
namespace Go.Proofs.Ytmfbcipjknjicaa
open Eng
attribute [local irreducible] OpS OpG FC FCr Rel Fl Ef DR Fs
attribute [local simp] RV.fzR_names
set_option linter.unusedSimpArgs false
set_option linter.unusedVariables false
set_option maxHeartbeats 0
set_option maxRecDepth 100000

namespace Eng
section
variable {P : Program} {s : St} {d : Tmp} {ty : TypeId} {pos : String} {after : Array Edge}
/-- A call that is handed one block, under a guard that lets it. -/
theorem Ef.callPY {ops : Array Oper} {f args ats argsR r j want t b} (n : Nat) {k : Nat} {els : List RV} (els' : List RV) (hj : gslot ops j = some t := by rfl) (ht : lget s.fr t = .v (.bool b) := by rfl) (hb : b = want := by rfl) (ho : olook n s.O = some (k, els) := by rfl) (hargs : RV.renL (pin1 n) (args.toList.map s.get) = argsR := by first | rfl | (simp only [vw, ng, nm, nz, nf, nr, pin1, reduceIte, Nat.reduceEqDiff]; rfl) | (simp [ng, pin1]; fail_if_success show _)) (hnt : (args.toList.map s.get).all RV.notTup = true := by rfl)
    (hna : ∀ q ∈ RV.namesL (args.toList.map s.get), q = n := by intro q hq; revert hq; simp [St.get, lget, nm]) (hc : callable P f = true := by kernel_rfl) (hfc : FC P f argsR [(1000000000000, k, els)] fun rv O => rv = r ∧ O = [(1000000000000, k, els')])
    (hM : RV.namesL els = [] := by simp [nm]) (hM' : RV.namesL els' = [] := by simp [nm]) (hr : r.resOkT = true := by simp [RV.resOkT, RV.resOk, RV.isAgg, nm]) (hnb : (bnames (openR d r).2).Nodup := by simp [nz, nm]) (hf : ∀ m ∈ bnames (openR d r).2, m < 1000000000000 ∧ m ∉ n :: onames (oerase n s.O) := by simp [nz, nm]) :
    Ef P ops (bnames (openR d r).2) ⟨some d, .call ⟨.value (.func f), args, ats⟩, ty, pos, after, some (j, want)⟩ s (openR d r).1 ((openR d r).2 ++ oset n els' s.O) := by
  refine Ef.yes hj ht hb fun s2 hs hO hn => ?_
  have hg : ∀ x ∈ args.toList, s2.get x = s.get x := fun x hx => hs x (by simp only [Op.operands, Call.operands, Array.toList_append]; simp [hx])
  have e : args.toList.map s2.get = args.toList.map s.get := List.map_congr_left hg
  have := ops_callP (P := P) (s := s2) (d := d) (ty := ty) (pos := pos) (after := after) (g := some (j, want)) (f := f) (args := args) (ats := ats) (argsR := argsR) (r := r) n els' (hO ▸ ho) (e ▸ hargs) (e ▸ hnt) (e ▸ hna) hc hfc hM hM' hr hnb (fun m hm => ⟨(hf m hm).1, hn m hm, hO ▸ (hf m hm).2⟩)
  rw [hO] at this
  exact this
end
end Eng
/-- The first heap from n on, among f heaps, whose winner differs. -/
def fuF (c : List Int) : Nat → Nat → Int
  | 0, _ => -1
  | f + 1, n => if hms c n ≠ [] ∧ decide (((gv c n : Nat) : Int) ≠ 0) ≠ decide (mv c [(n : Int)] 0 0 ≠ 0) then n else fuF c f (n + 1)
def fuV (c : List Int) : Int := if gcode c then fuF c 20 1 else -1
theorem gvL_getN (c : List Int) {k n : Nat} (h : k < n) : (gvL c n)[k]'(by rw [gvL_len]; exact h) = gv c k := by
  have e := gvL_at c (i := k) (n := n) h
  rwa [List.getD_eq_getElem?_getD, List.getElem?_eq_getElem (by rw [gvL_len]; exact h), Option.getD_some] at e
theorem firstUnlike_ok (c : List Int) (hc : c.length ≤ 1048576) : FCr Try.prog 29 [RIs c] (RVi (fuV c)) := by
  have hC := goodCode_ok c hc
  have hN := newMisere_ok c
  by_cases hg : gcode c = true
  · rw [hg] at hC
    rw [fuV, if_pos hg]
    obtain ⟨nx, hnx⟩ := nx_all hg
    have hV := values_ok c 20 hg (by omega) (fun k hk => Nat.le_trans (gv_le c k) (by omega))
    have hgl := gvL_len c 21
    have hgn : ∀ k : Nat, (h : k < 21) → (gvL c 21)[k]'(by rw [hgl]; exact h) = gv c k := fun k h => gvL_getN c h
    have hfu : ∀ f n, fuF c (f + 1) n = if hms c n ≠ [] ∧ decide (((gv c n : Nat) : Int) ≠ 0) ≠ decide (mv c [(n : Int)] 0 0 ≠ 0) then (n : Int) else fuF c f (n + 1) := fun f n => rfl
    rw [show (20 + 1 : Nat) = 21 from rfl] at hV
    generalize gvL c 21 = G at *
    refine (fcr_in Try.func29 rfl (by simp only [Try.ntmps29, anys, List.length_cons, List.length_nil, Nat.reduceAdd, Nat.reduceSub, List.replicate_succ, List.replicate_zero, List.cons_append, List.nil_append] <;> rfl) ?_)
    repeat' first
      | refine w_seq ?_
      | refine w_block ?_
      | refine rb_n ?_
      | refine rb_ret ?_
      | refine rb_eq ?_
      | refine rb_ne (by rfl) ?_
      | refine w_exit ?_
      | refine rt_exit ?_
      | refine w_region ?_
      | refine l_nil ?_
      | refine rt_n ?_
      | refine w_ret ?_
      | refine rt_ret ?_
      | refine w_skip ?_
      | refine w_cond_t rfl ?_
      | refine w_cond_f rfl ?_
      | refine w_cnd rfl (fun hc => ?_) (fun hc => ?_)
      | refine w_cd rfl (fun hc => ?_) (fun hc => ?_)
      | refine w_cn rfl (fun hc => ?_) (fun hc => ?_)
      | refine w_cond rfl (fun hc => ?_) (fun hc => ?_)
      | (refine l_o ?_; first | refine l_op rfl (by first | (apply k_callf; first | exact ops_callf (hfc := hC) | exact ops_callf (hfc := hV) | fail) | fail) (hk := ?_) | refine l_op (hk := ?_) | (refine l_g ?_; first | refine l_y rfl rfl rfl ?_ | refine l_n rfl rfl rfl rfl (hk := ?_) | refine l_n' rfl rfl rfl (hk := ?_) | refine l_spnd rfl rfl rfl (h1 := fun hc => ?_) (h2 := fun hc => ?_) | refine l_spd rfl rfl rfl (h1 := fun hc => ?_) (h2 := fun hc => ?_) | refine l_spn rfl rfl rfl (h1 := fun hc => ?_) (h2 := fun hc => ?_) | refine l_sp rfl rfl rfl (h1 := fun hc => ?_) (h2 := fun hc => ?_)))
      | refine d_nil ?_
      | (refine d_o ?_; first | refine d_fl (hk := ?_) | refine d_ef rfl (by first | exact .callf (hfc := hC) | exact .callf (hfc := hV) | exact .callfY (hfc := hC) | exact .callfY (hfc := hV) | fail) (hk := ?_) | refine d_ef (hk := ?_) | (refine d_g ?_; first | refine d_spnd rfl rfl rfl (h1 := fun hc => ?_) (h2 := fun hc => ?_) | refine d_spd rfl rfl rfl (h1 := fun hc => ?_) (h2 := fun hc => ?_) | refine d_spn rfl rfl rfl (h1 := fun hc => ?_) (h2 := fun hc => ?_) | refine d_sp rfl rfl rfl (h1 := fun hc => ?_) (h2 := fun hc => ?_)))
      | (refine w_o ?_; first | refine w_draw (id := 10) (fun _ => true) (fun k => [2, 13, 14].contains k) [[], [], []] 64 (by kernel_rfl) rfl (by kernel_rfl) (by simp [nm, nset, -List.map_take, -List.map_drop]) ?_)
    refine l_callM (hfc := hN) (hk := fun b _ => ?_)
    repeat' first
      | refine w_seq ?_
      | refine w_block ?_
      | refine rb_n ?_
      | refine rb_ret ?_
      | refine rb_eq ?_
      | refine rb_ne (by rfl) ?_
      | refine w_exit ?_
      | refine rt_exit ?_
      | refine w_region ?_
      | refine l_nil ?_
      | refine rt_n ?_
      | refine w_ret ?_
      | refine rt_ret ?_
      | refine w_skip ?_
      | refine w_cond_t rfl ?_
      | refine w_cond_f rfl ?_
      | refine w_cnd rfl (fun hc => ?_) (fun hc => ?_)
      | refine w_cd rfl (fun hc => ?_) (fun hc => ?_)
      | refine w_cn rfl (fun hc => ?_) (fun hc => ?_)
      | refine w_cond rfl (fun hc => ?_) (fun hc => ?_)
      | (refine l_o ?_; first | refine l_op (hk := ?_) | (refine l_g ?_; first | refine l_y rfl rfl rfl ?_ | refine l_n rfl rfl rfl rfl (hk := ?_) | refine l_n' rfl rfl rfl (hk := ?_) | refine l_spnd rfl rfl rfl (h1 := fun hc => ?_) (h2 := fun hc => ?_) | refine l_spd rfl rfl rfl (h1 := fun hc => ?_) (h2 := fun hc => ?_) | refine l_spn rfl rfl rfl (h1 := fun hc => ?_) (h2 := fun hc => ?_) | refine l_sp rfl rfl rfl (h1 := fun hc => ?_) (h2 := fun hc => ?_)))
      | refine d_nil ?_
      | (refine d_o ?_; first | refine d_fl (hk := ?_) | refine d_ef (hk := ?_) | (refine d_g ?_; first | refine d_spnd rfl rfl rfl (h1 := fun hc => ?_) (h2 := fun hc => ?_) | refine d_spd rfl rfl rfl (h1 := fun hc => ?_) (h2 := fun hc => ?_) | refine d_spn rfl rfl rfl (h1 := fun hc => ?_) (h2 := fun hc => ?_) | refine d_sp rfl rfl rfl (h1 := fun hc => ?_) (h2 := fun hc => ?_)))
      | (refine w_o ?_; first | refine w_draw (id := 10) (fun _ => true) (fun k => [2, 13, 14].contains k) [[], [], []] 64 (by kernel_rfl) rfl (by kernel_rfl) (by simp [nm, nset, -List.map_take, -List.map_drop]) ?_)
    have hvj : ∀ j : Nat, 0 < j → j ≤ 20 → vld [(j : Int)] 0 0 := fun j h0 hj => by
      have := fillH_vld (h := [(j : Int)]) (n := 20) (by simp [ghp, ghpF]; omega) (by simp; omega)
      rwa [fillH_id (by intro x hx; simp at hx; omega)] at this
    refine w_loopm (ι := Nat × Mem) (fun q => [(6, RVn (q.1 + 1))]) (fun q => [(5, 2, [RV.agg [RIs c, RV.v (Value.map (some b))]]), (18, 0, MSI b q.2)]) (fun q => q.1 ≤ 20 ∧ memOk c q.2 ∧ fuF c (20 - q.1) (q.1 + 1) = fuF c 20 1) (fun q => 20 - q.1) (0, []) (h0 := ?_) (hs := ?_) (round := ?_)
    · exact ⟨Nat.zero_le _, memOk_nil c, rfl⟩
    · refine le_eq (by (repeat' first | exact .nil | refine .keep ?_ | refine .any ?_); first | done | fail) rfl rfl
    · intro ⟨k, M⟩ ⟨hk, hM, hF⟩
      dsimp only at hk hM hF ⊢
      by_cases hk2 : k < 20
      · have hq := hnx [((k + 1 : Nat) : Int)] 0 0 M (hvj (k + 1) (by omega) (by omega)) hM
        have hcall := hq.2 b
        have hH := heapMoves_ok c ((k + 1 : Nat) : Int) hg (by omega) (by omega)
        have hMl := hms_len (c := c) (n := ((k + 1 : Nat) : Int)) (by omega) (gcode_len hg).2
        rw [show 20 - k = (20 - (k + 1)) + 1 by omega, hfu] at hF
        have hGk := hgn (k + 1) (by omega)
        rw [← hGk] at hF
        have hGl : k + 1 < G.length := by omega
        generalize mv c [((k + 1 : Nat) : Int)] 0 0 = r at *
        generalize hms c ((k + 1 : Nat) : Int) = Q at *
        generalize nx [((k + 1 : Nat) : Int)] 0 0 M = M2 at *
        by_cases hQ : Q = []
        · have hQl : Q.length = 0 := by rw [hQ]; rfl
          rw [if_neg (fun h => h.1 hQ)] at hF
          repeat' first
            | refine w_seq ?_
            | refine w_block ?_
            | refine rb_n ?_
            | refine rb_ret ?_
            | refine rb_eq ?_
            | refine rb_ne (by rfl) ?_
            | refine w_exit ?_
            | refine rt_exit ?_
            | refine w_region ?_
            | refine l_nil ?_
            | refine rt_n ?_
            | refine w_ret ?_
            | refine rt_ret ?_
            | refine w_skip ?_
            | refine w_cond_t rfl ?_
            | refine w_cond_f rfl ?_
            | refine w_cnd rfl (fun hc => ?_) (fun hc => ?_)
            | refine w_cd rfl (fun hc => ?_) (fun hc => ?_)
            | refine w_cn rfl (fun hc => ?_) (fun hc => ?_)
            | refine w_cond rfl (fun hc => ?_) (fun hc => ?_)
            | (exfalso; omega)
            | (refine l_o ?_; first | refine l_op rfl (by first | (apply k_buildSlice; first | exact ops_buildSlice_fz (d := some 36) (k := 1) rfl rfl rfl (by decide) (by decide) (by kernel_rfl) (by decide +kernel) rfl | fail) | (apply k_callf; first | exact ops_callP (d := 37) 18 (MSI b M2) (hfc := hcall) | exact ops_callf (d := 25) (hfc := hH) | fail) | fail) (hk := ?_) | refine l_op (hk := ?_) | (refine l_g ?_; first | refine l_y rfl rfl rfl ?_ | refine l_n rfl rfl rfl rfl (hk := ?_) | refine l_n' rfl rfl rfl (hk := ?_) | refine l_spnd rfl rfl rfl (h1 := fun hc => ?_) (h2 := fun hc => ?_) | refine l_spd rfl rfl rfl (h1 := fun hc => ?_) (h2 := fun hc => ?_) | refine l_spn rfl rfl rfl (h1 := fun hc => ?_) (h2 := fun hc => ?_) | refine l_sp rfl rfl rfl (h1 := fun hc => ?_) (h2 := fun hc => ?_)))
            | refine d_nil ?_
            | (refine d_o ?_; first | refine d_fl rfl (by first | exact .pl (by first | (apply q_callf; first | exact fs_callf (d := 25) (hfc := hH) | fail) | fail) | exact .ye rfl rfl rfl (by first | (apply q_callf; first | exact fs_callf (d := 25) (hfc := hH) | fail) | fail) | fail) (hk := ?_) | refine d_fl (hk := ?_) | refine d_ef rfl (by first | exact .callP (d := 37) 18 (MSI b M2) (hfc := hcall) | exact .callPY (d := 37) 18 (MSI b M2) (hfc := hcall) | fail) (hk := ?_) | refine d_ef (hk := ?_) | (refine d_g ?_; first | refine d_spnd rfl rfl rfl (h1 := fun hc => ?_) (h2 := fun hc => ?_) | refine d_spd rfl rfl rfl (h1 := fun hc => ?_) (h2 := fun hc => ?_) | refine d_spn rfl rfl rfl (h1 := fun hc => ?_) (h2 := fun hc => ?_) | refine d_sp rfl rfl rfl (h1 := fun hc => ?_) (h2 := fun hc => ?_)))
            | (refine w_o ?_; first | refine w_draw (id := 10) (roL [5]) (fun k => [14].contains k) [[]] 64 (by kernel_rfl) rfl (by kernel_rfl) (by simp [nm, nset, -List.map_take, -List.map_drop]) ?_)
          refine rn_mk (k + 1, M) ?_ (by first | omega | (dsimp only; omega)) (le_eq (by (repeat' first | exact .nil | refine .keep ?_ | refine .any ?_); first | done | fail) rfl rfl)
          exact ⟨hk2, hM, hF⟩
        · have hQl : 0 < Q.length := List.length_pos_iff.2 hQ
          repeat' first
            | refine w_seq ?_
            | refine w_block ?_
            | refine rb_n ?_
            | refine rb_ret ?_
            | refine rb_eq ?_
            | refine rb_ne (by rfl) ?_
            | refine w_exit ?_
            | refine rt_exit ?_
            | refine w_region ?_
            | refine l_nil ?_
            | refine rt_n ?_
            | refine w_ret ?_
            | refine rt_ret ?_
            | refine w_skip ?_
            | refine w_cond_t rfl ?_
            | refine w_cond_f rfl ?_
            | refine w_cnd rfl (fun hc => ?_) (fun hc => ?_)
            | refine w_cd rfl (fun hc => ?_) (fun hc => ?_)
            | refine w_cn rfl (fun hc => ?_) (fun hc => ?_)
            | refine w_cond rfl (fun hc => ?_) (fun hc => ?_)
            | (exfalso; omega)
            | (refine l_o ?_; first | refine l_op rfl (by first | (apply k_buildSlice; first | exact ops_buildSlice_fz (d := some 36) (k := 1) rfl rfl rfl (by decide) (by decide) (by kernel_rfl) (by decide +kernel) rfl | fail) | (apply k_callf; first | exact ops_callP (d := 37) 18 (MSI b M2) (hfc := hcall) | exact ops_callf (d := 25) (hfc := hH) | fail) | fail) (hk := ?_) | refine l_op (hk := ?_) | (refine l_g ?_; first | refine l_y rfl rfl rfl ?_ | refine l_n rfl rfl rfl rfl (hk := ?_) | refine l_n' rfl rfl rfl (hk := ?_) | refine l_spnd rfl rfl rfl (h1 := fun hc => ?_) (h2 := fun hc => ?_) | refine l_spd rfl rfl rfl (h1 := fun hc => ?_) (h2 := fun hc => ?_) | refine l_spn rfl rfl rfl (h1 := fun hc => ?_) (h2 := fun hc => ?_) | refine l_sp rfl rfl rfl (h1 := fun hc => ?_) (h2 := fun hc => ?_)))
            | refine d_nil ?_
            | (refine d_o ?_; first | refine d_fl rfl (by first | exact .pl (by first | (apply q_callf; first | exact fs_callf (d := 25) (hfc := hH) | fail) | fail) | exact .ye rfl rfl rfl (by first | (apply q_callf; first | exact fs_callf (d := 25) (hfc := hH) | fail) | fail) | fail) (hk := ?_) | refine d_fl (hk := ?_) | refine d_ef rfl (by first | exact .callP (d := 37) 18 (MSI b M2) (hfc := hcall) | exact .callPY (d := 37) 18 (MSI b M2) (hfc := hcall) | fail) (hk := ?_) | refine d_ef (hk := ?_) | (refine d_g ?_; first | refine d_spnd rfl rfl rfl (h1 := fun hc => ?_) (h2 := fun hc => ?_) | refine d_spd rfl rfl rfl (h1 := fun hc => ?_) (h2 := fun hc => ?_) | refine d_spn rfl rfl rfl (h1 := fun hc => ?_) (h2 := fun hc => ?_) | refine d_sp rfl rfl rfl (h1 := fun hc => ?_) (h2 := fun hc => ?_)))
            | (refine w_o ?_; first | refine w_draw (id := 10) (roL [5]) (fun k => [14].contains k) [[]] 64 (by kernel_rfl) rfl (by kernel_rfl) (by simp [nm, nset, -List.map_take, -List.map_drop]) ?_)
          · rw [if_pos ⟨hQ, hc⟩] at hF
            refine en_one (hf := Try.results29) (h := ?_); simp only [lget]; first | refine congrArg RVb ?_ | refine congrArg RVi ?_ | skip
            exact hF
          · rw [if_neg (fun h => h.2 hc)] at hF
            refine rn_mk (k + 1, M2) ?_ (by first | omega | (dsimp only; omega)) (le_eq (by (repeat' first | exact .nil | refine .keep ?_ | refine .any ?_); first | done | fail) rfl rfl)
            exact ⟨hk2, hq.1, hF⟩
      · obtain rfl : k = 20 := by omega
        repeat' first
          | refine w_seq ?_
          | refine w_block ?_
          | refine rb_n ?_
          | refine rb_ret ?_
          | refine rb_eq ?_
          | refine rb_ne (by rfl) ?_
          | refine w_exit ?_
          | refine rt_exit ?_
          | refine w_region ?_
          | refine l_nil ?_
          | refine rt_n ?_
          | refine w_ret ?_
          | refine rt_ret ?_
          | refine w_skip ?_
          | refine w_cond_t rfl ?_
          | refine w_cond_f rfl ?_
          | refine w_cnd rfl (fun hc => ?_) (fun hc => ?_)
          | refine w_cd rfl (fun hc => ?_) (fun hc => ?_)
          | refine w_cn rfl (fun hc => ?_) (fun hc => ?_)
          | refine w_cond rfl (fun hc => ?_) (fun hc => ?_)
          | (exfalso; omega)
          | (refine l_o ?_; first | refine l_op (hk := ?_) | (refine l_g ?_; first | refine l_y rfl rfl rfl ?_ | refine l_n rfl rfl rfl rfl (hk := ?_) | refine l_n' rfl rfl rfl (hk := ?_) | refine l_spnd rfl rfl rfl (h1 := fun hc => ?_) (h2 := fun hc => ?_) | refine l_spd rfl rfl rfl (h1 := fun hc => ?_) (h2 := fun hc => ?_) | refine l_spn rfl rfl rfl (h1 := fun hc => ?_) (h2 := fun hc => ?_) | refine l_sp rfl rfl rfl (h1 := fun hc => ?_) (h2 := fun hc => ?_)))
          | refine d_nil ?_
          | (refine d_o ?_; first | refine d_fl (hk := ?_) | refine d_ef (hk := ?_) | (refine d_g ?_; first | refine d_spnd rfl rfl rfl (h1 := fun hc => ?_) (h2 := fun hc => ?_) | refine d_spd rfl rfl rfl (h1 := fun hc => ?_) (h2 := fun hc => ?_) | refine d_spn rfl rfl rfl (h1 := fun hc => ?_) (h2 := fun hc => ?_) | refine d_sp rfl rfl rfl (h1 := fun hc => ?_) (h2 := fun hc => ?_)))
          | (refine w_o ?_; first | refine w_draw (id := 10) (fun _ => true) (fun k => [2, 13, 14].contains k) [[], [], []] 64 (by kernel_rfl) rfl (by kernel_rfl) (by simp [nm, nset, -List.map_take, -List.map_drop]) ?_)
        refine en_one (hf := Try.results29) (h := ?_); simp only [lget]; first | refine congrArg RVb ?_ | refine congrArg RVi ?_ | skip
        exact hF
  · rw [Bool.not_eq_true] at hg
    rw [hg] at hC
    rw [fuV, hg]
    refine (fcr_in Try.func29 rfl (by simp only [Try.ntmps29, anys, List.length_cons, List.length_nil, Nat.reduceAdd, Nat.reduceSub, List.replicate_succ, List.replicate_zero, List.cons_append, List.nil_append] <;> rfl) ?_)
    repeat' first
      | refine w_seq ?_
      | refine w_block ?_
      | refine rb_n ?_
      | refine rb_ret ?_
      | refine rb_eq ?_
      | refine rb_ne (by rfl) ?_
      | refine w_exit ?_
      | refine rt_exit ?_
      | refine w_region ?_
      | refine l_nil ?_
      | refine rt_n ?_
      | refine w_ret ?_
      | refine rt_ret ?_
      | refine w_skip ?_
      | refine w_cond_t rfl ?_
      | refine w_cond_f rfl ?_
      | refine w_cnd rfl (fun hc => ?_) (fun hc => ?_)
      | refine w_cd rfl (fun hc => ?_) (fun hc => ?_)
      | refine w_cn rfl (fun hc => ?_) (fun hc => ?_)
      | refine w_cond rfl (fun hc => ?_) (fun hc => ?_)
      | (refine l_o ?_; first | refine l_op rfl (by first | (apply k_callf; first | exact ops_callf (hfc := hC) | fail) | fail) (hk := ?_) | refine l_op (hk := ?_) | (refine l_g ?_; first | refine l_y rfl rfl rfl ?_ | refine l_n rfl rfl rfl rfl (hk := ?_) | refine l_n' rfl rfl rfl (hk := ?_) | refine l_spnd rfl rfl rfl (h1 := fun hc => ?_) (h2 := fun hc => ?_) | refine l_spd rfl rfl rfl (h1 := fun hc => ?_) (h2 := fun hc => ?_) | refine l_spn rfl rfl rfl (h1 := fun hc => ?_) (h2 := fun hc => ?_) | refine l_sp rfl rfl rfl (h1 := fun hc => ?_) (h2 := fun hc => ?_)))
      | refine d_nil ?_
      | (refine d_o ?_; first | refine d_fl (hk := ?_) | refine d_ef rfl (by first | exact .callf (hfc := hC) | exact .callfY (hfc := hC) | fail) (hk := ?_) | refine d_ef (hk := ?_) | (refine d_g ?_; first | refine d_spnd rfl rfl rfl (h1 := fun hc => ?_) (h2 := fun hc => ?_) | refine d_spd rfl rfl rfl (h1 := fun hc => ?_) (h2 := fun hc => ?_) | refine d_spn rfl rfl rfl (h1 := fun hc => ?_) (h2 := fun hc => ?_) | refine d_sp rfl rfl rfl (h1 := fun hc => ?_) (h2 := fun hc => ?_)))
      | (refine w_o ?_; first | refine w_draw (id := 10) (fun _ => true) (fun k => [2, 13, 14].contains k) [[], [], []] 64 (by kernel_rfl) rfl (by kernel_rfl) (by simp [nm, nset, -List.map_take, -List.map_drop]) ?_)
    refine en_one (hf := Try.results29) (h := ?_); simp only [lget]; first | refine congrArg RVb ?_ | refine congrArg RVi ?_ | skip
    rfl
end Go.Proofs.Ytmfbcipjknjicaa
