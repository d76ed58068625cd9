/- What the program tells of a solved loop: who wins, in how many moves, who holds out, the table. For all loops and places. -/
import Derived.Test.YtpcckakchpblcaaGreatDoorJ13
import Derived.Test.YtpcckakchpblcaaGreatDoorJ15
import Derived.Test.YtpcckakchpblcaaGreatDoorJoin
namespace Go.Proofs.YtpcckakchpblcaaGreatDoor
open Eng
attribute [local irreducible] OpS OpG FC FCr Rel Fl Ef DR Fs
set_option linter.unusedSimpArgs false
set_option maxHeartbeats 0
set_option maxRecDepth 100000

end Go.Proofs.YtpcckakchpblcaaGreatDoor
/- holds of the program: the table of who holds out. For all good loops. -/
namespace Go.Proofs.YtpcckakchpblcaaGreatDoor
open Eng

attribute [local irreducible] OpS OpG FC FCr Rel Fl Ef DR Fs
attribute [local simp] RV.fzR_names
set_option linter.unusedSimpArgs false
set_option maxHeartbeats 0
set_option maxRecDepth 100000

section
variable {gL gR hL hR : List (List Int)}
theorem newArenaJ (g : GoodI gL gR) (h : GoodI hL hR) : FCr Tryz.prog 65 [RIss (jn gL hR), RIss (jn gR hL)] (.agg [ONss (nxtJ gL gR hL hR), .ow 2 ((fin (nxtJ gL gR hL hR) (nJ gL hL)).map RR)]) := by
  have i1 : InI (gL.length * hR.length) (jn gL hR) := jnTo_in g.inL (by rw [h.lenR]; exact h.inR) _ (Nat.le_refl _)
  have i2 : InI (gL.length * hL.length) (jn gR hL) := jnTo_in g.inR h.inL _ (by rw [g.lenR]; exact Nat.le_refl _)
  have r1 := jnTo_rows g.lL h.lR gL.length
  have r2 := jnTo_rows g.lR h.lL gR.length
  have hl1 : (toN (jn gL hR)).length = gL.length * hL.length := by rw [toN_len, jn_len, h.lenR]
  have hb : gL.length * hL.length ≤ 1296 := Nat.le_trans (Nat.mul_le_mul g.len h.len) (Nat.le_refl _)
  have hN := newArena_ok (toN (jn gL hR)) (toN (jn gR hL)) (jn_inside g h) (by omega) (fun l hl => by
    obtain ⟨r, hr, rfl⟩ := toN_mem hl
    have := r1 r hr
    simp; omega) (fun l hl => by
    obtain ⟨r, hr, rfl⟩ := toN_mem hl
    have := r2 r hr
    simp; omega)
  rw [hl1, ← RIss_toN (fun r hr x hx => (i1 r hr x hx).1), ← RIss_toN (fun r hr x hx => (i2 r hr x hx).1)] at hN
  exact hN
/-- The table's rows. -/
def hRow (H : List Bool) (m u : Nat) : List Bool := (List.range m).map fun v => H.getD (2 * (u * m + v) + 1) false
def hTab (H : List Bool) (n m : Nat) : List (List Bool) := (List.range n).map (hRow H m)
/-- What is held of two loops. -/
def hldJ (gL gR hL hR : List (List Int)) : List Bool := hld (nxtJ gL gR hL hR) (nJ gL hL)
theorem hld_at {nxt : List (List Nat)} {n i : Nat} (h : i < n) : (hld nxt n).getD i false = decide (((fin nxt n).getD i (0, 0)).1 ≠ 2) := by
  simp [hld, List.getD_eq_getElem?_getD, h]
theorem fin_len (nxt : List (List Nat)) (n : Nat) : (fin nxt n).length = n := rounds_len _ _ _
theorem renL_OBs (σ : Nat → Nat) (l : List (List Bool)) : RV.renL σ (l.map OBs) = l.map OBs := renL_map0 σ OBs l fun x => by simp [ng, nm, renL_id]
theorem holds_ok (g : GoodI gL gR) (h : GoodI hL hR) : FCr Tryz.prog 39 [RLp gL gR, RLp hL hR] (OBss (hTab (hldJ gL gR hL hR) gL.length hL.length)) := by
  have hJ1 := joinedSides_ok gL hR gL.length g.len g.inL (by rw [h.lenR]; exact h.inR) g.len (by rw [h.lenR]; exact h.len) g.lL h.lR
  have hJ2 := joinedSides_ok gR hL gL.length g.len g.inR h.inL (by rw [g.lenR]; exact g.len) h.len g.lR h.lL
  have hN := newArenaJ g h
  have hfl := fin_len (nxtJ gL gR hL hR) (nJ gL hL)
  have hat : ∀ i, i < nJ gL hL → (hldJ gL gR hL hR).getD i false = decide (((fin (nxtJ gL gR hL hR) (nJ gL hL)).getD i (0, 0)).1 ≠ 2) := fun i hi => hld_at hi
  have hb : gL.length * hL.length ≤ 1296 := Nat.le_trans (Nat.mul_le_mul g.len h.len) (Nat.le_refl _)
  have hgl := g.len
  have hhl := h.len
  generalize hldJ gL gR hL hR = H at *
  generalize hF : fin (nxtJ gL gR hL hR) (nJ gL hL) = F at *
  generalize nxtJ gL gR hL hR = nx at *
  generalize jn gL hR = J1 at *
  generalize jn gR hL = J2 at *
  refine (fcr_in Tryz.func39 rfl (by simp only [Tryz.ntmps39, anys, List.length_cons, List.length_nil, Nat.reduceAdd, Nat.reduceSub, List.replicate_succ, List.replicate_zero, List.cons_append, List.nil_append] <;> rfl) ?_)
  repeat' first
    | refine w_seq ?_
    | refine w_block ?_
    | refine rb_n ?_
    | refine rb_ret ?_
    | refine rb_eq ?_
    | refine rb_ne (by rfl) ?_
    | refine w_exit ?_
    | refine rt_exit ?_
    | refine w_region ?_
    | refine l_nil ?_
    | refine rt_n ?_
    | refine w_ret ?_
    | refine rt_ret ?_
    | refine w_skip ?_
    | refine w_cond_t rfl ?_
    | refine w_cond_f rfl ?_
    | refine w_cnd rfl (fun hc => ?_) (fun hc => ?_)
    | refine w_cd rfl (fun hc => ?_) (fun hc => ?_)
    | refine w_cn rfl (fun hc => ?_) (fun hc => ?_)
    | refine w_cond rfl (fun hc => ?_) (fun hc => ?_)
    | (refine l_o ?_; first | refine l_op rfl (by first | (apply k_callf; first | exact ops_callf (d := 15) (hfc := hJ1) | exact ops_callf (d := 20) (hfc := hJ2) | exact ops_callf (d := 21) (hfc := hN) | fail) | fail) (hk := ?_) | refine l_op (hk := ?_))
    | refine e_nil ?_
    | (refine e_o ?_; first | refine e_fl rfl (by first | exact .pl (by first | (apply q_callf; first | exact fs_callf (d := 15) (hfc := hJ1) | exact fs_callf (d := 20) (hfc := hJ2) | exact fs_callf (d := 21) (hfc := hN) | fail) | fail) | fail) (hk := ?_) | refine e_fl (hk := ?_) | refine e_ef rfl (by first | exact .alloca (zs := _) rfl (by decide) rfl (by decide) (by simp [nm, nset, -List.map_take, -List.map_drop]) | fail) (hk := ?_) | refine e_ef (hk := ?_))
    | (refine w_o ?_; first | refine w_drawS (id := 1) (rdP [(0, 2), (1, 2), (2, 3), (3, 3), (5, 2), (6, 2), (7, 3), (8, 3)]) (fun k => [11, 12].contains k) [[5],[]] (by kernel_rfl) rfl (by kernel_rfl) (by simp [nm, nset, -List.map_take, -List.map_drop]) ?_ | refine w_drawS (id := 11) (rdP [(1, 5), (2, 5)]) (fun k => [14, 15].contains k) [[153],[]] (by kernel_rfl) rfl (by kernel_rfl) (by simp [nm, nset, -List.map_take, -List.map_drop]) ?_)
  refine w_loopm (ι := Nat × List (List Bool)) (fun q => [(29, RVn q.1), (6, .ref 22 0 q.2.length), (22, .any)]) (fun q => [(22, 1, q.2.map OBs), (5, 2, [.agg [.sh (nx.map RNs), .sh (F.map RR)]]), (3, 2, [.agg [RIss hL, RIss hR]]), (2, 2, [.agg [RIss gL, RIss gR]])]) (fun q => q.1 ≤ gL.length ∧ q.2.length = q.1 ∧ q.2 = hTab H q.1 hL.length) (fun q => gL.length - q.1) (0, []) (h0 := ?_) (hs := ?_) (round := ?_)
  · exact ⟨by omega, rfl, rfl⟩
  · refine le_eq (by (repeat' first | exact .nil | refine .keep ?_ | refine .any ?_); first | done | fail) rfl rfl
  · intro ⟨u, out⟩ ⟨hu, hol, ho⟩
    dsimp only at hu hol ho ⊢
    by_cases hul : u < gL.length
    · repeat' first
        | refine w_seq ?_
        | refine w_block ?_
        | refine rb_n ?_
        | refine rb_ret ?_
        | refine rb_eq ?_
        | refine rb_ne (by rfl) ?_
        | refine w_exit ?_
        | refine rt_exit ?_
        | refine w_region ?_
        | refine l_nil ?_
        | refine rt_n ?_
        | refine w_ret ?_
        | refine rt_ret ?_
        | refine w_skip ?_
        | refine w_cond_t rfl ?_
        | refine w_cond_f rfl ?_
        | refine w_cnd rfl (fun hc => ?_) (fun hc => ?_)
        | refine w_cd rfl (fun hc => ?_) (fun hc => ?_)
        | refine w_cn rfl (fun hc => ?_) (fun hc => ?_)
        | refine w_cond rfl (fun hc => ?_) (fun hc => ?_)
        | (exfalso; omega)
        | (refine l_o ?_; first | refine l_op (hk := ?_))
        | refine d_nil ?_
        | (refine d_o ?_; first | refine d_fl (hk := ?_) | refine d_ef (hk := ?_))
        | (refine w_o ?_; first | refine w_draw (id := 1) (fun _ => true) (fun k => [4, 9, 10, 11, 12].contains k) [[], [], [], [], []] 64 (by kernel_rfl) rfl (by kernel_rfl) (by simp [nm, nset, -List.map_take, -List.map_drop]) ?_ | refine w_draw (id := 11) (fun _ => true) (fun k => [8, 13, 14].contains k) [[], [], []] 64 (by kernel_rfl) rfl (by kernel_rfl) (by simp [nm, nset, -List.map_take, -List.map_drop]) ?_)
      refine w_loopm (ι := Nat × List Bool) (fun q => [(36, RVn q.1), (9, .ref 32 0 q.2.length), (32, .any)]) (fun q => [(32, 1, q.2.map RVb), (22, 1, out.map OBs), (5, 2, [.agg [.sh (nx.map RNs), .sh (F.map RR)]]), (3, 2, [.agg [RIss hL, RIss hR]]), (2, 2, [.agg [RIss gL, RIss gR]])]) (fun q => q.1 ≤ hL.length ∧ q.2.length = q.1 ∧ q.2 = (List.range q.1).map fun v => H.getD (2 * (u * hL.length + v) + 1) false) (fun q => hL.length - q.1) (0, []) (h0 := ?_) (hs := ?_) (round := ?_)
      · exact ⟨by omega, rfl, rfl⟩
      · refine le_eq (by (repeat' first | exact .nil | refine .keep ?_ | refine .any ?_); first | done | fail) rfl rfl
      · intro ⟨v, row⟩ ⟨hv, hrl, hr⟩
        dsimp only at hv hrl hr ⊢
        by_cases hvl : v < hL.length
        · have hm1 : u * hL.length + hL.length ≤ gL.length * hL.length := by rw [← Nat.succ_mul]; exact Nat.mul_le_mul_right _ hul
          have hst : FCr Tryz.prog 66 [RVn (u * hL.length + v), RVb false] (RVn (2 * (u * hL.length + v) + 1)) := stateOf_ok (u * hL.length + v) false (by omega)
          have hJn : nJ gL hL = 2 * (gL.length * hL.length) := rfl
          have hil : 2 * (u * hL.length + v) + 1 < F.length := by omega
          repeat' first
            | refine w_seq ?_
            | refine w_block ?_
            | refine rb_n ?_
            | refine rb_ret ?_
            | refine rb_eq ?_
            | refine rb_ne (by rfl) ?_
            | refine w_exit ?_
            | refine rt_exit ?_
            | refine w_region ?_
            | refine l_nil ?_
            | refine rt_n ?_
            | refine w_ret ?_
            | refine rt_ret ?_
            | refine w_skip ?_
            | refine w_cond_t rfl ?_
            | refine w_cond_f rfl ?_
            | refine w_cnd rfl (fun hc => ?_) (fun hc => ?_)
            | refine w_cd rfl (fun hc => ?_) (fun hc => ?_)
            | refine w_cn rfl (fun hc => ?_) (fun hc => ?_)
            | refine w_cond rfl (fun hc => ?_) (fun hc => ?_)
            | (exfalso; omega)
            | (refine l_o ?_; first | refine l_op rfl (by first | (apply k_mul; first | exact ops_muln (m := u) (n := hL.length) rfl rfl (by omega) | fail) | (apply k_callf; first | exact ops_callf (d := 47) (hfc := hst) | fail) | fail) (hk := ?_) | refine l_op (hk := ?_))
            | refine e_nil ?_
            | (refine e_o ?_; first | refine e_fl rfl (by first | exact .pl (by first | (apply q_mul; first | exact fs_muln (m := u) (n := hL.length) rfl rfl (by omega) | fail) | (apply q_callf; first | exact fs_callf (d := 47) (hfc := hst) | fail) | fail) | fail) (hk := ?_) | refine e_fl (hk := ?_) | refine e_ef rfl (by first | exact .alloca (zs := _) rfl (by decide) rfl (by decide) (by simp [nm, nset, -List.map_take, -List.map_drop]) | fail) (hk := ?_) | refine e_ef (hk := ?_))
            | (refine w_o ?_; first | refine w_drawS (id := 1) (rdP []) (fun k => [4, 9, 10, 11, 12].contains k) [[], [], [], [], []] (by kernel_rfl) rfl (by kernel_rfl) (by simp [nm, nset, -List.map_take, -List.map_drop]) ?_ | refine w_drawS (id := 11) (rdP [(1, 5), (2, 5)]) (fun k => [14, 15].contains k) [[153],[]] (by kernel_rfl) rfl (by kernel_rfl) (by simp [nm, nset, -List.map_take, -List.map_drop]) ?_)
          refine rn_mk (v + 1, row ++ [decide (F[2 * (u * hL.length + v) + 1].fst ≠ 2)]) ?_ (by first | omega | (dsimp only; omega)) (le_trans (le_kill 32 (by simp only [nz, nf, nl, nb, nr, ng, nq, nu, reduceIte, Nat.reduceEqDiff, Nat.reduceAdd]; rfl)) (le_trans (le_ren 153 32 (by decide) (by decide) (by simp [nm, ng, renL_id, onames, renL_OBs, -List.map_append, -List.map_take, -List.map_drop]) (by simp [nm, ng, renL_id, onames, renL_OBs, -List.map_append, -List.map_take, -List.map_drop]) (by simp only [ng, nm, nu, renL_id, reduceIte, Nat.reduceEqDiff, renL_OBs] <;> rfl) (by simp only [ng, nm, nu, renL_id, reduceIte, Nat.reduceEqDiff, renL_OBs] <;> rfl)) (le_eq (by (repeat' first | exact .nil | refine .keep ?_ | refine .any ?_); first | done | fail) rfl rfl)))
          refine ⟨by dsimp only; omega, by simp; omega, ?_⟩
          dsimp only
          rw [hr, List.range_succ, List.map_append]
          show _ ++ [_] = _ ++ [H.getD (2 * (u * hL.length + v) + 1) false]
          rw [hat _ (by omega), List.getD_eq_getElem?_getD, List.getElem?_eq_getElem hil]
          rfl
        · obtain rfl : v = hL.length := by omega
          repeat' first
            | refine w_seq ?_
            | refine w_block ?_
            | refine rb_n ?_
            | refine rb_ret ?_
            | refine rb_eq ?_
            | refine rb_ne (by rfl) ?_
            | refine w_exit ?_
            | refine rt_exit ?_
            | refine w_region ?_
            | refine l_nil ?_
            | refine rt_n ?_
            | refine w_ret ?_
            | refine rt_ret ?_
            | refine w_skip ?_
            | refine w_cond_t rfl ?_
            | refine w_cond_f rfl ?_
            | refine w_cnd rfl (fun hc => ?_) (fun hc => ?_)
            | refine w_cd rfl (fun hc => ?_) (fun hc => ?_)
            | refine w_cn rfl (fun hc => ?_) (fun hc => ?_)
            | refine w_cond rfl (fun hc => ?_) (fun hc => ?_)
            | (exfalso; omega)
            | (refine l_o ?_; first | refine l_op (hk := ?_))
            | refine d_nil ?_
            | (refine d_o ?_; first | refine d_fl (hk := ?_) | refine d_ef (hk := ?_))
            | (refine w_o ?_; first | refine w_draw (id := 1) (fun _ => true) (fun k => [4, 9, 10, 11, 12].contains k) [[], [], [], [], []] 64 (by kernel_rfl) rfl (by kernel_rfl) (by simp [nm, nset, -List.map_take, -List.map_drop]) ?_ | refine w_draw (id := 11) (fun _ => true) (fun k => [8, 13, 14].contains k) [[], [], []] 64 (by kernel_rfl) rfl (by kernel_rfl) (by simp [nm, nset, -List.map_take, -List.map_drop]) ?_)
          refine rn_mk (u + 1, out ++ [row]) ?_ (by first | omega | (dsimp only; omega)) (le_eq (by (repeat' first | exact .nil | refine .keep ?_ | refine .any ?_); first | done | fail) rfl rfl)
          refine ⟨by dsimp only; omega, by simp; omega, ?_⟩
          dsimp only
          rw [ho, hr, hTab, hTab, List.range_succ, List.map_append]
          rfl
    · obtain rfl : u = gL.length := by omega
      rw [ho]
      repeat' first
        | refine w_seq ?_
        | refine w_block ?_
        | refine rb_n ?_
        | refine rb_ret ?_
        | refine rb_eq ?_
        | refine rb_ne (by rfl) ?_
        | refine w_exit ?_
        | refine rt_exit ?_
        | refine w_region ?_
        | refine l_nil ?_
        | refine rt_n ?_
        | refine w_ret ?_
        | refine rt_ret ?_
        | refine w_skip ?_
        | refine w_cond_t rfl ?_
        | refine w_cond_f rfl ?_
        | refine w_cnd rfl (fun hc => ?_) (fun hc => ?_)
        | refine w_cd rfl (fun hc => ?_) (fun hc => ?_)
        | refine w_cn rfl (fun hc => ?_) (fun hc => ?_)
        | refine w_cond rfl (fun hc => ?_) (fun hc => ?_)
        | (exfalso; omega)
        | (refine l_o ?_; first | refine l_op (hk := ?_))
        | refine d_nil ?_
        | (refine d_o ?_; first | refine d_fl (hk := ?_) | refine d_ef (hk := ?_))
        | (refine w_o ?_; first | refine w_draw (id := 1) (fun _ => true) (fun k => [4, 9, 10, 11, 12].contains k) [[], [], [], [], []] 64 (by kernel_rfl) rfl (by kernel_rfl) (by simp [nm, nset, -List.map_take, -List.map_drop]) ?_ | refine w_draw (id := 11) (fun _ => true) (fun k => [8, 13, 14].contains k) [[], [], []] 64 (by kernel_rfl) rfl (by kernel_rfl) (by simp [nm, nset, -List.map_take, -List.map_drop]) ?_)
      refine en_end (hf := Tryz.results39) (hr := ?_); simp only [ne, nf, nl, nr, lget, reduceIte, Nat.reduceEqDiff]; first | rfl | refine congrArg RVb ?_ | refine congrArg RVi ?_ | skip
end
end Go.Proofs.YtpcckakchpblcaaGreatDoor
