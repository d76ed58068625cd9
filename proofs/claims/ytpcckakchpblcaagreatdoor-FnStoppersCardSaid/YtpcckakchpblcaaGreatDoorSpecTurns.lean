/- The reference's l26Longest comes to the sweeps. For all loops whose moves lead to places. -/
import Derived.Test.YtpcckakchpblcaaGreatDoorJ32
namespace Go.Proofs.YtpcckakchpblcaaGreatDoor
open Eng
attribute [local irreducible] OpS OpG FC FCr Rel Fl Ef DR Fs
set_option linter.unusedSimpArgs false
set_option maxHeartbeats 0
set_option maxRecDepth 100000

def Bnd (out : List Int) (B : Int) : Prop := ∀ k, out.getD k (-1) ≤ B
theorem mostI_le {out : List Int} {B : Int} (h : Bnd out B) (hB : -1 ≤ B) : ∀ (ks : List Nat) (m : Int), mostI out ks m ≤ max m (B + 1)
  | [], m => by rw [mostI]; omega
  | k :: ks, m => by
    have h1 := h k
    rw [mostI]
    split
    · omega
    · have := mostI_le h hB ks (max m (out.getD k (-1) + 1)); omega
theorem sweep1_bnd {nxt out i} {B : Int} (h : Bnd out B) (hB : -1 ≤ B) : Bnd (sweep1 nxt out i) (B + 1) := fun k => by
  have h1 := h k
  have h2 := mostI_le h hB (nxt.getD i []) 0
  unfold sweep1
  split
  · omega
  · split
    · rw [gdI_set]
      split <;> omega
    · omega
theorem sweepTo_bnd {nxt out} {B : Int} (h : Bnd out B) (hB : -1 ≤ B) : ∀ i : Nat, Bnd (sweepTo nxt out i) (B + i)
  | 0 => by simpa [sweepTo] using h
  | i + 1 => fun k => by have := sweep1_bnd (nxt := nxt) (i := i) (sweepTo_bnd (nxt := nxt) h hB i) (by omega) k; rw [sweepTo]; omega
theorem sweeps_bnd {nxt n} : ∀ r : Nat, Bnd (sweeps nxt n r) ((r * n : Nat) : Int)
  | 0 => fun k => by
    rw [sweeps, List.getD_eq_getElem?_getD, List.getElem?_replicate]
    split <;> (simp)
  | r + 1 => fun k => by
    have := sweepTo_bnd (nxt := nxt) (sweeps_bnd (nxt := nxt) (n := n) r) (by omega) n k
    rw [sweeps, Nat.succ_mul]; omega
theorem mostI_at {out : List Int} {ks : List Nat} {k : Nat} {m : Int} (h : k < ks.length) (h2 : ks[k] < out.length) : mostI out (ks.drop k) m = if out[ks[k]] < 0 then -1 else mostI out (ks.drop (k + 1)) (max m (out[ks[k]] + 1)) := by
  rw [List.drop_eq_getElem_cons h, mostI]
  have e : out.getD ks[k] (-1) = out[ks[k]] := by rw [List.getD_eq_getElem?_getD, List.getElem?_eq_getElem h2]; rfl
  rw [e]
theorem l26Most_ok (a b : Int) : FCr Tryz.prog 64 [RVi a, RVi b] (RVi (max a b)) := by
  refine (fcr_in Tryz.func64 rfl (by simp only [Tryz.ntmps64, anys, List.length_cons, List.length_nil, Nat.reduceAdd, Nat.reduceSub, List.replicate_succ, List.replicate_zero, List.cons_append, List.nil_append] <;> rfl) ?_)
  repeat' first
    | refine w_seq ?_
    | refine w_region ?_
    | refine l_nil ?_
    | refine rt_n ?_
    | refine w_ret ?_
    | refine rt_ret ?_
    | refine w_skip ?_
    | refine w_cond_t rfl ?_
    | refine w_cond_f rfl ?_
    | refine w_cnd rfl (fun hc => ?_) (fun hc => ?_)
    | refine w_cd rfl (fun hc => ?_) (fun hc => ?_)
    | refine w_cn rfl (fun hc => ?_) (fun hc => ?_)
    | refine w_cond rfl (fun hc => ?_) (fun hc => ?_)
    | (refine l_o ?_; first | refine l_op (hk := ?_))
  · refine en_one (hf := Tryz.results64) (h := ?_); simp only [lget]; first | refine congrArg RVb ?_ | refine congrArg RVi ?_ | skip
    omega
  · refine en_one (hf := Tryz.results64) (h := ?_); simp only [lget]; first | refine congrArg RVb ?_ | refine congrArg RVi ?_ | skip
    omega
theorem l26Longest_ok (L R : List (List Nat)) (hi : Inside L R) (hL : L.length ≤ 1048576) (hl : ∀ l ∈ L, l.length ≤ 1048576) (hr : ∀ l ∈ R, l.length ≤ 1048576) :
    FCr Tryz.prog 37 [.agg [RNss L, RNss R]] (OIs (sweeps (nxtOf L R) (2 * L.length) (2 * L.length + 1))) := by
  have hsu := fun i (h : i < 2 * L.length) => succs hi hL hl hr h
  generalize hn : 2 * L.length = n at *
  have hn2 : n ≤ 2097152 := by omega
  generalize nxtOf L R = nx at *
  refine (fcr_in Tryz.func37 rfl (by simp only [Tryz.ntmps37, anys, List.length_cons, List.length_nil, Nat.reduceAdd, Nat.reduceSub, List.replicate_succ, List.replicate_zero, List.cons_append, List.nil_append] <;> rfl) ?_)
  repeat' first
    | refine w_seq ?_
    | refine w_block ?_
    | refine rb_n ?_
    | refine rb_ret ?_
    | refine rb_eq ?_
    | refine rb_ne (by rfl) ?_
    | refine w_exit ?_
    | refine rt_exit ?_
    | refine w_region ?_
    | refine l_nil ?_
    | refine rt_n ?_
    | refine w_ret ?_
    | refine rt_ret ?_
    | refine w_skip ?_
    | refine w_cond_t rfl ?_
    | refine w_cond_f rfl ?_
    | refine w_cnd rfl (fun hc => ?_) (fun hc => ?_)
    | refine w_cd rfl (fun hc => ?_) (fun hc => ?_)
    | refine w_cn rfl (fun hc => ?_) (fun hc => ?_)
    | refine w_cond rfl (fun hc => ?_) (fun hc => ?_)
    | (refine l_o ?_; first | refine l_eqnil rfl (by kernel_rfl) (by intro b; simp only [nz]; rfl) (fun b hb => ?_) | refine l_op rfl (by first | (apply k_mul; first | exact ops_muln (a := 2) rfl rfl (by omega) | fail) | fail) (hk := ?_) | refine l_op (hk := ?_) | (refine l_g ?_; first | refine l_y rfl rfl rfl ?_ | refine l_n rfl rfl rfl rfl (hk := ?_) | refine l_n' rfl rfl rfl (hk := ?_) | refine l_spnd rfl rfl rfl (h1 := fun hc => ?_) (h2 := fun hc => ?_) | refine l_spd rfl rfl rfl (h1 := fun hc => ?_) (h2 := fun hc => ?_) | refine l_spn rfl rfl rfl (h1 := fun hc => ?_) (h2 := fun hc => ?_) | refine l_sp rfl rfl rfl (h1 := fun hc => ?_) (h2 := fun hc => ?_)))
  simp only [hn]
  refine w_loopm (ι := Nat × List Int) (fun i => [(5, RVn i.1)]) (fun i => [(17, 1, i.2.map RVi), (1, 2, [.agg [RNss L, RNss R]])]) (fun i => i.1 ≤ n ∧ i.2.length = n ∧ ∀ k (h : k < i.2.length), k < i.1 → i.2[k] = -1) (fun i => n - i.1) (0, List.replicate n 0) (h0 := ?_) (hs := ?_) (round := ?_)
  · exact ⟨Nat.zero_le _, by simp, fun k h h2 => absurd h2 (Nat.not_lt_zero _)⟩
  · refine le_eq (by (repeat' first | exact .nil | refine .keep ?_ | refine .any ?_); first | done | fail) rfl rfl
  · intro ⟨i, l⟩ ⟨hin, hll, hle⟩
    dsimp only at hin hll hle ⊢
    by_cases hil : i < n
    · have hil2 : i < l.length := by omega
      repeat' first
        | refine w_seq ?_
        | refine w_block ?_
        | refine rb_n ?_
        | refine rb_ret ?_
        | refine rb_eq ?_
        | refine rb_ne (by rfl) ?_
        | refine w_exit ?_
        | refine rt_exit ?_
        | refine w_region ?_
        | refine l_nil ?_
        | refine rt_n ?_
        | refine w_ret ?_
        | refine rt_ret ?_
        | refine w_skip ?_
        | refine w_cond_t rfl ?_
        | refine w_cond_f rfl ?_
        | refine w_cnd rfl (fun hc => ?_) (fun hc => ?_)
        | refine w_cd rfl (fun hc => ?_) (fun hc => ?_)
        | refine w_cn rfl (fun hc => ?_) (fun hc => ?_)
        | refine w_cond rfl (fun hc => ?_) (fun hc => ?_)
        | (exfalso; omega)
        | (refine l_o ?_; first | refine l_eqnil rfl (by kernel_rfl) (by intro b; simp only [nz]; rfl) (fun b hb => ?_) | refine l_op (hk := ?_) | (refine l_g ?_; first | refine l_y rfl rfl rfl ?_ | refine l_n rfl rfl rfl rfl (hk := ?_) | refine l_n' rfl rfl rfl (hk := ?_) | refine l_spnd rfl rfl rfl (h1 := fun hc => ?_) (h2 := fun hc => ?_) | refine l_spd rfl rfl rfl (h1 := fun hc => ?_) (h2 := fun hc => ?_) | refine l_spn rfl rfl rfl (h1 := fun hc => ?_) (h2 := fun hc => ?_) | refine l_sp rfl rfl rfl (h1 := fun hc => ?_) (h2 := fun hc => ?_)))
      refine rn_mk (i + 1, l.set i (-1)) ?_ (by first | omega | (dsimp only; omega)) (le_eq (by (repeat' first | exact .nil | refine .keep ?_ | refine .any ?_); first | done | fail) rfl rfl)
      refine ⟨by dsimp only; omega, by simpa using hll, fun k h h2 => ?_⟩
      dsimp only at h h2 ⊢
      rw [List.getElem_set]
      split
      · rfl
      · exact hle k (by simpa using h) (by omega)
    · obtain rfl : l = List.replicate n (-1) := by
        rw [List.eq_replicate_iff]
        refine ⟨hll, fun b hb => ?_⟩
        obtain ⟨k, hk, rfl⟩ := List.getElem_of_mem hb
        exact hle k hk (by omega)
      clear hll hle
      repeat' first
        | refine w_seq ?_
        | refine w_block ?_
        | refine rb_n ?_
        | refine rb_ret ?_
        | refine rb_eq ?_
        | refine rb_ne (by rfl) ?_
        | refine w_exit ?_
        | refine rt_exit ?_
        | refine w_region ?_
        | refine l_nil ?_
        | refine rt_n ?_
        | refine w_ret ?_
        | refine rt_ret ?_
        | refine w_skip ?_
        | refine w_cond_t rfl ?_
        | refine w_cond_f rfl ?_
        | refine w_cnd rfl (fun hc => ?_) (fun hc => ?_)
        | refine w_cd rfl (fun hc => ?_) (fun hc => ?_)
        | refine w_cn rfl (fun hc => ?_) (fun hc => ?_)
        | refine w_cond rfl (fun hc => ?_) (fun hc => ?_)
        | (exfalso; omega)
        | (refine l_o ?_; first | refine l_eqnil rfl (by kernel_rfl) (by intro b; simp only [nz]; rfl) (fun b hb => ?_) | refine l_op (hk := ?_) | (refine l_g ?_; first | refine l_y rfl rfl rfl ?_ | refine l_n rfl rfl rfl rfl (hk := ?_) | refine l_n' rfl rfl rfl (hk := ?_) | refine l_spnd rfl rfl rfl (h1 := fun hc => ?_) (h2 := fun hc => ?_) | refine l_spd rfl rfl rfl (h1 := fun hc => ?_) (h2 := fun hc => ?_) | refine l_spn rfl rfl rfl (h1 := fun hc => ?_) (h2 := fun hc => ?_) | refine l_sp rfl rfl rfl (h1 := fun hc => ?_) (h2 := fun hc => ?_)))
      refine w_loopm (ι := Nat) (fun r => [(6, RVn r)]) (fun r => [(17, 1, (sweeps nx n r).map RVi), (1, 2, [.agg [RNss L, RNss R]])]) (fun r => r ≤ n + 1) (fun r => n + 1 - r) 0 (h0 := ?_) (hs := ?_) (round := ?_)
      · omega
      · refine le_eq (by (repeat' first | exact .nil | refine .keep ?_ | refine .any ?_); first | done | fail) rfl rfl
      · intro r hrr
        have hb := sweeps_bnd (nxt := nx) (n := n) r
        have hlen := sweeps_len (nxt := nx) (n := n) r
        have hsr : sweeps nx n (r + 1) = sweepTo nx (sweeps nx n r) n := rfl
        have hm : r * n ≤ 2097153 * 2097152 := Nat.mul_le_mul (by omega) hn2
        by_cases hrn : r < n + 1
        · generalize sweeps nx n r = q0 at *
          repeat' first
            | refine w_seq ?_
            | refine w_block ?_
            | refine rb_n ?_
            | refine rb_ret ?_
            | refine rb_eq ?_
            | refine rb_ne (by rfl) ?_
            | refine w_exit ?_
            | refine rt_exit ?_
            | refine w_region ?_
            | refine l_nil ?_
            | refine rt_n ?_
            | refine w_ret ?_
            | refine rt_ret ?_
            | refine w_skip ?_
            | refine w_cond_t rfl ?_
            | refine w_cond_f rfl ?_
            | refine w_cnd rfl (fun hc => ?_) (fun hc => ?_)
            | refine w_cd rfl (fun hc => ?_) (fun hc => ?_)
            | refine w_cn rfl (fun hc => ?_) (fun hc => ?_)
            | refine w_cond rfl (fun hc => ?_) (fun hc => ?_)
            | (exfalso; omega)
            | (refine l_o ?_; first | refine l_eqnil rfl (by kernel_rfl) (by intro b; simp only [nz]; rfl) (fun b hb => ?_) | refine l_op (hk := ?_) | (refine l_g ?_; first | refine l_y rfl rfl rfl ?_ | refine l_n rfl rfl rfl rfl (hk := ?_) | refine l_n' rfl rfl rfl (hk := ?_) | refine l_spnd rfl rfl rfl (h1 := fun hc => ?_) (h2 := fun hc => ?_) | refine l_spd rfl rfl rfl (h1 := fun hc => ?_) (h2 := fun hc => ?_) | refine l_spn rfl rfl rfl (h1 := fun hc => ?_) (h2 := fun hc => ?_) | refine l_sp rfl rfl rfl (h1 := fun hc => ?_) (h2 := fun hc => ?_)))
          refine w_loopm (ι := Nat) (fun i => [(7, RVn i)]) (fun i => [(17, 1, (sweepTo nx q0 i).map RVi), (1, 2, [.agg [RNss L, RNss R]])]) (fun i => i ≤ n) (fun i => n - i) 0 (h0 := ?_) (hs := ?_) (round := ?_)
          · omega
          · refine le_eq (by (repeat' first | exact .nil | refine .keep ?_ | refine .any ?_); first | done | fail) rfl rfl
          · intro i hin2
            have hqb := sweepTo_bnd (nxt := nx) hb (by omega) i
            have hql : (sweepTo nx q0 i).length = n := by rw [sweepTo_len]; exact hlen
            have hqs : sweepTo nx q0 (i + 1) = sweep1 nx (sweepTo nx q0 i) i := rfl
            by_cases hil2 : i < n
            · obtain ⟨T, ks, e1, e2, e3, e4, e5, e6⟩ := hsu i hil2
              generalize sweepTo nx q0 i = q at *
              have hiq : i < q.length := by omega
              have ei : q.getD i (-1) = q[i] := by rw [List.getD_eq_getElem?_getD, List.getElem?_eq_getElem hiq]; rfl
              unfold sweep1 at hqs
              rw [ei, e1] at hqs
              by_cases hq0 : 0 ≤ q[i]
              · rw [if_pos hq0] at hqs
                repeat' first
                  | refine w_seq ?_
                  | refine w_block ?_
                  | refine rb_n ?_
                  | refine rb_ret ?_
                  | refine rb_eq ?_
                  | refine rb_ne (by rfl) ?_
                  | refine w_exit ?_
                  | refine rt_exit ?_
                  | refine w_region ?_
                  | refine l_nil ?_
                  | refine rt_n ?_
                  | refine w_ret ?_
                  | refine rt_ret ?_
                  | refine w_skip ?_
                  | refine w_cond_t rfl ?_
                  | refine w_cond_f rfl ?_
                  | refine w_cnd rfl (fun hc => ?_) (fun hc => ?_)
                  | refine w_cd rfl (fun hc => ?_) (fun hc => ?_)
                  | refine w_cn rfl (fun hc => ?_) (fun hc => ?_)
                  | refine w_cond rfl (fun hc => ?_) (fun hc => ?_)
                  | (exfalso; omega)
                  | (refine l_o ?_; first | refine l_eqnil rfl (by kernel_rfl) (by intro b; simp only [nz]; rfl) (fun b hb => ?_) | refine l_op (hk := ?_) | (refine l_g ?_; first | refine l_y rfl rfl rfl ?_ | refine l_n rfl rfl rfl rfl (hk := ?_) | refine l_n' rfl rfl rfl (hk := ?_) | refine l_spnd rfl rfl rfl (h1 := fun hc => ?_) (h2 := fun hc => ?_) | refine l_spd rfl rfl rfl (h1 := fun hc => ?_) (h2 := fun hc => ?_) | refine l_spn rfl rfl rfl (h1 := fun hc => ?_) (h2 := fun hc => ?_) | refine l_sp rfl rfl rfl (h1 := fun hc => ?_) (h2 := fun hc => ?_)))
                refine rn_mk (i + 1) (by omega) (by omega) ?_
                rw [hqs]
                refine le_eq (by (repeat' first | exact .nil | refine .keep ?_ | refine .any ?_); first | done | fail) rfl rfl
              · rw [if_neg hq0] at hqs
                repeat' first
                  | refine w_seq ?_
                  | refine w_block ?_
                  | refine rb_n ?_
                  | refine rb_ret ?_
                  | refine rb_eq ?_
                  | refine rb_ne (by rfl) ?_
                  | refine w_exit ?_
                  | refine rt_exit ?_
                  | refine w_region ?_
                  | refine l_nil ?_
                  | refine rt_n ?_
                  | refine w_ret ?_
                  | refine rt_ret ?_
                  | refine w_skip ?_
                  | refine w_cond_t rfl ?_
                  | refine w_cond_f rfl ?_
                  | refine w_cnd rfl (fun hc => ?_) (fun hc => ?_)
                  | refine w_cd rfl (fun hc => ?_) (fun hc => ?_)
                  | refine w_cn rfl (fun hc => ?_) (fun hc => ?_)
                  | refine w_cond rfl (fun hc => ?_) (fun hc => ?_)
                  | (exfalso; omega)
                  | (refine l_o ?_; first | refine l_eqnil rfl (by kernel_rfl) (by intro b; simp only [nz]; rfl) (fun b hb => ?_) | refine l_op rfl (by first | (apply k_rem; first | exact ops_remn (n := 2) rfl rfl (by omega) | fail) | (apply k_quo; first | exact ops_quon (n := 2) rfl rfl (by omega) (by omega) | fail) | (apply k_callf; first | exact ops_callf (hfc := e5) | fail) | fail) (hk := ?_) | refine l_op (hk := ?_) | (refine l_g ?_; first | refine l_y rfl rfl rfl ?_ | refine l_n rfl rfl rfl rfl (hk := ?_) | refine l_n' rfl rfl rfl (hk := ?_) | refine l_spnd rfl rfl rfl (h1 := fun hc => ?_) (h2 := fun hc => ?_) | refine l_spd rfl rfl rfl (h1 := fun hc => ?_) (h2 := fun hc => ?_) | refine l_spn rfl rfl rfl (h1 := fun hc => ?_) (h2 := fun hc => ?_) | refine l_sp rfl rfl rfl (h1 := fun hc => ?_) (h2 := fun hc => ?_)))
                refine w_loopm (ι := Nat × Int) (fun k => [(10, RVn k.1), (9, RVi k.2)]) (fun k => [(17, 1, q.map RVi), (1, 2, [.agg [RNss L, RNss R]])]) (fun k => k.1 ≤ T.length ∧ (if k.2 < 0 then -1 else mostI q (ks.drop k.1) k.2) = mostI q ks 0 ∧ -1 ≤ k.2) (fun k => T.length - k.1) (0, 0) (h0 := ?_) (hs := ?_) (round := ?_)
                · exact ⟨Nat.zero_le _, by dsimp only; rw [if_neg (by omega), List.drop_zero], by dsimp only; omega⟩
                · refine le_eq (by (repeat' first | exact .nil | refine .keep ?_ | refine .any ?_); first | done | fail) rfl rfl
                · intro ⟨k, m⟩ ⟨hk, hm1, hm2⟩
                  dsimp only at hk hm1 hm2 ⊢
                  by_cases hkm : k < T.length ∧ 0 ≤ m
                  · obtain ⟨hkl, hm0⟩ := hkm
                    have b1 := e4 k (by omega)
                    have b2 := e6 k hkl (by omega)
                    have b3 : ks[k]'(by omega) < q.length := by omega
                    have b4 := hqb (ks[k]'(by omega))
                    rw [List.getD_eq_getElem?_getD, List.getElem?_eq_getElem b3] at b4
                    have b5 : q[ks[k]'(by omega)] ≤ (r * n : Nat) + (i : Nat) := b4
                    have b6 := l26Most_ok m (q[ks[k]'(by omega)] + 1)
                    rw [if_neg (by omega), mostI_at (by omega) b3] at hm1
                    by_cases hx : q[ks[k]'(by omega)] < 0
                    · rw [if_pos hx] at hm1
                      repeat' first
                        | refine w_seq ?_
                        | refine w_block ?_
                        | refine rb_n ?_
                        | refine rb_ret ?_
                        | refine rb_eq ?_
                        | refine rb_ne (by rfl) ?_
                        | refine w_exit ?_
                        | refine rt_exit ?_
                        | refine w_region ?_
                        | refine l_nil ?_
                        | refine rt_n ?_
                        | refine w_ret ?_
                        | refine rt_ret ?_
                        | refine w_skip ?_
                        | refine w_cond_t rfl ?_
                        | refine w_cond_f rfl ?_
                        | refine w_cnd rfl (fun hc => ?_) (fun hc => ?_)
                        | refine w_cd rfl (fun hc => ?_) (fun hc => ?_)
                        | refine w_cn rfl (fun hc => ?_) (fun hc => ?_)
                        | refine w_cond rfl (fun hc => ?_) (fun hc => ?_)
                        | (exfalso; omega)
                        | (refine l_o ?_; first | refine l_eqnil rfl (by kernel_rfl) (by intro b; simp only [nz]; rfl) (fun b hb => ?_) | refine l_op rfl (by first | (apply k_rem; first | exact ops_remn (n := 2) rfl rfl (by omega) | fail) | (apply k_callf; first | exact ops_callf (hfc := b2) | fail) | fail) (hk := ?_) | refine l_op (hk := ?_) | (refine l_g ?_; first | refine l_y rfl rfl rfl ?_ | refine l_n rfl rfl rfl rfl (hk := ?_) | refine l_n' rfl rfl rfl (hk := ?_) | refine l_spnd rfl rfl rfl (h1 := fun hc => ?_) (h2 := fun hc => ?_) | refine l_spd rfl rfl rfl (h1 := fun hc => ?_) (h2 := fun hc => ?_) | refine l_spn rfl rfl rfl (h1 := fun hc => ?_) (h2 := fun hc => ?_) | refine l_sp rfl rfl rfl (h1 := fun hc => ?_) (h2 := fun hc => ?_)))
                      refine rn_mk (k + 1, -1) ?_ (by first | omega | (dsimp only; omega)) (le_eq (by (repeat' first | exact .nil | refine .keep ?_ | refine .any ?_); first | done | fail) rfl rfl)
                      exact ⟨by dsimp only; omega, by dsimp only; rw [if_pos (by omega)]; exact hm1, by dsimp only; omega⟩
                    · rw [if_neg hx] at hm1
                      repeat' first
                        | refine w_seq ?_
                        | refine w_block ?_
                        | refine rb_n ?_
                        | refine rb_ret ?_
                        | refine rb_eq ?_
                        | refine rb_ne (by rfl) ?_
                        | refine w_exit ?_
                        | refine rt_exit ?_
                        | refine w_region ?_
                        | refine l_nil ?_
                        | refine rt_n ?_
                        | refine w_ret ?_
                        | refine rt_ret ?_
                        | refine w_skip ?_
                        | refine w_cond_t rfl ?_
                        | refine w_cond_f rfl ?_
                        | refine w_cnd rfl (fun hc => ?_) (fun hc => ?_)
                        | refine w_cd rfl (fun hc => ?_) (fun hc => ?_)
                        | refine w_cn rfl (fun hc => ?_) (fun hc => ?_)
                        | refine w_cond rfl (fun hc => ?_) (fun hc => ?_)
                        | (exfalso; omega)
                        | (refine l_o ?_; first | refine l_eqnil rfl (by kernel_rfl) (by intro b; simp only [nz]; rfl) (fun b hb => ?_) | refine l_op rfl (by first | (apply k_rem; first | exact ops_remn (n := 2) rfl rfl (by omega) | fail) | (apply k_callf; first | exact ops_callf (hfc := b2) | exact ops_callf (hfc := b6) | fail) | fail) (hk := ?_) | refine l_op (hk := ?_) | (refine l_g ?_; first | refine l_y rfl rfl rfl ?_ | refine l_n rfl rfl rfl rfl (hk := ?_) | refine l_n' rfl rfl rfl (hk := ?_) | refine l_spnd rfl rfl rfl (h1 := fun hc => ?_) (h2 := fun hc => ?_) | refine l_spd rfl rfl rfl (h1 := fun hc => ?_) (h2 := fun hc => ?_) | refine l_spn rfl rfl rfl (h1 := fun hc => ?_) (h2 := fun hc => ?_) | refine l_sp rfl rfl rfl (h1 := fun hc => ?_) (h2 := fun hc => ?_)))
                      refine rn_mk (k + 1, max m (q[ks[k]'(by omega)] + 1)) ?_ (by first | omega | (dsimp only; omega)) (le_eq (by (repeat' first | exact .nil | refine .keep ?_ | refine .any ?_); first | done | fail) rfl rfl)
                      exact ⟨by dsimp only; omega, by dsimp only; rw [if_neg (by omega)]; exact hm1, by dsimp only; omega⟩
                  · have hmv : m = mostI q ks 0 := by
                      by_cases h0 : m < 0
                      · rw [if_pos h0] at hm1; omega
                      · rw [if_neg h0, List.drop_eq_nil_of_le (by omega), mostI] at hm1; exact hm1
                    rw [← hmv] at hqs
                    clear hm1 e1 e4 e5 e6
                    by_cases h0 : 0 ≤ m
                    · rw [if_pos h0] at hqs
                      repeat' first
                        | refine w_seq ?_
                        | refine w_block ?_
                        | refine rb_n ?_
                        | refine rb_ret ?_
                        | refine rb_eq ?_
                        | refine rb_ne (by rfl) ?_
                        | refine w_exit ?_
                        | refine rt_exit ?_
                        | refine w_region ?_
                        | refine l_nil ?_
                        | refine rt_n ?_
                        | refine w_ret ?_
                        | refine rt_ret ?_
                        | refine w_skip ?_
                        | refine w_cond_t rfl ?_
                        | refine w_cond_f rfl ?_
                        | refine w_cnd rfl (fun hc => ?_) (fun hc => ?_)
                        | refine w_cd rfl (fun hc => ?_) (fun hc => ?_)
                        | refine w_cn rfl (fun hc => ?_) (fun hc => ?_)
                        | refine w_cond rfl (fun hc => ?_) (fun hc => ?_)
                        | (exfalso; omega)
                        | (refine l_o ?_; first | refine l_eqnil rfl (by kernel_rfl) (by intro b; simp only [nz]; rfl) (fun b hb => ?_) | refine l_op (hk := ?_) | (refine l_g ?_; first | refine l_y rfl rfl rfl ?_ | refine l_n rfl rfl rfl rfl (hk := ?_) | refine l_n' rfl rfl rfl (hk := ?_) | refine l_spnd rfl rfl rfl (h1 := fun hc => ?_) (h2 := fun hc => ?_) | refine l_spd rfl rfl rfl (h1 := fun hc => ?_) (h2 := fun hc => ?_) | refine l_spn rfl rfl rfl (h1 := fun hc => ?_) (h2 := fun hc => ?_) | refine l_sp rfl rfl rfl (h1 := fun hc => ?_) (h2 := fun hc => ?_)))
                      refine rn_mk (i + 1) (by omega) (by omega) ?_
                      rw [hqs, List.map_set]
                      refine le_eq (by (repeat' first | exact .nil | refine .keep ?_ | refine .any ?_); first | done | fail) rfl rfl
                    · rw [if_neg h0] at hqs
                      repeat' first
                        | refine w_seq ?_
                        | refine w_block ?_
                        | refine rb_n ?_
                        | refine rb_ret ?_
                        | refine rb_eq ?_
                        | refine rb_ne (by rfl) ?_
                        | refine w_exit ?_
                        | refine rt_exit ?_
                        | refine w_region ?_
                        | refine l_nil ?_
                        | refine rt_n ?_
                        | refine w_ret ?_
                        | refine rt_ret ?_
                        | refine w_skip ?_
                        | refine w_cond_t rfl ?_
                        | refine w_cond_f rfl ?_
                        | refine w_cnd rfl (fun hc => ?_) (fun hc => ?_)
                        | refine w_cd rfl (fun hc => ?_) (fun hc => ?_)
                        | refine w_cn rfl (fun hc => ?_) (fun hc => ?_)
                        | refine w_cond rfl (fun hc => ?_) (fun hc => ?_)
                        | (exfalso; omega)
                        | (refine l_o ?_; first | refine l_eqnil rfl (by kernel_rfl) (by intro b; simp only [nz]; rfl) (fun b hb => ?_) | refine l_op (hk := ?_) | (refine l_g ?_; first | refine l_y rfl rfl rfl ?_ | refine l_n rfl rfl rfl rfl (hk := ?_) | refine l_n' rfl rfl rfl (hk := ?_) | refine l_spnd rfl rfl rfl (h1 := fun hc => ?_) (h2 := fun hc => ?_) | refine l_spd rfl rfl rfl (h1 := fun hc => ?_) (h2 := fun hc => ?_) | refine l_spn rfl rfl rfl (h1 := fun hc => ?_) (h2 := fun hc => ?_) | refine l_sp rfl rfl rfl (h1 := fun hc => ?_) (h2 := fun hc => ?_)))
                      all_goals
                        refine rn_mk (i + 1) (by omega) (by omega) ?_
                        rw [hqs]
                        refine le_eq (by (repeat' first | exact .nil | refine .keep ?_ | refine .any ?_); first | done | fail) rfl rfl
            · obtain rfl : n = i := by omega
              repeat' first
                | refine w_seq ?_
                | refine w_block ?_
                | refine rb_n ?_
                | refine rb_ret ?_
                | refine rb_eq ?_
                | refine rb_ne (by rfl) ?_
                | refine w_exit ?_
                | refine rt_exit ?_
                | refine w_region ?_
                | refine l_nil ?_
                | refine rt_n ?_
                | refine w_ret ?_
                | refine rt_ret ?_
                | refine w_skip ?_
                | refine w_cond_t rfl ?_
                | refine w_cond_f rfl ?_
                | refine w_cnd rfl (fun hc => ?_) (fun hc => ?_)
                | refine w_cd rfl (fun hc => ?_) (fun hc => ?_)
                | refine w_cn rfl (fun hc => ?_) (fun hc => ?_)
                | refine w_cond rfl (fun hc => ?_) (fun hc => ?_)
                | (exfalso; omega)
                | (refine l_o ?_; first | refine l_eqnil rfl (by kernel_rfl) (by intro b; simp only [nz]; rfl) (fun b hb => ?_) | refine l_op (hk := ?_) | (refine l_g ?_; first | refine l_y rfl rfl rfl ?_ | refine l_n rfl rfl rfl rfl (hk := ?_) | refine l_n' rfl rfl rfl (hk := ?_) | refine l_spnd rfl rfl rfl (h1 := fun hc => ?_) (h2 := fun hc => ?_) | refine l_spd rfl rfl rfl (h1 := fun hc => ?_) (h2 := fun hc => ?_) | refine l_spn rfl rfl rfl (h1 := fun hc => ?_) (h2 := fun hc => ?_) | refine l_sp rfl rfl rfl (h1 := fun hc => ?_) (h2 := fun hc => ?_)))
              refine rn_mk (r + 1) (by omega) (by omega) ?_
              rw [hsr]
              refine le_eq (by (repeat' first | exact .nil | refine .keep ?_ | refine .any ?_); first | done | fail) rfl rfl
        · obtain rfl : r = n + 1 := by omega
          generalize sweeps nx n (n + 1) = q at *
          repeat' first
            | refine w_seq ?_
            | refine w_block ?_
            | refine rb_n ?_
            | refine rb_ret ?_
            | refine rb_eq ?_
            | refine rb_ne (by rfl) ?_
            | refine w_exit ?_
            | refine rt_exit ?_
            | refine w_region ?_
            | refine l_nil ?_
            | refine rt_n ?_
            | refine w_ret ?_
            | refine rt_ret ?_
            | refine w_skip ?_
            | refine w_cond_t rfl ?_
            | refine w_cond_f rfl ?_
            | refine w_cnd rfl (fun hc => ?_) (fun hc => ?_)
            | refine w_cd rfl (fun hc => ?_) (fun hc => ?_)
            | refine w_cn rfl (fun hc => ?_) (fun hc => ?_)
            | refine w_cond rfl (fun hc => ?_) (fun hc => ?_)
            | (exfalso; omega)
            | (refine l_o ?_; first | refine l_eqnil rfl (by kernel_rfl) (by intro b; simp only [nz]; rfl) (fun b hb => ?_) | refine l_op (hk := ?_) | (refine l_g ?_; first | refine l_y rfl rfl rfl ?_ | refine l_n rfl rfl rfl rfl (hk := ?_) | refine l_n' rfl rfl rfl (hk := ?_) | refine l_spnd rfl rfl rfl (h1 := fun hc => ?_) (h2 := fun hc => ?_) | refine l_spd rfl rfl rfl (h1 := fun hc => ?_) (h2 := fun hc => ?_) | refine l_spn rfl rfl rfl (h1 := fun hc => ?_) (h2 := fun hc => ?_) | refine l_sp rfl rfl rfl (h1 := fun hc => ?_) (h2 := fun hc => ?_)))
          refine en_end (hf := Tryz.results37) (hr := ?_); simp only [ne, nf, nl, nr, lget, reduceIte, Nat.reduceEqDiff]; first | rfl | refine congrArg RVb ?_ | refine congrArg RVi ?_ | skip
end Go.Proofs.YtpcckakchpblcaaGreatDoor
