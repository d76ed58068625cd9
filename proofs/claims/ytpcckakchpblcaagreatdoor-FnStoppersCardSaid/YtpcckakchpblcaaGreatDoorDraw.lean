/- Loops that are drawn from bytes: what the draws give. For all bytes. -/
import Derived.Test.YtpcckakchpblcaaGreatDoorJ9
namespace Go.Proofs.YtpcckakchpblcaaGreatDoor
open Eng
attribute [local irreducible] OpS OpG FC FCr Rel Fl Ef DR Fs
set_option linter.unusedSimpArgs false
set_option maxHeartbeats 0
set_option maxRecDepth 100000

/-- Numbers below n, put to their places. -/
def optsOn (n : Nat) : Nat → Cur × List Int → Cur × List Int
  | 0, q => q
  | k + 1, q => optsOn n k (pickC q.1 n, putI (pickV q.1 n : Nat) q.2)
theorem optsOn_small (n : Nat) (hn : 0 < n) : ∀ (k : Nat) (q : Cur × List Int), (∀ x ∈ q.2, 0 ≤ x ∧ x < n) → (optsOn n k q).1.at_ ≤ q.1.at_ + 2 * k ∧ (optsOn n k q).2.length ≤ q.2.length + k ∧ ∀ x ∈ (optsOn n k q).2, 0 ≤ x ∧ x < n
  | 0, q, h => ⟨by simp [optsOn], by simp [optsOn], by simpa [optsOn] using h⟩
  | k + 1, q, h => by
    have h1 := optsOn_small n hn k (pickC q.1 n, putI (pickV q.1 n : Nat) q.2) (fun x hx => by
      rcases putI_mem hx with rfl | hx
      · have := pickV_lt q.1 n hn; omega
      · exact h x hx)
    have h2 := pickC_at q.1 n
    have h3 := putI_len (pickV q.1 n : Nat) q.2
    simp only [optsOn] at h1 ⊢
    refine ⟨by have := h1.1; omega, by have := h1.2.1; omega, h1.2.2⟩
def six : List Int := [0, 1, 1, 2, 2, 3]
theorem six_at (i : Nat) : ∃ k : Nat, k ≤ 3 ∧ six.getD i 0 = (k : Int) := by
  match i with
  | 0 => exact ⟨0, by omega, rfl⟩
  | 1 => exact ⟨1, by omega, rfl⟩
  | 2 => exact ⟨1, by omega, rfl⟩
  | 3 => exact ⟨2, by omega, rfl⟩
  | 4 => exact ⟨2, by omega, rfl⟩
  | 5 => exact ⟨3, by omega, rfl⟩
  | i + 6 => exact ⟨0, by omega, rfl⟩
def drawOpts (c : Cur) (n : Nat) : Cur × List Int := optsOn n (six.getD (pickV c 6) 0).toNat (pickC c 6, [])
theorem drawOpts_small (c : Cur) (n : Nat) (hn : 0 < n) : (drawOpts c n).1.at_ ≤ c.at_ + 8 ∧ (drawOpts c n).2.length ≤ 3 ∧ ∀ x ∈ (drawOpts c n).2, 0 ≤ x ∧ x < n := by
  obtain ⟨k, hk, e⟩ := six_at (pickV c 6)
  have h1 := optsOn_small n hn k (pickC c 6, []) (by simp)
  have h2 := pickC_at c 6
  unfold drawOpts
  rw [e, Int.toNat_natCast]
  simp only [List.length_nil] at h1
  exact ⟨by have := h1.1; omega, by have := h1.2.1; omega, h1.2.2⟩
theorem drawOptions_ok (c : Cur) (n : Nat) (hc : c.at_ ≤ 1099511627000) (hn0 : 0 < n) (hn : n ≤ 1048576) : FC Tryz.prog 68 [.ptr 1000000000000 0 0, RVn n] [(1000000000000, 3, [RCur c])]
    (fun rv O => rv = OIs (drawOpts c n).2 ∧ O = [(1000000000000, 3, [RCur (drawOpts c n).1])]) := by
  obtain ⟨k0, hk0, e⟩ := six_at (pickV c 6)
  have hA := among_ok c six (by omega) (by decide) (by decide)
  have h2 := pickC_at c 6
  unfold drawOpts
  rw [show six.length = 6 from rfl] at hA
  rw [e] at hA ⊢
  rw [Int.toNat_natCast]
  generalize pickC c 6 = c1 at *
  refine (fc_in Tryz.func68 rfl (by simp only [Tryz.ntmps68, anys, List.length_cons, List.length_nil, Nat.reduceAdd, Nat.reduceSub, List.replicate_succ, List.replicate_zero, List.cons_append, List.nil_append] <;> rfl) ?_)
  repeat' first
    | refine w_seq ?_
    | refine w_block ?_
    | refine rb_n ?_
    | refine rb_ret ?_
    | refine rb_eq ?_
    | refine rb_ne (by rfl) ?_
    | refine w_exit ?_
    | refine rt_exit ?_
    | refine w_region ?_
    | refine l_nil ?_
    | refine rt_n ?_
    | refine w_ret ?_
    | refine rt_ret ?_
    | refine w_skip ?_
    | refine w_cond_t rfl ?_
    | refine w_cond_f rfl ?_
    | refine w_cnd rfl (fun hc => ?_) (fun hc => ?_)
    | refine w_cd rfl (fun hc => ?_) (fun hc => ?_)
    | refine w_cn rfl (fun hc => ?_) (fun hc => ?_)
    | refine w_cond rfl (fun hc => ?_) (fun hc => ?_)
    | (refine l_at_callf ?_; refine l_le _ (le_freeze 9 rfl (by simp only [nz, nf, nl, nb, nr, ng, nq, nu, reduceIte, Nat.reduceEqDiff, Nat.reduceAdd, viewC_lit, List.length_cons, List.length_nil, RV.fzL, RV.fz]; rfl) (by simp only [nz, nf, nl, nb, nr, ng, nq, nu, reduceIte, Nat.reduceEqDiff, Nat.reduceAdd]; rfl)) ?_)
    | (refine l_o ?_; first | refine l_op rfl (by first | (apply k_callf; first | exact ops_callP 1000000000000 [RCur c1] (hfc := hA) | fail) | fail) (hk := ?_) | refine l_op (hk := ?_))
  refine w_le _ (le_ren 7 19 (by decide) (by decide) (by simp [nm]) (by simp [nm, onames]) (by simp only [ng, reduceIte, Nat.reduceEqDiff]; rfl) (by simp only [ng, reduceIte, Nat.reduceEqDiff]; rfl)) ?_
  refine w_loopm (ι := Nat × Cur × List Int) (fun k => [(6, RVn k.1), (5, .ref 19 0 k.2.2.length), (7, .any)]) (fun k => [(19, 1, k.2.2.map RVi), (1000000000000, 3, [RCur k.2.1])]) (fun k => k.2.1.at_ + 2 * k.1 ≤ c.at_ + 8 ∧ k.2.2.length + k.1 ≤ 3 ∧ optsOn n k.1 k.2 = optsOn n k0 (c1, [])) (fun k => k.1) (k0, c1, []) (h0 := ?_) (hs := ?_) (round := ?_)
  · exact ⟨by show c1.at_ + 2 * k0 ≤ _; omega, by simpa using hk0, rfl⟩
  · refine le_eq (by (repeat' first | exact .nil | refine .keep ?_ | refine .any ?_); first | done | fail) rfl rfl
  · intro ⟨k, d, l⟩ ⟨h3, h4, h5⟩
    dsimp only at h3 h4 h5 ⊢
    rw [← h5]
    cases k with
    | zero =>
      repeat' first
        | refine w_seq ?_
        | refine w_block ?_
        | refine rb_n ?_
        | refine rb_ret ?_
        | refine rb_eq ?_
        | refine rb_ne (by rfl) ?_
        | refine w_exit ?_
        | refine rt_exit ?_
        | refine w_region ?_
        | refine l_nil ?_
        | refine rt_n ?_
        | refine w_ret ?_
        | refine rt_ret ?_
        | refine w_skip ?_
        | refine w_cond_t rfl ?_
        | refine w_cond_f rfl ?_
        | refine w_cnd rfl (fun hc => ?_) (fun hc => ?_)
        | refine w_cd rfl (fun hc => ?_) (fun hc => ?_)
        | refine w_cn rfl (fun hc => ?_) (fun hc => ?_)
        | refine w_cond rfl (fun hc => ?_) (fun hc => ?_)
        | (exfalso; omega)
        | (refine l_o ?_; first | refine l_op (hk := ?_))
      refine en_endm [] (hf := Tryz.results68) (hO := ?_) (hr := ?_)
      · rfl
      · rfl
    | succ k =>
      have h6 := pickC_at d n
      have h7 := putI_len (pickV d n : Nat) l
      repeat' first
        | refine w_seq ?_
        | refine w_block ?_
        | refine rb_n ?_
        | refine rb_ret ?_
        | refine rb_eq ?_
        | refine rb_ne (by rfl) ?_
        | refine w_exit ?_
        | refine rt_exit ?_
        | refine w_region ?_
        | refine l_nil ?_
        | refine rt_n ?_
        | refine w_ret ?_
        | refine rt_ret ?_
        | refine w_skip ?_
        | refine w_cond_t rfl ?_
        | refine w_cond_f rfl ?_
        | refine w_cnd rfl (fun hc => ?_) (fun hc => ?_)
        | refine w_cd rfl (fun hc => ?_) (fun hc => ?_)
        | refine w_cn rfl (fun hc => ?_) (fun hc => ?_)
        | refine w_cond rfl (fun hc => ?_) (fun hc => ?_)
        | (exfalso; omega)
        | (refine l_o ?_; first | refine l_op rfl (by first | (apply k_sub; first | exact ops_subn (b := 1) rfl rfl (by omega) (by omega) | fail) | (apply k_callf; first | exact ops_callP (d := 18) 1000000000000 [RCur (pickC d n)] (hfc := pick_ok d n (by omega) (by omega)) | exact ops_callG (d := 19) [19] [19] ([]) (hfc := l1Put_ok l (pickV d n : Nat) (by omega)) | fail) | fail) (hk := ?_) | refine l_op (hk := ?_))
      · refine rn_mk (k, pickC d n, putI (pickV d n : Nat) l) ?_ (by first | omega | (dsimp only; omega)) (le_eq (by (repeat' first | exact .nil | refine .keep ?_ | refine .any ?_); first | done | fail) rfl rfl)
        exact ⟨by dsimp only; omega, by dsimp only; omega, rfl⟩

/-- Places with what may be gone to from them. -/
def lpOn (n : Nat) : Nat → Cur × List (List Int) × List (List Int) → Cur × List (List Int) × List (List Int)
  | 0, q => q
  | k + 1, q => lpOn n k ((drawOpts (drawOpts q.1 n).1 n).1, q.2.1 ++ [(drawOpts q.1 n).2], q.2.2 ++ [(drawOpts (drawOpts q.1 n).1 n).2])
def drawLp (c : Cur) (most : Nat) : Cur × List (List Int) × List (List Int) := lpOn (1 + pickV c most) (1 + pickV c most) (pickC c most, [], [])
theorem drawLoop_ok (c : Cur) (most : Nat) (hc : c.at_ ≤ 1099511620000) (h0 : 0 < most) (hm : most ≤ 200) : FC Tryz.prog 42 [.ptr 1000000000000 0 0, RVn most] [(1000000000000, 3, [RCur c])]
    (fun rv O => rv = .agg [OIss (drawLp c most).2.1, OIss (drawLp c most).2.2] ∧ O = [(1000000000000, 3, [RCur (drawLp c most).1])]) := by
  have hp := pickV_lt c most h0
  have hp2 := pickC_at c most
  have hP := pick_ok c most (by omega) (by omega)
  unfold drawLp
  generalize pickV c most = p at *
  generalize pickC c most = c1 at *
  refine (fc_in Tryz.func42 rfl (by simp only [Tryz.ntmps42, anys, List.length_cons, List.length_nil, Nat.reduceAdd, Nat.reduceSub, List.replicate_succ, List.replicate_zero, List.cons_append, List.nil_append] <;> rfl) ?_)
  repeat' first
    | refine w_seq ?_
    | refine w_block ?_
    | refine rb_n ?_
    | refine rb_ret ?_
    | refine rb_eq ?_
    | refine rb_ne (by rfl) ?_
    | refine w_exit ?_
    | refine rt_exit ?_
    | refine w_region ?_
    | refine l_nil ?_
    | refine rt_n ?_
    | refine w_ret ?_
    | refine rt_ret ?_
    | refine w_skip ?_
    | refine w_cond_t rfl ?_
    | refine w_cond_f rfl ?_
    | refine w_cnd rfl (fun hc => ?_) (fun hc => ?_)
    | refine w_cd rfl (fun hc => ?_) (fun hc => ?_)
    | refine w_cn rfl (fun hc => ?_) (fun hc => ?_)
    | refine w_cond rfl (fun hc => ?_) (fun hc => ?_)
    | (refine l_o ?_; first | refine l_op rfl (by first | (apply k_add; first | exact ops_addn (a := 1) rfl rfl (by omega) | fail) | (apply k_callf; first | exact ops_callP 1000000000000 [RCur c1] (hfc := hP) | fail) | fail) (hk := ?_) | refine l_op (hk := ?_))
    | refine d_nil ?_
    | (refine d_o ?_; first | refine d_fl rfl (by first | exact .pl (by first | (apply q_add; first | exact fs_addn (a := 1) rfl rfl (by omega) | fail) | fail) | fail) (hk := ?_) | refine d_fl (hk := ?_) | refine d_ef rfl (by first | exact .callP 1000000000000 [RCur c1] (hfc := hP) | fail) (hk := ?_) | refine d_ef (hk := ?_))
    | (refine w_o ?_; first | refine w_draw (id := 6) (fun _ => true) (fun k => [4, 5, 6, 8].contains k) [[], [], [], []] 64 (by kernel_rfl) rfl (by kernel_rfl) (by simp [nm, nset, -List.map_take, -List.map_drop]) ?_ | refine w_draw (id := 7) (fun _ => true) (fun k => [4, 5, 6, 8].contains k) [[], [], [], []] 64 (by kernel_rfl) rfl (by kernel_rfl) (by simp [nm, nset, -List.map_take, -List.map_drop]) ?_)
  refine w_le _ (le_trans (le_nw 6 rfl (.agg (.now (k := 1) (by decide) (.now (k := 1) (by decide) .nil)) .nil) (by simp only [nz, nf, nl, nb, nr, ng, nq, nu, reduceIte, Nat.reduceEqDiff, Nat.reduceAdd]; rfl)) (le_trans (le_open 6 0 0 24 rfl rfl rfl (by simp [nm]) (by simp only [nz, nf, nl, nb, nr, ng, nq, nu, reduceIte, Nat.reduceEqDiff, Nat.reduceAdd]; rfl)) (le_open 6 0 1 32 rfl rfl rfl (by simp [nm]) (by simp only [nz, nf, nl, nb, nr, ng, nq, nu, reduceIte, Nat.reduceEqDiff, Nat.reduceAdd]; rfl)))) ?_
  refine w_loopm (ι := Nat × Nat × Cur × List (List Int) × List (List Int)) (fun q => [(7, RVn q.1)]) (fun q => [(32, 1, q.2.2.2.2.map OIs), (24, 1, q.2.2.2.1.map OIs), (6, 2, [.agg [.ref 24 0 q.2.2.2.1.length, .ref 32 0 q.2.2.2.2.length]]), (4, 2, [.agg [.v (.slice none 0 0), .v (.slice none 0 0)]]), (1000000000000, 3, [RCur q.2.2.1])]) (fun q => q.1 + q.2.1 = 1 + p ∧ q.2.2.1.at_ ≤ c1.at_ + 16 * q.1 ∧ q.2.2.2.1.length = q.1 ∧ q.2.2.2.2.length = q.1 ∧ lpOn (1 + p) q.2.1 q.2.2 = lpOn (1 + p) (1 + p) (c1, [], [])) (fun q => q.2.1) (0, 1 + p, c1, [], []) (h0 := ?_) (hs := ?_) (round := ?_)
  · exact ⟨by dsimp only; omega, by dsimp only; omega, rfl, rfl, rfl⟩
  · refine le_eq (by (repeat' first | exact .nil | refine .keep ?_ | refine .any ?_); first | done | fail) rfl rfl
  · intro ⟨i, k, d, L, R⟩ ⟨h1, h2, h3, h4, h5⟩
    dsimp only at h1 h2 h3 h4 h5 ⊢
    rw [← h5]
    cases k with
    | zero =>
      repeat' first
        | refine w_seq ?_
        | refine w_block ?_
        | refine rb_n ?_
        | refine rb_ret ?_
        | refine rb_eq ?_
        | refine rb_ne (by rfl) ?_
        | refine w_exit ?_
        | refine rt_exit ?_
        | refine w_region ?_
        | refine l_nil ?_
        | refine rt_n ?_
        | refine w_ret ?_
        | refine rt_ret ?_
        | refine w_skip ?_
        | refine w_cond_t rfl ?_
        | refine w_cond_f rfl ?_
        | refine w_cnd rfl (fun hc => ?_) (fun hc => ?_)
        | refine w_cd rfl (fun hc => ?_) (fun hc => ?_)
        | refine w_cn rfl (fun hc => ?_) (fun hc => ?_)
        | refine w_cond rfl (fun hc => ?_) (fun hc => ?_)
        | (exfalso; omega)
        | (refine l_o ?_; first | refine l_op (hk := ?_))
        | refine d_nil ?_
        | (refine d_o ?_; first | refine d_fl (hk := ?_) | refine d_ef (hk := ?_))
        | (refine w_o ?_; first | refine w_draw (id := 6) (fun _ => true) (fun k => [4, 5, 6, 8].contains k) [[], [], [], []] 64 (by kernel_rfl) rfl (by kernel_rfl) (by simp [nm, nset, -List.map_take, -List.map_drop]) ?_ | refine w_draw (id := 7) (fun _ => true) (fun k => [4, 5, 6, 8].contains k) [[], [], [], []] 64 (by kernel_rfl) rfl (by kernel_rfl) (by simp [nm, nset, -List.map_take, -List.map_drop]) ?_)
      refine en_le _ (le_drop 6 (by simp only [nz, nf, nl, nb, nr, ng, nq, nu, reduceIte, Nat.reduceEqDiff, Nat.reduceAdd]; rfl) (by simp only [nz, nf, nl, nb, nr, ng, nq, nu, reduceIte, Nat.reduceEqDiff, Nat.reduceAdd]; rfl)) ?_
      refine en_endm ([(4, 2, [.agg [.ref 24 0 L.length, .ref 32 0 R.length]])]) (hf := Tryz.results42) (hO := ?_) (hr := ?_)
      · rfl
      · rfl
    | succ k =>
      obtain ⟨a1, a2, a3⟩ := drawOpts_small d (1 + p) (by omega)
      obtain ⟨b1, b2, b3⟩ := drawOpts_small (drawOpts d (1 + p)).1 (1 + p) (by omega)
      have hA := drawOptions_ok d (1 + p) (by omega) (by omega) (by omega)
      have hB := drawOptions_ok (drawOpts d (1 + p)).1 (1 + p) (by omega) (by omega) (by omega)
      have h6 : lpOn (1 + p) (k + 1) (d, L, R) = lpOn (1 + p) k ((drawOpts (drawOpts d (1 + p)).1 (1 + p)).1, L ++ [(drawOpts d (1 + p)).2], R ++ [(drawOpts (drawOpts d (1 + p)).1 (1 + p)).2]) := rfl
      rw [h6]
      rw [h6] at h5
      generalize drawOpts d (1 + p) = A at *
      generalize drawOpts A.1 (1 + p) = B at *
      repeat' first
        | refine w_seq ?_
        | refine w_block ?_
        | refine rb_n ?_
        | refine rb_ret ?_
        | refine rb_eq ?_
        | refine rb_ne (by rfl) ?_
        | refine w_exit ?_
        | refine rt_exit ?_
        | refine w_region ?_
        | refine l_nil ?_
        | refine rt_n ?_
        | refine w_ret ?_
        | refine rt_ret ?_
        | refine w_skip ?_
        | refine w_cond_t rfl ?_
        | refine w_cond_f rfl ?_
        | refine w_cnd rfl (fun hc => ?_) (fun hc => ?_)
        | refine w_cd rfl (fun hc => ?_) (fun hc => ?_)
        | refine w_cn rfl (fun hc => ?_) (fun hc => ?_)
        | refine w_cond rfl (fun hc => ?_) (fun hc => ?_)
        | (exfalso; omega)
        | (refine l_o ?_; first | refine l_op rfl (by first | (apply k_callf; first | exact ops_callP (d := 22) 1000000000000 [RCur A.1] (hfc := hA) | exact ops_callP (d := 30) 1000000000000 [RCur B.1] (hfc := hB) | fail) | fail) (hk := ?_) | refine l_op (hk := ?_))
        | refine e_nil ?_
        | (refine e_o ?_; first | refine e_fl (hk := ?_) | refine e_ef rfl (by first | exact .callP (d := 22) 1000000000000 [RCur A.1] (hfc := hA) | exact .callP (d := 30) 1000000000000 [RCur B.1] (hfc := hB) | fail) (hk := ?_) | refine e_ef (hk := ?_))
        | (refine w_o ?_; first | refine w_drawS (id := 6) (rdP [(0, 6), (1, 6), (7, 6)]) (fun k => [4, 5, 6, 8].contains k) [[22],[23],[124],[]] (by kernel_rfl) rfl (by kernel_rfl) (by simp [nm, nset, -List.map_take, -List.map_drop]) ?_ | refine w_drawS (id := 7) (rdP [(0, 6), (1, 6), (7, 6)]) (fun k => [4, 5, 6, 8].contains k) [[30],[31],[132],[]] (by kernel_rfl) rfl (by kernel_rfl) (by simp [nm, nset, -List.map_take, -List.map_drop]) ?_)
      refine rn_mk (i + 1, k, B.1, L ++ [A.2], R ++ [B.2]) ⟨by dsimp only; omega, by dsimp only; omega, by simp; omega, by simp; omega, by first | exact h5 | rfl⟩ (by dsimp only; omega) ?_
      refine le_trans (le_kill 24 (by simp only [nz, nf, nl, nb, nr, ng, nq, nu, reduceIte, Nat.reduceEqDiff, Nat.reduceAdd]; rfl)) (le_trans (le_kill 32 (by simp only [nz, nf, nl, nb, nr, ng, nq, nu, reduceIte, Nat.reduceEqDiff, Nat.reduceAdd]; rfl)) (le_trans (le_ren 124 24 (by decide) (by decide) (by simp [nm, ng, renL_id, -List.map_append, -List.map_take, -List.map_drop]) (by simp [nm, ng, renL_id, onames, -List.map_append, -List.map_take, -List.map_drop]) (by simp only [ng, nm, nu, renL_id, reduceIte, Nat.reduceEqDiff]; rfl) (by simp only [ng, nm, nu, renL_id, reduceIte, Nat.reduceEqDiff]; rfl)) (le_trans (le_ren 132 32 (by decide) (by decide) (by simp [nm, ng, renL_id, -List.map_append, -List.map_take, -List.map_drop]) (by simp [nm, ng, renL_id, onames, -List.map_append, -List.map_take, -List.map_drop]) (by simp only [ng, nm, nu, renL_id, reduceIte, Nat.reduceEqDiff]; rfl) (by simp only [ng, nm, nu, renL_id, reduceIte, Nat.reduceEqDiff]; rfl)) ?_)))
      refine le_eq (by (repeat' first | exact .nil | refine .keep ?_ | refine .any ?_); first | done | fail) rfl rfl

theorem lpOn_small (n : Nat) (hn : 0 < n) : ∀ (k : Nat) (q : Cur × List (List Int) × List (List Int)), q.2.1.length = q.2.2.length → (lpOn n k q).1.at_ ≤ q.1.at_ + 16 * k ∧ (lpOn n k q).2.1.length = q.2.1.length + k ∧ (lpOn n k q).2.2.length = (lpOn n k q).2.1.length
  | 0, q, h => ⟨by simp [lpOn], by simp [lpOn], by simp [lpOn, h]⟩
  | k + 1, q, h => by
    obtain ⟨a1, -, -⟩ := drawOpts_small q.1 n hn
    obtain ⟨b1, -, -⟩ := drawOpts_small (drawOpts q.1 n).1 n hn
    have := lpOn_small n hn k ((drawOpts (drawOpts q.1 n).1 n).1, q.2.1 ++ [(drawOpts q.1 n).2], q.2.2 ++ [(drawOpts (drawOpts q.1 n).1 n).2]) (by simp [h])
    simp only [lpOn]
    simp only [List.length_append, List.length_singleton] at this
    omega
theorem drawLp_small (c : Cur) (most : Nat) (h0 : 0 < most) : (drawLp c most).1.at_ ≤ c.at_ + 2 + 16 * most ∧ 0 < (drawLp c most).2.1.length ∧ (drawLp c most).2.1.length ≤ most ∧ (drawLp c most).2.2.length = (drawLp c most).2.1.length := by
  have h1 := pickV_lt c most h0
  have h2 := pickC_at c most
  have h3 := lpOn_small (1 + pickV c most) (by omega) (1 + pickV c most) (pickC c most, [], []) rfl
  unfold drawLp
  simp only [List.length_nil] at h3
  omega
theorem lpOn_rows (n : Nat) (hn : 0 < n) : ∀ (k : Nat) (q : Cur × List (List Int) × List (List Int)), (∀ r ∈ q.2.1, r.length ≤ 3) → ∀ r ∈ (lpOn n k q).2.1, r.length ≤ 3
  | 0, q, h => h
  | k + 1, q, h => by
    obtain ⟨-, a2, -⟩ := drawOpts_small q.1 n hn
    refine lpOn_rows n hn k _ fun r hr => ?_
    rcases List.mem_append.1 hr with hr | hr
    · exact h r hr
    · rw [List.mem_singleton.1 hr]; exact a2
theorem drawLp_rows (c : Cur) (most : Nat) : ∀ r ∈ (drawLp c most).2.1, r.length ≤ 3 := lpOn_rows _ (by omega) _ _ (by simp)
/-- A loop that is too great, or nearly. -/
def fillLp : Nat → Cur × List (List Int) × List (List Int) → Cur × List (List Int) × List (List Int)
  | 0, q => q
  | f + 1, q => if q.2.1.length < 36 + pickV q.1 2 then fillLp f (pickC q.1 2, q.2.1 ++ [[0]], q.2.2 ++ [[]]) else (pickC q.1 2, q.2)
def three (n : Nat) : List Int := [-1, (n : Int), 0]
def loose (c : Cur) (most : Nat) : Cur × List (List Int) × List (List Int) :=
  if pickV (drawLp c most).1 12 = 0 then
    if pickV (pickC (pickC (drawLp c most).1 12) (drawLp c most).2.1.length) 4 = 0 then
      (pickC (pickC (pickC (pickC (drawLp c most).1 12) (drawLp c most).2.1.length) 4) 3, (drawLp c most).2.1.set (pickV (pickC (drawLp c most).1 12) (drawLp c most).2.1.length) ((drawLp c most).2.1.getD (pickV (pickC (drawLp c most).1 12) (drawLp c most).2.1.length) [] ++ [(three (drawLp c most).2.1.length).getD (pickV (pickC (pickC (pickC (drawLp c most).1 12) (drawLp c most).2.1.length) 4) 3) 0]), (drawLp c most).2.2)
    else if pickV (pickC (pickC (drawLp c most).1 12) (drawLp c most).2.1.length) 4 = 1 then
      (pickC (pickC (pickC (drawLp c most).1 12) (drawLp c most).2.1.length) 4, (drawLp c most).2.1, (drawLp c most).2.2 ++ [[]])
    else if pickV (pickC (pickC (drawLp c most).1 12) (drawLp c most).2.1.length) 4 = 2 then
      (pickC (pickC (pickC (drawLp c most).1 12) (drawLp c most).2.1.length) 4, [], [])
    else fillLp 38 (pickC (pickC (pickC (drawLp c most).1 12) (drawLp c most).2.1.length) 4, (drawLp c most).2)
  else (pickC (drawLp c most).1 12, (drawLp c most).2)
theorem loose_ok (c : Cur) (most : Nat) (hc : c.at_ ≤ 1099511600000) (h0 : 0 < most) (hm : most ≤ 36) : FC Tryz.prog 23 [.ptr 1000000000000 0 0, RVn most] [(1000000000000, 3, [RCur c])]
    (fun rv O => rv = .agg [OIss (loose c most).2.1, OIss (loose c most).2.2] ∧ O = [(1000000000000, 3, [RCur (loose c most).1])]) := by
  obtain ⟨s1, s2, s3, s4⟩ := drawLp_small c most h0
  have s5 := drawLp_rows c most
  have hD := drawLoop_ok c most (by omega) h0 (by omega)
  unfold loose
  generalize drawLp c most = q at *
  obtain ⟨c1, L, R⟩ := q
  dsimp only at *
  have k1 := pickC_at c1 12
  have hO := one_ok c1 12 (by omega) (by omega)
  have hI := pick_ok (pickC c1 12) L.length (by omega) (by omega)
  have k2 := pickC_at (pickC c1 12) L.length
  have i1 := pickV_lt (pickC c1 12) L.length s2
  have hT := pick_ok (pickC (pickC c1 12) L.length) 4 (by omega) (by omega)
  have k3 := pickC_at (pickC (pickC c1 12) L.length) 4
  have i2 := pickV_lt (pickC (pickC c1 12) L.length) 4 (by omega)
  have hA := among_ok (pickC (pickC (pickC c1 12) L.length) 4) (three L.length) (by omega) (by simp [three]) (by simp [three])
  rw [show (three L.length).length = 3 from rfl] at hA
  generalize pickV (pickC (pickC c1 12) L.length) 4 = u at *
  generalize pickV (pickC c1 12) L.length = i at *
  generalize pickC (pickC (pickC c1 12) L.length) 4 = c4 at *
  generalize pickC (pickC c1 12) L.length = c3 at *
  generalize pickC c1 12 = c2 at *
  generalize pickV c1 12 = v at *
  generalize (three L.length).getD (pickV c4 3) 0 = x at *
  have hL : L[i]? = some L[i] := List.getElem?_eq_getElem i1
  have hLi := s5 _ (List.getElem_mem i1)
  have hF : (L.map OIs)[i]? = some (OIs L[i]) := by rw [List.getElem?_map, hL]; rfl
  refine (fc_in Tryz.func23 rfl (by simp only [Tryz.ntmps23, anys, List.length_cons, List.length_nil, Nat.reduceAdd, Nat.reduceSub, List.replicate_succ, List.replicate_zero, List.cons_append, List.nil_append] <;> rfl) ?_)
  repeat' first
    | refine w_seq ?_
    | refine w_block ?_
    | refine rb_n ?_
    | refine rb_ret ?_
    | refine rb_eq ?_
    | refine rb_ne (by rfl) ?_
    | refine w_exit ?_
    | refine rt_exit ?_
    | refine w_region ?_
    | refine l_nil ?_
    | refine rt_n ?_
    | refine w_ret ?_
    | refine rt_ret ?_
    | refine w_skip ?_
    | refine w_cond_t rfl ?_
    | refine w_cond_f rfl ?_
    | refine w_cnd rfl (fun hc => ?_) (fun hc => ?_)
    | refine w_cd rfl (fun hc => ?_) (fun hc => ?_)
    | refine w_cn rfl (fun hc => ?_) (fun hc => ?_)
    | refine w_cond rfl (fun hc => ?_) (fun hc => ?_)
    | (refine w_at (i := 6) ?_; refine w_le _ (le_open 1009 i 0 77 rfl hF rfl (by simp [nm]) (by simp only [oset, reduceIte, Nat.reduceEqDiff, RV.setCell, nz]; rfl)) ?_)
    | (refine l_at_append (d := some 44) ?_; refine l_le _ (le_fg 5 rfl (.agg (.keep (.ref .nil)) .nil) (by simp only [nz, nf, nl, nb, nr, ng, nq, nu, reduceIte, Nat.reduceEqDiff, Nat.reduceAdd]; rfl)) ?_)
    | (refine l_at_append (d := some 69) ?_; refine l_le _ (le_fg 5 rfl (.agg (.keep (.ref .nil)) .nil) (by simp only [nz, nf, nl, nb, nr, ng, nq, nu, reduceIte, Nat.reduceEqDiff, Nat.reduceAdd]; rfl)) ?_)
    | (refine l_at_append (d := some 63) ?_; refine l_le _ (le_fg 5 rfl (.agg (.ref (.keep .nil)) .nil) (by simp only [nz, nf, nl, nb, nr, ng, nq, nu, reduceIte, Nat.reduceEqDiff, Nat.reduceAdd]; rfl)) ?_)
    | (refine l_o ?_; first | refine l_eqnil rfl (by kernel_rfl) (by intro b; simp only [nz]; rfl) (fun b hb => ?_) | refine l_op rfl (by first | (apply k_load; first | exact ops_load_ptr rfl rfl (List.getElem?_set_self (by simp; omega)) rfl rfl (by decide +kernel) | fail) | (apply k_indexAddr; first | exact ops_idx_ref rfl rfl (by omega) rfl (by intro h; have := congrArg List.length h; simp only [List.length_set, List.length_map, List.length_nil] at this; omega) (by kernel_rfl) (by kernel_rfl) | fail) | (apply k_callf; first | exact ops_callP (d := 9) 1000000000000 [RCur c1] (hfc := hD) | exact ops_callP (d := 11) 1000000000000 [RCur c2] (hfc := hO) | exact ops_callP (d := 16) 1000000000000 [RCur c3] (hfc := hI) | exact ops_callP (d := 18) 1000000000000 [RCur c4] (hfc := hT) | exact ops_callP (d := 34) 1000000000000 [RCur (pickC c4 3)] (hfc := hA) | fail) | fail) (hk := ?_) | refine l_op (hk := ?_))
    | refine e_nil ?_
    | (refine e_o ?_; first | refine e_fl rfl (by first | exact .pl (by first | (apply q_load; first | exact fs_load_ptr rfl rfl rfl (List.getElem?_set_self (by simp; omega)) rfl rfl (by decide +kernel) | fail) | (apply q_indexAddr; first | exact fs_idx_ref rfl rfl (by omega) rfl rfl (by intro h; have := congrArg List.length h; simp only [List.length_set, List.length_map, List.length_nil] at this; omega) (by kernel_rfl) (by kernel_rfl) | fail) | fail) | fail) (hk := ?_) | refine e_fl (hk := ?_) | refine e_ef rfl (by first | exact .store rfl rfl rfl (List.getElem?_set_self (by simp; omega)) (by simp [RV.cellsL]) rfl (by kernel_rfl) | exact .callP (d := 9) 1000000000000 [RCur c1] (hfc := hD) | exact .callP (d := 11) 1000000000000 [RCur c2] (hfc := hO) | exact .callP (d := 16) 1000000000000 [RCur c3] (hfc := hI) | exact .callP (d := 18) 1000000000000 [RCur c4] (hfc := hT) | exact .callP (d := 34) 1000000000000 [RCur (pickC c4 3)] (hfc := hA) | fail) (hk := ?_) | refine e_ef (hk := ?_))
    | (refine w_o ?_; first | refine w_drawS (id := 6) (rdP [(0, 5), (1, 5), (3, 5), (4, 5), (9, 5), (10, 5), (6, 1009), (7, 1009), (16, 1009)]) (fun k => [13, 15, 17].contains k) [[],[177],[]] (by kernel_rfl) rfl (by kernel_rfl) (by simp [nm, nset, -List.map_take, -List.map_drop]) ?_ | refine w_drawS (id := 13) (rdP [(0, 5), (1, 5)]) (fun k => [4].contains k) [[]] (by kernel_rfl) rfl (by kernel_rfl) (by simp [nm, nset, -List.map_take, -List.map_drop]) ?_)
  · -- a number more
    have hv : v = 0 := by omega
    have hu : u = 0 := by omega
    subst hv; subst hu
    have hset : (L.map OIs).set i (.ow 1 (List.map RVi (L[i] ++ [x]))) = (L.set i (L[i] ++ [x])).map OIs := by rw [List.map_set]
    rw [gdI i1]
    refine en_le _ (le_trans (le_drop 5 (by simp only [nz, nf, nl, nb, nr, ng, nq, nu, reduceIte, Nat.reduceEqDiff, Nat.reduceAdd]; rfl) (by simp only [nz, nf, nl, nb, nr, ng, nq, nu, reduceIte, Nat.reduceEqDiff, Nat.reduceAdd]; rfl)) (le_seal' 1009 i 0 177 rfl (List.getElem?_set_self (by simp; omega)) rfl rfl (by simp) (by simp [nm, -List.map_append]) (by decide) (by simp only [oset, oerase, reduceIte, Nat.reduceEqDiff, RV.setCell, List.set_set, hset]; rfl))) ?_
    refine en_endm ([(4, 2, [.agg [.ref 1009 0 L.length, .ref 2009 0 R.length]])]) (hf := Tryz.results23) (hO := ?_) (hr := ?_)
    · rfl
    · rfl
  · have hv : v = 0 := by omega
    have hu : u = 1 := by omega
    subst hv; subst hu
    refine en_le _ (le_drop 5 (by simp only [nz, nf, nl, nb, nr, ng, nq, nu, reduceIte, Nat.reduceEqDiff, Nat.reduceAdd]; rfl) (by simp only [nz, nf, nl, nb, nr, ng, nq, nu, reduceIte, Nat.reduceEqDiff, Nat.reduceAdd]; rfl)) ?_
    refine en_endm ([(4, 2, [.agg [.ref 1009 0 L.length, .ref 2009 0 (List.map OIs R ++ [RV.ow 1 []]).length]])]) (hf := Tryz.results23) (hO := ?_) (hr := ?_)
    · rfl
    · simp only [ne, nf, nl, nr, lget, reduceIte, Nat.reduceEqDiff]
      simp
  · have hv : v = 0 := by omega
    have hu : u = 2 := by omega
    subst hv; subst hu
    refine en_le _ (le_trans (le_drop 5 (by simp only [nz, nf, nl, nb, nr, ng, nq, nu, reduceIte, Nat.reduceEqDiff, Nat.reduceAdd]; rfl) (by simp only [nz, nf, nl, nb, nr, ng, nq, nu, reduceIte, Nat.reduceEqDiff, Nat.reduceAdd]; rfl)) (le_trans (le_drop 1009 (by simp only [nz, nf, nl, nb, nr, ng, nq, nu, reduceIte, Nat.reduceEqDiff, Nat.reduceAdd]; rfl) (by simp only [nz, nf, nl, nb, nr, ng, nq, nu, reduceIte, Nat.reduceEqDiff, Nat.reduceAdd]; rfl)) (le_trans (le_drop 2009 (by simp only [nz, nf, nl, nb, nr, ng, nq, nu, reduceIte, Nat.reduceEqDiff, Nat.reduceAdd]; rfl) (by simp only [nz, nf, nl, nb, nr, ng, nq, nu, reduceIte, Nat.reduceEqDiff, Nat.reduceAdd]; rfl)) (le_trans (le_nw 4 rfl (.agg (.now (k := 1) (by decide) (.now (k := 1) (by decide) .nil)) .nil) (by simp only [nz, nf, nl, nb, nr, ng, nq, nu, reduceIte, Nat.reduceEqDiff, Nat.reduceAdd]; rfl)) (le_trans (le_open 4 0 0 301 rfl rfl rfl (by simp [nm]) (by simp only [nz, nf, nl, nb, nr, ng, nq, nu, reduceIte, Nat.reduceEqDiff, Nat.reduceAdd]; rfl)) (le_open 4 0 1 302 rfl rfl rfl (by simp [nm]) (by simp only [nz, nf, nl, nb, nr, ng, nq, nu, reduceIte, Nat.reduceEqDiff, Nat.reduceAdd]; rfl))))))) ?_
    refine en_endm ([(4, 2, [.agg [.ref 301 0 0, .ref 302 0 0]])]) (hf := Tryz.results23) (hO := ?_) (hr := ?_)
    · rfl
    · rfl
  · have hv : v = 0 := by omega
    have hu : u = 3 := by omega
    subst hv; subst hu
    refine w_loopm (ι := Nat × Cur × List (List Int) × List (List Int)) (fun q => [(9, .any), (14, .any)]) (fun q => [(5, 2, [.agg [.ref 1009 0 q.2.2.1.length, .ref 2009 0 q.2.2.2.length]]), (1009, 1, q.2.2.1.map OIs), (2009, 1, q.2.2.2.map OIs), (4, 2, [.agg [.v (.slice none 0 0), .v (.slice none 0 0)]]), (1000000000000, 3, [RCur q.2.1])]) (fun q => q.2.1.at_ + 2 * q.1 ≤ c4.at_ + 76 ∧ q.2.2.1.length = q.2.2.2.length ∧ q.2.2.1.length ≤ 37 ∧ 38 ≤ q.2.2.1.length + q.1 ∧ 0 < q.2.2.1.length ∧ fillLp q.1 q.2 = fillLp 38 (c4, L, R)) (fun q => q.1) (38, c4, L, R) (h0 := ?_) (hs := ?_) (round := ?_)
    · exact ⟨by dsimp only; omega, by dsimp only; omega, by dsimp only; omega, by dsimp only; omega, by dsimp only; omega, rfl⟩
    · refine le_eq (by (repeat' first | exact .nil | refine .keep ?_ | refine .any ?_); first | done | fail) rfl rfl
    · intro ⟨f, d, L, R⟩ ⟨g1, g2, g3, g4, g5, g6⟩
      dsimp only at g1 g2 g3 g4 g5 g6 ⊢
      cases f with
      | zero => omega
      | succ f =>
        have g7 := pickC_at d 2
        have g8 := pickV_lt d 2 (by omega)
        have hP := pick_ok d 2 (by omega) (by omega)
        have g9 : fillLp (f + 1) (d, L, R) = if L.length < 36 + pickV d 2 then fillLp f (pickC d 2, L ++ [[0]], R ++ [[]]) else (pickC d 2, L, R) := rfl
        rw [g9] at g6
        generalize pickC d 2 = d2 at *
        generalize pickV d 2 = b at *
        repeat' first
          | refine w_seq ?_
          | refine w_block ?_
          | refine rb_n ?_
          | refine rb_ret ?_
          | refine rb_eq ?_
          | refine rb_ne (by rfl) ?_
          | refine w_exit ?_
          | refine rt_exit ?_
          | refine w_region ?_
          | refine l_nil ?_
          | refine rt_n ?_
          | refine w_ret ?_
          | refine rt_ret ?_
          | refine w_skip ?_
          | refine w_cond_t rfl ?_
          | refine w_cond_f rfl ?_
          | refine w_cnd rfl (fun hc => ?_) (fun hc => ?_)
          | refine w_cd rfl (fun hc => ?_) (fun hc => ?_)
          | refine w_cn rfl (fun hc => ?_) (fun hc => ?_)
          | refine w_cond rfl (fun hc => ?_) (fun hc => ?_)
          | (refine l_at_append (d := some 69) ?_; refine l_le _ (le_fg 5 rfl (.agg (.keep (.ref .nil)) .nil) (by simp only [nz, nf, nl, nb, nr, ng, nq, nu, reduceIte, Nat.reduceEqDiff, Nat.reduceAdd]; rfl)) ?_)
          | (refine l_at_append (d := some 63) ?_; refine l_le _ (le_fg 5 rfl (.agg (.ref (.keep .nil)) .nil) (by simp only [nz, nf, nl, nb, nr, ng, nq, nu, reduceIte, Nat.reduceEqDiff, Nat.reduceAdd]; rfl)) ?_)
          | (refine l_o ?_; first | refine l_eqnil rfl (by kernel_rfl) (by intro b; simp only [nz]; rfl) (fun b hb => ?_) | refine l_op rfl (by first | (apply k_add; first | exact ops_addn (a := 36) rfl rfl (by omega) | fail) | (apply k_callf; first | exact ops_callP (d := 56) 1000000000000 [RCur d2] (hfc := hP) | fail) | fail) (hk := ?_) | refine l_op (hk := ?_))
          | refine e_nil ?_
          | (refine e_o ?_; first | refine e_fl rfl (by first | exact .pl (by first | (apply q_add; first | exact fs_addn (a := 36) rfl rfl (by omega) | fail) | fail) | fail) (hk := ?_) | refine e_fl (hk := ?_) | refine e_ef rfl (by first | exact .callP (d := 56) 1000000000000 [RCur d2] (hfc := hP) | fail) (hk := ?_) | refine e_ef (hk := ?_))
          | (refine w_o ?_; first | refine w_drawS (id := 6) (rdP []) (fun k => [12, 13, 14, 15, 17].contains k) [[], [], [], [], []] (by kernel_rfl) rfl (by kernel_rfl) (by simp [nm, nset, -List.map_take, -List.map_drop]) ?_ | refine w_drawS (id := 13) (rdP [(0, 5), (1, 5)]) (fun k => [4].contains k) [[]] (by kernel_rfl) rfl (by kernel_rfl) (by simp [nm, nset, -List.map_take, -List.map_drop]) ?_)
        · rw [if_pos (by omega)] at g6
          refine rn_mk (f, d2, L ++ [[0]], R ++ [[]]) ⟨by dsimp only; omega, by simp; omega, by simp; omega, by simp; omega, by simp, g6⟩ (by dsimp only; omega) ?_
          refine le_eq (by (repeat' first | exact .nil | refine .keep ?_ | refine .any ?_); first | done | fail) rfl ?_
          simp
        · rw [if_neg (by omega)] at g6
          rw [if_pos rfl, if_neg (by decide), if_neg (by decide), if_neg (by decide), ← g6]
          refine en_le _ (le_drop 5 (by simp only [nz, nf, nl, nb, nr, ng, nq, nu, reduceIte, Nat.reduceEqDiff, Nat.reduceAdd]; rfl) (by simp only [nz, nf, nl, nb, nr, ng, nq, nu, reduceIte, Nat.reduceEqDiff, Nat.reduceAdd]; rfl)) ?_
          refine en_endm ([(4, 2, [.agg [.ref 1009 0 L.length, .ref 2009 0 L.length]])]) (hf := Tryz.results23) (hO := ?_) (hr := ?_)
          · rfl
          · rfl
  · omega
  · refine en_le _ (le_drop 5 (by simp only [nz, nf, nl, nb, nr, ng, nq, nu, reduceIte, Nat.reduceEqDiff, Nat.reduceAdd]; rfl) (by simp only [nz, nf, nl, nb, nr, ng, nq, nu, reduceIte, Nat.reduceEqDiff, Nat.reduceAdd]; rfl)) ?_
    have hv : ¬ v = 0 := by omega
    rw [if_neg hv]
    refine en_endm ([(4, 2, [.agg [.ref 1009 0 L.length, .ref 2009 0 R.length]])]) (hf := Tryz.results23) (hO := ?_) (hr := ?_)
    · rfl
    · rfl
end Go.Proofs.YtpcckakchpblcaaGreatDoor
