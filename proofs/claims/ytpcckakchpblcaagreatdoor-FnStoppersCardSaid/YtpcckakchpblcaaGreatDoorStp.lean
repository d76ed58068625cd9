/- Loops that are stoppers for the most part, drawn from bytes. For all bytes. -/
import Derived.Test.YtpcckakchpblcaaGreatDoorDraw
import Derived.Test.YtpcckakchpblcaaGreatDoorNamed
namespace Go.Proofs.YtpcckakchpblcaaGreatDoor
open Eng
attribute [local irreducible] OpS OpG FC FCr Rel Fl Ef DR Fs
attribute [local simp] RV.fzR_names
set_option linter.unusedSimpArgs false
set_option maxHeartbeats 0
set_option maxRecDepth 100000

/-- Numbers below i, as many as are drawn; none for the first place. -/
def optsUp (i k : Nat) (c : Cur) : Cur × List Int := if 0 < i then optsOn i k (c, []) else (c, [])
def stpA (i : Nat) (c : Cur) : Cur × List Int := optsUp i (pickV c 3) (pickC c 3)
def stpB (i : Nat) (c : Cur) : Cur × List Int := optsUp i (pickV (stpA i c).1 3) (pickC (stpA i c).1 3)
def stpRow (i : Nat) (c : Cur) : Cur × List Int × List Int :=
  (pickC (stpB i c).1 6, if pickV (stpB i c).1 6 = 0 then putI (i : Nat) (stpA i c).2 else (stpA i c).2, if pickV (stpB i c).1 6 = 1 then putI (i : Nat) (stpB i c).2 else (stpB i c).2)
def stpTo (q : Cur × List (List Int) × List (List Int)) : Nat → Cur × List (List Int) × List (List Int)
  | 0 => q
  | i + 1 => ((stpRow i (stpTo q i).1).1, (stpTo q i).2.1 ++ [(stpRow i (stpTo q i).1).2.1], (stpTo q i).2.2 ++ [(stpRow i (stpTo q i).1).2.2])
def drawStp (c : Cur) (most : Nat) : Cur × List (List Int) × List (List Int) :=
  if pickV c 3 = 0 then (pickC (pickC c 3) 8, nmA (nmd (nmL.getD (pickV (pickC c 3) 8) []) nmL txL), nmB (nmd (nmL.getD (pickV (pickC c 3) 8) []) nmL txL))
  else if pickV (stpTo (pickC (pickC c 3) most, [], []) (1 + pickV (pickC c 3) most)).1 10 = 0 then loose (pickC (stpTo (pickC (pickC c 3) most, [], []) (1 + pickV (pickC c 3) most)).1 10) 5
  else (pickC (stpTo (pickC (pickC c 3) most, [], []) (1 + pickV (pickC c 3) most)).1 10, (stpTo (pickC (pickC c 3) most, [], []) (1 + pickV (pickC c 3) most)).2)
theorem optsUp_small (i k : Nat) (c : Cur) : (optsUp i k c).1.at_ ≤ c.at_ + 2 * k ∧ (optsUp i k c).2.length ≤ k := by
  unfold optsUp
  split
  · rename_i h
    have := optsOn_small i h k (c, []) (by simp)
    simp only [List.length_nil] at this
    omega
  · simp
theorem stp_small (i : Nat) (c : Cur) : (stpA i c).1.at_ ≤ c.at_ + 6 ∧ (stpA i c).2.length ≤ 2 ∧ (stpB i c).1.at_ ≤ c.at_ + 12 ∧ (stpB i c).2.length ≤ 2 ∧ (stpRow i c).1.at_ ≤ c.at_ + 14 := by
  have a := optsUp_small i (pickV c 3) (pickC c 3)
  have b := optsUp_small i (pickV (stpA i c).1 3) (pickC (stpA i c).1 3)
  have h1 := pickV_lt c 3 (by omega)
  have h2 := pickC_at c 3
  have h3 := pickV_lt (stpA i c).1 3 (by omega)
  have h4 := pickC_at (stpA i c).1 3
  have h5 := pickC_at (stpB i c).1 6
  have ea : optsUp i (pickV c 3) (pickC c 3) = stpA i c := rfl
  have eb : optsUp i (pickV (stpA i c).1 3) (pickC (stpA i c).1 3) = stpB i c := rfl
  rw [ea] at a
  rw [eb] at b
  have er : (stpRow i c).1 = pickC (stpB i c).1 6 := rfl
  rw [er]
  omega
theorem stpTo_small (q : Cur × List (List Int) × List (List Int)) (hq : q.2.1 = [] ∧ q.2.2 = []) : ∀ i, (stpTo q i).1.at_ ≤ q.1.at_ + 14 * i ∧ (stpTo q i).2.1.length = i ∧ (stpTo q i).2.2.length = i
  | 0 => by simp [stpTo, hq]
  | i + 1 => by
    have h := stpTo_small q hq i
    have := (stp_small i (stpTo q i).1).2.2.2.2
    simp only [stpTo, List.length_append, List.length_singleton]
    omega
/-- Where a count down of draws stands. -/
def upInv (i k : Nat) (d : Cur) (l : List Int) (A : Cur × List Int) : Prop := if 0 < i then optsOn i k (d, l) = A else (d, l) = A
theorem upInv_end {i k d l A} (h : upInv i k d l A) (he : k = 0 ∨ i = 0) : d = A.1 ∧ l = A.2 := by
  unfold upInv at h
  split at h
  · rcases he with rfl | rfl
    · rw [optsOn] at h; subst h; exact ⟨rfl, rfl⟩
    · omega
  · subst h; exact ⟨rfl, rfl⟩
theorem upInv_step {i k d l A} (h : upInv i (k + 1) d l A) (hi : 0 < i) : upInv i k (pickC d i) (putI (pickV d i : Nat) l) A := by
  unfold upInv at h ⊢
  rw [if_pos hi] at h ⊢
  exact h
theorem upInv_zero (i k : Nat) (c : Cur) : upInv i k c [] (optsUp i k c) := by
  unfold upInv optsUp
  split <;> rfl

theorem drawStp_ok (c : Cur) (most : Nat) (hc : c.at_ ≤ 1099511500000) (h0 : 0 < most) (hm : most ≤ 36) : FC Tryz.prog 34 [.ptr 1000000000000 0 0, RVn most] [(1000000000000, 3, [RCur c])]
    (fun rv O => rv = .agg [OIss (drawStp c most).2.1, OIss (drawStp c most).2.2] ∧ O = [(1000000000000, 3, [RCur (drawStp c most).1])]) := by
  have hNm := l26Names_ok
  have hO := one_ok c 3 (by omega) (by omega)
  have k1 := pickC_at c 3
  unfold drawStp
  generalize pickC c 3 = c1 at *
  by_cases hv : pickV c 3 = 0
  · rw [if_pos hv]
    rw [hv] at hO
    have hP := pick_ok c1 8 (by omega) (by omega)
    have hl := pickV_lt c1 8 (by omega)
    have hnl : nmL.length = 8 := rfl
    have hN := specNamed_ok (nmL[pickV c1 8]'(by omega))
    rw [gd (by omega)]
    dsimp only
    generalize nmd (nmL[pickV c1 8]'(by omega)) nmL txL = r at *
    generalize pickC c1 8 = c2 at *
    generalize nmA r = A at *
    generalize nmB r = B at *
    refine (fc_in Tryz.func34 rfl (by simp only [Tryz.ntmps34, anys, List.length_cons, List.length_nil, Nat.reduceAdd, Nat.reduceSub, List.replicate_succ, List.replicate_zero, List.cons_append, List.nil_append] <;> rfl) ?_)
    repeat' first
      | refine w_seq ?_
      | refine w_block ?_
      | refine rb_n ?_
      | refine rb_ret ?_
      | refine rb_eq ?_
      | refine rb_ne (by rfl) ?_
      | refine w_exit ?_
      | refine rt_exit ?_
      | refine w_region ?_
      | refine l_nil ?_
      | refine rt_n ?_
      | refine w_ret ?_
      | refine rt_ret ?_
      | refine w_skip ?_
      | refine w_cond_t rfl ?_
      | refine w_cond_f rfl ?_
      | refine w_cnd rfl (fun hc => ?_) (fun hc => ?_)
      | refine w_cd rfl (fun hc => ?_) (fun hc => ?_)
      | refine w_cn rfl (fun hc => ?_) (fun hc => ?_)
      | refine w_cond rfl (fun hc => ?_) (fun hc => ?_)
      | (exfalso; omega)
      | (refine l_o ?_; first | refine l_eqnil rfl (by kernel_rfl) (by intro b; simp only [nz]; rfl) (fun b hb => ?_) | refine l_op rfl (by first | (apply k_callf; first | exact ops_callP (d := 18) 1000000000000 [RCur c1] (hfc := hO) | exact ops_callP (d := 24) 1000000000000 [RCur c2] (hfc := hP) | exact ops_callf (d := 16) (hfc := hNm) | exact ops_callv (d := 27) (hfc := hN) | fail) | fail) (hk := ?_) | refine l_op (hk := ?_) | (refine l_g ?_; first | refine l_y rfl rfl rfl ?_ | refine l_n rfl rfl rfl rfl (hk := ?_) | refine l_n' rfl rfl rfl (hk := ?_) | refine l_spnd rfl rfl rfl (h1 := fun hc => ?_) (h2 := fun hc => ?_) | refine l_spd rfl rfl rfl (h1 := fun hc => ?_) (h2 := fun hc => ?_) | refine l_spn rfl rfl rfl (h1 := fun hc => ?_) (h2 := fun hc => ?_) | refine l_sp rfl rfl rfl (h1 := fun hc => ?_) (h2 := fun hc => ?_)))
    all_goals first
      | (exfalso; exact absurd rfl hc)
      | skip
    -- DBG
    refine en_le _ (le_drop 6 (by simp only [nz, nf, nl, nb, nr, ng, nq, nu, reduceIte, Nat.reduceEqDiff, Nat.reduceAdd]; rfl) (by simp only [nz, nf, nl, nb, nr, ng, nq, nu, reduceIte, Nat.reduceEqDiff, Nat.reduceAdd]; rfl)) ?_
    refine en_endm ([(4, 2, [.agg [.ref 100001027 0 A.length, .ref 200001027 0 B.length]])]) (hf := Tryz.results34) (hO := ?_) (hr := ?_)
    · rfl
    · rfl
  · rw [if_neg hv]
    have hP := pick_ok c1 most (by omega) (by omega)
    have hl := pickV_lt c1 most (by omega)
    have k2 := pickC_at c1 most
    generalize hn : pickV c1 most = n at *
    generalize pickC c1 most = c2 at *
    generalize hx : pickV c 3 = x at *
    have hS := stpTo_small (c2, [], []) ⟨rfl, rfl⟩
    refine (fc_in Tryz.func34 rfl (by simp only [Tryz.ntmps34, anys, List.length_cons, List.length_nil, Nat.reduceAdd, Nat.reduceSub, List.replicate_succ, List.replicate_zero, List.cons_append, List.nil_append] <;> rfl) ?_)
    repeat' first
      | refine w_seq ?_
      | refine w_block ?_
      | refine rb_n ?_
      | refine rb_ret ?_
      | refine rb_eq ?_
      | refine rb_ne (by rfl) ?_
      | refine w_exit ?_
      | refine rt_exit ?_
      | refine w_region ?_
      | refine l_nil ?_
      | refine rt_n ?_
      | refine w_ret ?_
      | refine rt_ret ?_
      | refine w_skip ?_
      | refine w_cond_t rfl ?_
      | refine w_cond_f rfl ?_
      | refine w_cnd rfl (fun hc => ?_) (fun hc => ?_)
      | refine w_cd rfl (fun hc => ?_) (fun hc => ?_)
      | refine w_cn rfl (fun hc => ?_) (fun hc => ?_)
      | refine w_cond rfl (fun hc => ?_) (fun hc => ?_)
      | (exfalso; omega)
      | (refine l_o ?_; first | refine l_eqnil rfl (by kernel_rfl) (by intro b; simp only [nz]; rfl) (fun b hb => ?_) | refine l_op rfl (by first | (apply k_add; first | exact ops_addn (a := 1) (b := n) rfl rfl (by omega) | fail) | (apply k_callf; first | exact ops_callP (d := 18) 1000000000000 [RCur c1] (hfc := hO) | exact ops_callP (d := 34) 1000000000000 [RCur c2] (hfc := hP) | exact ops_callf (d := 16) (hfc := hNm) | fail) | fail) (hk := ?_) | refine l_op (hk := ?_) | (refine l_g ?_; first | refine l_y rfl rfl rfl ?_ | refine l_n rfl rfl rfl rfl (hk := ?_) | refine l_n' rfl rfl rfl (hk := ?_) | refine l_spnd rfl rfl rfl (h1 := fun hc => ?_) (h2 := fun hc => ?_) | refine l_spd rfl rfl rfl (h1 := fun hc => ?_) (h2 := fun hc => ?_) | refine l_spn rfl rfl rfl (h1 := fun hc => ?_) (h2 := fun hc => ?_) | refine l_sp rfl rfl rfl (h1 := fun hc => ?_) (h2 := fun hc => ?_)))
    refine w_le _ (le_trans (le_nw 10 rfl (.agg (.now (k := 1) (by decide) (.now (k := 1) (by decide) .nil)) .nil) (by simp only [nz, nf, nl, nb, nr, ng, nq, nu, reduceIte, Nat.reduceEqDiff, Nat.reduceAdd]; rfl)) (le_trans (le_open 10 0 0 5090 rfl rfl rfl (by simp [nm]) (by simp only [nz, nf, nl, nb, nr, ng, nq, nu, reduceIte, Nat.reduceEqDiff, Nat.reduceAdd]; rfl)) (le_open 10 0 1 5096 rfl rfl rfl (by simp [nm]) (by simp only [nz, nf, nl, nb, nr, ng, nq, nu, reduceIte, Nat.reduceEqDiff, Nat.reduceAdd]; rfl)))) ?_
    refine w_loopm (ι := Nat × Cur × List (List Int) × List (List Int)) (fun q => [(11, RVn q.1), (12, .any), (13, .any), (14, .any), (15, .any), (58, .any), (73, .any), (80, .any), (85, .any)]) (fun q => [(5096, 1, q.2.2.2.map OIs), (5090, 1, q.2.2.1.map OIs), (10, 2, [.agg [.ref 5090 0 q.2.2.1.length, .ref 5096 0 q.2.2.2.length]]), (4, 2, [.agg [.v (.slice none 0 0), .v (.slice none 0 0)]]), (1000000000000, 3, [RCur q.2.1])]) (fun q => q.1 ≤ 1 + n ∧ q.2 = stpTo (c2, [], []) q.1) (fun q => 1 + n - q.1) (0, c2, [], []) (h0 := ?_) (hs := ?_) (round := ?_)
    · exact ⟨by omega, rfl⟩
    · refine le_eq (by (repeat' first | exact .nil | refine .keep ?_ | refine .any ?_); first | done | fail) rfl rfl
    · intro ⟨i, d, A, B⟩ ⟨hi, hg⟩
      dsimp only at hi hg ⊢
      have hS1 := hS i
      rw [← hg] at hS1
      dsimp only at hS1
      by_cases hil : i < 1 + n
      · have hS2 := hS (i + 1)
        have hrow : stpTo (c2, [], []) (i + 1) = ((stpRow i d).1, A ++ [(stpRow i d).2.1], B ++ [(stpRow i d).2.2]) := by rw [stpTo, ← hg]
        obtain ⟨a1, a2, b1, b2, b3⟩ := stp_small i d
        unfold stpRow at hrow b3
        have hPA := pick_ok d 3 (by omega) (by omega)
        have u1 := pickV_lt d 3 (by omega)
        have u2 := pickC_at d 3
        have zA : upInv i (pickV d 3) (pickC d 3) [] (stpA i d) := upInv_zero _ _ _
        have zB : upInv i (pickV (stpA i d).1 3) (pickC (stpA i d).1 3) [] (stpB i d) := upInv_zero _ _ _
        generalize stpB i d = QB at *
        generalize stpA i d = QA at *
        obtain ⟨dA, lA⟩ := QA
        obtain ⟨dB, lB⟩ := QB
        dsimp only at *
        have hPB := pick_ok dA 3 (by omega) (by omega)
        have u3 := pickV_lt dA 3 (by omega)
        have u4 := pickC_at dA 3
        have hPC := pick_ok dB 6 (by omega) (by omega)
        have u5 := pickV_lt dB 6 (by omega)
        have u6 := pickC_at dB 6
        generalize pickV d 3 = kA at *
        generalize pickC d 3 = cA at *
        generalize pickV dA 3 = kB at *
        generalize pickC dA 3 = cB at *
        generalize pickV dB 6 = v at *
        generalize pickC dB 6 = cC at *
        repeat' first
          | refine w_seq ?_
          | refine w_block ?_
          | refine rb_n ?_
          | refine rb_ret ?_
          | refine rb_eq ?_
          | refine rb_ne (by rfl) ?_
          | refine w_exit ?_
          | refine rt_exit ?_
          | refine w_region ?_
          | refine l_nil ?_
          | refine rt_n ?_
          | refine w_ret ?_
          | refine rt_ret ?_
          | refine w_skip ?_
          | refine w_cond_t rfl ?_
          | refine w_cond_f rfl ?_
          | refine w_cnd rfl (fun hc => ?_) (fun hc => ?_)
          | refine w_cd rfl (fun hc => ?_) (fun hc => ?_)
          | refine w_cn rfl (fun hc => ?_) (fun hc => ?_)
          | refine w_cond rfl (fun hc => ?_) (fun hc => ?_)
          | (exfalso; omega)
          | (refine l_o ?_; first | refine l_eqnil rfl (by kernel_rfl) (by intro b; simp only [nz]; rfl) (fun b hb => ?_) | refine l_op rfl (by first | (apply k_callf; first | exact ops_callP (d := 45) 1000000000000 [RCur cA] (hfc := hPA) | fail) | fail) (hk := ?_) | refine l_op (hk := ?_) | (refine l_g ?_; first | refine l_y rfl rfl rfl ?_ | refine l_n rfl rfl rfl rfl (hk := ?_) | refine l_n' rfl rfl rfl (hk := ?_) | refine l_spnd rfl rfl rfl (h1 := fun hc => ?_) (h2 := fun hc => ?_) | refine l_spd rfl rfl rfl (h1 := fun hc => ?_) (h2 := fun hc => ?_) | refine l_spn rfl rfl rfl (h1 := fun hc => ?_) (h2 := fun hc => ?_) | refine l_sp rfl rfl rfl (h1 := fun hc => ?_) (h2 := fun hc => ?_)))
        refine w_le _ (le_trans (le_ren 42 58 (by decide) (by decide) (by simp [nm, ng, renL_id, -List.map_append, -List.map_take, -List.map_drop]) (by simp [nm, ng, renL_id, onames, -List.map_append, -List.map_take, -List.map_drop]) (by simp only [ng, nm, nu, renL_id, reduceIte, Nat.reduceEqDiff]; rfl) (by simp only [ng, nm, nu, renL_id, reduceIte, Nat.reduceEqDiff]; rfl)) (le_perm [58, 43, 5096, 5090, 10, 4, 1000000000000] rfl rfl)) ?_
        -- DBG2
        refine w_loopm (ι := Nat × Cur × List Int) (fun q => [(14, RVn q.1), (12, .ref 58 0 q.2.2.length), (58, .any), (42, .any)]) (fun q => [(58, 1, q.2.2.map RVi), (43, 1, []), (5096, 1, B.map OIs), (5090, 1, A.map OIs), (10, 2, [.agg [.ref 5090 0 A.length, .ref 5096 0 B.length]]), (4, 2, [.agg [.v (.slice none 0 0), .v (.slice none 0 0)]]), (1000000000000, 3, [RCur q.2.1])]) (fun q => q.1 ≤ 2 ∧ q.2.1.at_ + 2 * q.1 ≤ d.at_ + 6 ∧ q.2.2.length + q.1 ≤ 2 ∧ upInv i q.1 q.2.1 q.2.2 (dA, lA)) (fun q => q.1) (kA, cA, []) (h0 := ?_) (hs := ?_) (round := ?_)
        · exact ⟨by dsimp only; omega, by dsimp only; omega, by simp; omega, zA⟩
        · refine le_eq (by (repeat' first | exact .nil | refine .keep ?_ | refine .any ?_); first | done | fail) rfl rfl
        · intro ⟨k, e, l⟩ ⟨m1, m2, m3, m4⟩
          dsimp only at m1 m2 m3 m4 ⊢
          by_cases hex : k = 0 ∨ i = 0
          · obtain ⟨e1, e2⟩ := upInv_end m4 hex
            dsimp only at e1 e2
            subst e1 e2
            repeat' first
              | refine w_seq ?_
              | refine w_block ?_
              | refine rb_n ?_
              | refine rb_ret ?_
              | refine rb_eq ?_
              | refine rb_ne (by rfl) ?_
              | refine w_exit ?_
              | refine rt_exit ?_
              | refine w_region ?_
              | refine l_nil ?_
              | refine rt_n ?_
              | refine w_ret ?_
              | refine rt_ret ?_
              | refine w_skip ?_
              | refine w_cond_t rfl ?_
              | refine w_cond_f rfl ?_
              | refine w_cnd rfl (fun hc => ?_) (fun hc => ?_)
              | refine w_cd rfl (fun hc => ?_) (fun hc => ?_)
              | refine w_cn rfl (fun hc => ?_) (fun hc => ?_)
              | refine w_cond rfl (fun hc => ?_) (fun hc => ?_)
              | (exfalso; omega)
              | (refine l_o ?_; first | refine l_eqnil rfl (by kernel_rfl) (by intro b; simp only [nz]; rfl) (fun b hb => ?_) | refine l_op rfl (by first | (apply k_callf; first | exact ops_callP (d := 60) 1000000000000 [RCur cB] (hfc := hPB) | fail) | fail) (hk := ?_) | refine l_op (hk := ?_) | (refine l_g ?_; first | refine l_y rfl rfl rfl ?_ | refine l_n rfl rfl rfl rfl (hk := ?_) | refine l_n' rfl rfl rfl (hk := ?_) | refine l_spnd rfl rfl rfl (h1 := fun hc => ?_) (h2 := fun hc => ?_) | refine l_spd rfl rfl rfl (h1 := fun hc => ?_) (h2 := fun hc => ?_) | refine l_spn rfl rfl rfl (h1 := fun hc => ?_) (h2 := fun hc => ?_) | refine l_sp rfl rfl rfl (h1 := fun hc => ?_) (h2 := fun hc => ?_)))
            all_goals
              refine w_le _ (le_trans (le_ren 43 73 (by decide) (by decide) (by simp [nm, ng, renL_id, -List.map_append, -List.map_take, -List.map_drop]) (by simp [nm, ng, renL_id, onames, -List.map_append, -List.map_take, -List.map_drop]) (by simp only [ng, nm, nu, renL_id, reduceIte, Nat.reduceEqDiff]; rfl) (by simp only [ng, nm, nu, renL_id, reduceIte, Nat.reduceEqDiff]; rfl)) (le_perm [73, 58, 5096, 5090, 10, 4, 1000000000000] rfl rfl)) ?_
              refine w_loopm (ι := Nat × Cur × List Int) (fun q => [(15, RVn q.1), (13, .ref 73 0 q.2.2.length), (73, .any), (43, .any)]) (fun q => [(73, 1, q.2.2.map RVi), (58, 1, l.map RVi), (5096, 1, B.map OIs), (5090, 1, A.map OIs), (10, 2, [.agg [.ref 5090 0 A.length, .ref 5096 0 B.length]]), (4, 2, [.agg [.v (.slice none 0 0), .v (.slice none 0 0)]]), (1000000000000, 3, [RCur q.2.1])]) (fun q => q.1 ≤ 2 ∧ q.2.1.at_ + 2 * q.1 ≤ d.at_ + 12 ∧ q.2.2.length + q.1 ≤ 2 ∧ upInv i q.1 q.2.1 q.2.2 (dB, lB)) (fun q => q.1) (kB, cB, []) (h0 := ?_) (hs := ?_) (round := ?_)
              · exact ⟨by dsimp only; omega, by dsimp only; omega, by simp; omega, zB⟩
              · refine le_eq (by (repeat' first | exact .nil | refine .keep ?_ | refine .any ?_); first | done | fail) rfl rfl
              · intro ⟨k2, f, r⟩ ⟨m1, m2, m3, m4⟩
                dsimp only at m1 m2 m3 m4 ⊢
                by_cases hex2 : k2 = 0 ∨ i = 0
                · obtain ⟨e1, e2⟩ := upInv_end m4 hex2
                  dsimp only at e1 e2
                  subst e1 e2
                  have hPl := l1Put_ok l (i : Nat) (by omega)
                  have hPr := l1Put_ok r (i : Nat) (by omega)
                  have y1 := putI_len (i : Nat) l
                  have y2 := putI_len (i : Nat) r
                  have e0 : ((i : Nat) : Int) = (i : Int) := rfl
                  rcases (by omega : v = 0 ∨ v = 1 ∨ (v ≠ 0 ∧ v ≠ 1)) with hv0 | hv1 | hv2
                  · subst hv0
                    rw [if_pos rfl, if_neg (by omega)] at hrow
                    generalize putI ((i : Nat) : Int) l = l2 at *
                    repeat' first
                      | refine w_seq ?_
                      | refine w_block ?_
                      | refine rb_n ?_
                      | refine rb_ret ?_
                      | refine rb_eq ?_
                      | refine rb_ne (by rfl) ?_
                      | refine w_exit ?_
                      | refine rt_exit ?_
                      | refine w_region ?_
                      | refine l_nil ?_
                      | refine rt_n ?_
                      | refine w_ret ?_
                      | refine rt_ret ?_
                      | refine w_skip ?_
                      | refine w_cond_t rfl ?_
                      | refine w_cond_f rfl ?_
                      | refine w_cnd rfl (fun hc => ?_) (fun hc => ?_)
                      | refine w_cd rfl (fun hc => ?_) (fun hc => ?_)
                      | refine w_cn rfl (fun hc => ?_) (fun hc => ?_)
                      | refine w_cond rfl (fun hc => ?_) (fun hc => ?_)
                      | (exfalso; omega)
                      | (refine l_at_append (d := some 90) ?_; refine l_le _ (le_fg 10 rfl (.agg (.ref (.keep .nil)) .nil) (by simp only [nz, nf, nl, nb, nr, ng, nq, nu, reduceIte, Nat.reduceEqDiff, Nat.reduceAdd]; rfl)) ?_)
                      | (refine l_at_append (d := some 96) ?_; refine l_le _ (le_fg 10 rfl (.agg (.keep (.ref .nil)) .nil) (by simp only [nz, nf, nl, nb, nr, ng, nq, nu, reduceIte, Nat.reduceEqDiff, Nat.reduceAdd]; rfl)) ?_)
                      | (refine l_o ?_; first | refine l_eqnil rfl (by kernel_rfl) (by intro b; simp only [nz]; rfl) (fun b hb => ?_) | refine l_op rfl (by first | (apply k_callf; first | exact ops_callP (d := 75) 1000000000000 [RCur cC] (hfc := hPC) | exact ops_callG (d := 80) [58] [58] ([]) (hfc := hPl) | fail) | fail) (hk := ?_) | refine l_op (hk := ?_) | (refine l_g ?_; first | refine l_y rfl rfl rfl ?_ | refine l_n rfl rfl rfl rfl (hk := ?_) | refine l_n' rfl rfl rfl (hk := ?_) | refine l_spnd rfl rfl rfl (h1 := fun hc => ?_) (h2 := fun hc => ?_) | refine l_spd rfl rfl rfl (h1 := fun hc => ?_) (h2 := fun hc => ?_) | refine l_spn rfl rfl rfl (h1 := fun hc => ?_) (h2 := fun hc => ?_) | refine l_sp rfl rfl rfl (h1 := fun hc => ?_) (h2 := fun hc => ?_)))
                    all_goals refine rn_mk (i + 1, cC, A ++ [l2], B ++ [r]) ?_ (by first | omega | (dsimp only; omega)) (le_eq (by (repeat' first | exact .nil | refine .keep ?_ | refine .any ?_); first | done | fail) rfl rfl)
                    all_goals exact ⟨by dsimp only; omega, hrow.symm⟩
                  · subst hv1
                    rw [if_neg (by omega), if_pos rfl] at hrow
                    generalize putI ((i : Nat) : Int) r = r2 at *
                    repeat' first
                      | refine w_seq ?_
                      | refine w_block ?_
                      | refine rb_n ?_
                      | refine rb_ret ?_
                      | refine rb_eq ?_
                      | refine rb_ne (by rfl) ?_
                      | refine w_exit ?_
                      | refine rt_exit ?_
                      | refine w_region ?_
                      | refine l_nil ?_
                      | refine rt_n ?_
                      | refine w_ret ?_
                      | refine rt_ret ?_
                      | refine w_skip ?_
                      | refine w_cond_t rfl ?_
                      | refine w_cond_f rfl ?_
                      | refine w_cnd rfl (fun hc => ?_) (fun hc => ?_)
                      | refine w_cd rfl (fun hc => ?_) (fun hc => ?_)
                      | refine w_cn rfl (fun hc => ?_) (fun hc => ?_)
                      | refine w_cond rfl (fun hc => ?_) (fun hc => ?_)
                      | (exfalso; omega)
                      | (refine l_at_append (d := some 90) ?_; refine l_le _ (le_fg 10 rfl (.agg (.ref (.keep .nil)) .nil) (by simp only [nz, nf, nl, nb, nr, ng, nq, nu, reduceIte, Nat.reduceEqDiff, Nat.reduceAdd]; rfl)) ?_)
                      | (refine l_at_append (d := some 96) ?_; refine l_le _ (le_fg 10 rfl (.agg (.keep (.ref .nil)) .nil) (by simp only [nz, nf, nl, nb, nr, ng, nq, nu, reduceIte, Nat.reduceEqDiff, Nat.reduceAdd]; rfl)) ?_)
                      | (refine l_o ?_; first | refine l_eqnil rfl (by kernel_rfl) (by intro b; simp only [nz]; rfl) (fun b hb => ?_) | refine l_op rfl (by first | (apply k_callf; first | exact ops_callP (d := 75) 1000000000000 [RCur cC] (hfc := hPC) | exact ops_callG (d := 85) [73] [73] ([]) (hfc := hPr) | fail) | fail) (hk := ?_) | refine l_op (hk := ?_) | (refine l_g ?_; first | refine l_y rfl rfl rfl ?_ | refine l_n rfl rfl rfl rfl (hk := ?_) | refine l_n' rfl rfl rfl (hk := ?_) | refine l_spnd rfl rfl rfl (h1 := fun hc => ?_) (h2 := fun hc => ?_) | refine l_spd rfl rfl rfl (h1 := fun hc => ?_) (h2 := fun hc => ?_) | refine l_spn rfl rfl rfl (h1 := fun hc => ?_) (h2 := fun hc => ?_) | refine l_sp rfl rfl rfl (h1 := fun hc => ?_) (h2 := fun hc => ?_)))
                    all_goals refine rn_mk (i + 1, cC, A ++ [l], B ++ [r2]) ?_ (by first | omega | (dsimp only; omega)) (le_eq (by (repeat' first | exact .nil | refine .keep ?_ | refine .any ?_); first | done | fail) rfl rfl)
                    all_goals exact ⟨by dsimp only; omega, hrow.symm⟩
                  · rw [if_neg hv2.1, if_neg hv2.2] at hrow
                    repeat' first
                      | refine w_seq ?_
                      | refine w_block ?_
                      | refine rb_n ?_
                      | refine rb_ret ?_
                      | refine rb_eq ?_
                      | refine rb_ne (by rfl) ?_
                      | refine w_exit ?_
                      | refine rt_exit ?_
                      | refine w_region ?_
                      | refine l_nil ?_
                      | refine rt_n ?_
                      | refine w_ret ?_
                      | refine rt_ret ?_
                      | refine w_skip ?_
                      | refine w_cond_t rfl ?_
                      | refine w_cond_f rfl ?_
                      | refine w_cnd rfl (fun hc => ?_) (fun hc => ?_)
                      | refine w_cd rfl (fun hc => ?_) (fun hc => ?_)
                      | refine w_cn rfl (fun hc => ?_) (fun hc => ?_)
                      | refine w_cond rfl (fun hc => ?_) (fun hc => ?_)
                      | (exfalso; omega)
                      | (refine l_at_append (d := some 90) ?_; refine l_le _ (le_fg 10 rfl (.agg (.ref (.keep .nil)) .nil) (by simp only [nz, nf, nl, nb, nr, ng, nq, nu, reduceIte, Nat.reduceEqDiff, Nat.reduceAdd]; rfl)) ?_)
                      | (refine l_at_append (d := some 96) ?_; refine l_le _ (le_fg 10 rfl (.agg (.keep (.ref .nil)) .nil) (by simp only [nz, nf, nl, nb, nr, ng, nq, nu, reduceIte, Nat.reduceEqDiff, Nat.reduceAdd]; rfl)) ?_)
                      | (refine l_o ?_; first | refine l_eqnil rfl (by kernel_rfl) (by intro b; simp only [nz]; rfl) (fun b hb => ?_) | refine l_op rfl (by first | (apply k_callf; first | exact ops_callP (d := 75) 1000000000000 [RCur cC] (hfc := hPC) | fail) | fail) (hk := ?_) | refine l_op (hk := ?_) | (refine l_g ?_; first | refine l_y rfl rfl rfl ?_ | refine l_n rfl rfl rfl rfl (hk := ?_) | refine l_n' rfl rfl rfl (hk := ?_) | refine l_spnd rfl rfl rfl (h1 := fun hc => ?_) (h2 := fun hc => ?_) | refine l_spd rfl rfl rfl (h1 := fun hc => ?_) (h2 := fun hc => ?_) | refine l_spn rfl rfl rfl (h1 := fun hc => ?_) (h2 := fun hc => ?_) | refine l_sp rfl rfl rfl (h1 := fun hc => ?_) (h2 := fun hc => ?_)))
                    all_goals refine rn_mk (i + 1, cC, A ++ [l], B ++ [r]) ?_ (by first | omega | (dsimp only; omega)) (le_eq (by (repeat' first | exact .nil | refine .keep ?_ | refine .any ?_); first | done | fail) rfl rfl)
                    all_goals exact ⟨by dsimp only; omega, hrow.symm⟩
                · obtain ⟨k2, rfl⟩ : ∃ k', k2 = k' + 1 := ⟨k2 - 1, by omega⟩
                  have m5 := upInv_step m4 (by omega)
                  have m6 := pickC_at f i
                  have m7 := putI_len (pickV f i : Nat) r
                  repeat' first
                    | refine w_seq ?_
                    | refine w_block ?_
                    | refine rb_n ?_
                    | refine rb_ret ?_
                    | refine rb_eq ?_
                    | refine rb_ne (by rfl) ?_
                    | refine w_exit ?_
                    | refine rt_exit ?_
                    | refine w_region ?_
                    | refine l_nil ?_
                    | refine rt_n ?_
                    | refine w_ret ?_
                    | refine rt_ret ?_
                    | refine w_skip ?_
                    | refine w_cond_t rfl ?_
                    | refine w_cond_f rfl ?_
                    | refine w_cnd rfl (fun hc => ?_) (fun hc => ?_)
                    | refine w_cd rfl (fun hc => ?_) (fun hc => ?_)
                    | refine w_cn rfl (fun hc => ?_) (fun hc => ?_)
                    | refine w_cond rfl (fun hc => ?_) (fun hc => ?_)
                    | (exfalso; omega)
                    | (refine l_o ?_; first | refine l_eqnil rfl (by kernel_rfl) (by intro b; simp only [nz]; rfl) (fun b hb => ?_) | refine l_op rfl (by first | (apply k_sub; first | exact ops_subn (b := 1) rfl rfl (by omega) (by omega) | fail) | (apply k_callf; first | exact ops_callP (d := 72) 1000000000000 [RCur (pickC f i)] (hfc := pick_ok f i (by omega) (by omega)) | exact ops_callG (d := 73) [73] [73] ([]) (hfc := l1Put_ok r (pickV f i : Nat) (by omega)) | fail) | fail) (hk := ?_) | refine l_op (hk := ?_) | (refine l_g ?_; first | refine l_y rfl rfl rfl ?_ | refine l_n rfl rfl rfl rfl (hk := ?_) | refine l_n' rfl rfl rfl (hk := ?_) | refine l_spnd rfl rfl rfl (h1 := fun hc => ?_) (h2 := fun hc => ?_) | refine l_spd rfl rfl rfl (h1 := fun hc => ?_) (h2 := fun hc => ?_) | refine l_spn rfl rfl rfl (h1 := fun hc => ?_) (h2 := fun hc => ?_) | refine l_sp rfl rfl rfl (h1 := fun hc => ?_) (h2 := fun hc => ?_)))
                  all_goals refine rn_mk (k2, pickC f i, putI (pickV f i : Nat) r) ?_ (by first | omega | (dsimp only; omega)) (le_eq (by (repeat' first | exact .nil | refine .keep ?_ | refine .any ?_); first | done | fail) rfl rfl)
                  all_goals exact ⟨by dsimp only; omega, by dsimp only; omega, by dsimp only; omega, m5⟩
          · obtain ⟨k, rfl⟩ : ∃ k', k = k' + 1 := ⟨k - 1, by omega⟩
            have m5 := upInv_step m4 (by omega)
            have m6 := pickC_at e i
            have m7 := putI_len (pickV e i : Nat) l
            repeat' first
              | refine w_seq ?_
              | refine w_block ?_
              | refine rb_n ?_
              | refine rb_ret ?_
              | refine rb_eq ?_
              | refine rb_ne (by rfl) ?_
              | refine w_exit ?_
              | refine rt_exit ?_
              | refine w_region ?_
              | refine l_nil ?_
              | refine rt_n ?_
              | refine w_ret ?_
              | refine rt_ret ?_
              | refine w_skip ?_
              | refine w_cond_t rfl ?_
              | refine w_cond_f rfl ?_
              | refine w_cnd rfl (fun hc => ?_) (fun hc => ?_)
              | refine w_cd rfl (fun hc => ?_) (fun hc => ?_)
              | refine w_cn rfl (fun hc => ?_) (fun hc => ?_)
              | refine w_cond rfl (fun hc => ?_) (fun hc => ?_)
              | (exfalso; omega)
              | (refine l_o ?_; first | refine l_eqnil rfl (by kernel_rfl) (by intro b; simp only [nz]; rfl) (fun b hb => ?_) | refine l_op rfl (by first | (apply k_sub; first | exact ops_subn (b := 1) rfl rfl (by omega) (by omega) | fail) | (apply k_callf; first | exact ops_callP (d := 57) 1000000000000 [RCur (pickC e i)] (hfc := pick_ok e i (by omega) (by omega)) | exact ops_callG (d := 58) [58] [58] ([]) (hfc := l1Put_ok l (pickV e i : Nat) (by omega)) | fail) | fail) (hk := ?_) | refine l_op (hk := ?_) | (refine l_g ?_; first | refine l_y rfl rfl rfl ?_ | refine l_n rfl rfl rfl rfl (hk := ?_) | refine l_n' rfl rfl rfl (hk := ?_) | refine l_spnd rfl rfl rfl (h1 := fun hc => ?_) (h2 := fun hc => ?_) | refine l_spd rfl rfl rfl (h1 := fun hc => ?_) (h2 := fun hc => ?_) | refine l_spn rfl rfl rfl (h1 := fun hc => ?_) (h2 := fun hc => ?_) | refine l_sp rfl rfl rfl (h1 := fun hc => ?_) (h2 := fun hc => ?_)))
            refine rn_mk (k, pickC e i, putI (pickV e i : Nat) l) ?_ (by first | omega | (dsimp only; omega)) (le_eq (by (repeat' first | exact .nil | refine .keep ?_ | refine .any ?_); first | done | fail) rfl rfl)
            exact ⟨by dsimp only; omega, by dsimp only; omega, by dsimp only; omega, m5⟩
      · obtain rfl : i = 1 + n := by omega
        rw [← hg]
        dsimp only
        have hPT := one_ok d 10 (by omega) (by omega)
        have u9 := pickC_at d 10
        generalize pickC d 10 = d2 at *
        by_cases hw : pickV d 10 = 0
        · rw [if_pos hw]
          rw [hw] at hPT
          have hLo := loose_ok d2 5 (by omega) (by omega) (by omega)
          generalize loose d2 5 = Z at *
          obtain ⟨d3, LZ, RZ⟩ := Z
          dsimp only at hLo ⊢
          repeat' first
            | refine w_seq ?_
            | refine w_block ?_
            | refine rb_n ?_
            | refine rb_ret ?_
            | refine rb_eq ?_
            | refine rb_ne (by rfl) ?_
            | refine w_exit ?_
            | refine rt_exit ?_
            | refine w_region ?_
            | refine l_nil ?_
            | refine rt_n ?_
            | refine w_ret ?_
            | refine rt_ret ?_
            | refine w_skip ?_
            | refine w_cond_t rfl ?_
            | refine w_cond_f rfl ?_
            | refine w_cnd rfl (fun hc => ?_) (fun hc => ?_)
            | refine w_cd rfl (fun hc => ?_) (fun hc => ?_)
            | refine w_cn rfl (fun hc => ?_) (fun hc => ?_)
            | refine w_cond rfl (fun hc => ?_) (fun hc => ?_)
            | (exfalso; omega)
            | (refine l_o ?_; first | refine l_eqnil rfl (by kernel_rfl) (by intro b; simp only [nz]; rfl) (fun b hb => ?_) | refine l_op rfl (by first | (apply k_callf; first | exact ops_callP (d := 99) 1000000000000 [RCur d2] (hfc := hPT) | exact ops_callP (d := 101) 1000000000000 [RCur d3] (hfc := hLo) | fail) | fail) (hk := ?_) | refine l_op (hk := ?_) | (refine l_g ?_; first | refine l_y rfl rfl rfl ?_ | refine l_n rfl rfl rfl rfl (hk := ?_) | refine l_n' rfl rfl rfl (hk := ?_) | refine l_spnd rfl rfl rfl (h1 := fun hc => ?_) (h2 := fun hc => ?_) | refine l_spd rfl rfl rfl (h1 := fun hc => ?_) (h2 := fun hc => ?_) | refine l_spn rfl rfl rfl (h1 := fun hc => ?_) (h2 := fun hc => ?_) | refine l_sp rfl rfl rfl (h1 := fun hc => ?_) (h2 := fun hc => ?_)))
          all_goals first
            | (exfalso; exact absurd rfl hc)
            | skip
          refine en_endm ([(5096, 1, B.map OIs), (5090, 1, A.map OIs), (10, 2, [.agg [.ref 5090 0 A.length, .ref 5096 0 B.length]]), (4, 2, [.agg [.ref 1101 0 LZ.length, .ref 2101 0 RZ.length]])]) (hf := Tryz.results34) (hO := ?_) (hr := ?_)
          · rfl
          · rfl
        · rw [if_neg hw]
          generalize pickV d 10 = w at *
          dsimp only
          repeat' first
            | refine w_seq ?_
            | refine w_block ?_
            | refine rb_n ?_
            | refine rb_ret ?_
            | refine rb_eq ?_
            | refine rb_ne (by rfl) ?_
            | refine w_exit ?_
            | refine rt_exit ?_
            | refine w_region ?_
            | refine l_nil ?_
            | refine rt_n ?_
            | refine w_ret ?_
            | refine rt_ret ?_
            | refine w_skip ?_
            | refine w_cond_t rfl ?_
            | refine w_cond_f rfl ?_
            | refine w_cnd rfl (fun hc => ?_) (fun hc => ?_)
            | refine w_cd rfl (fun hc => ?_) (fun hc => ?_)
            | refine w_cn rfl (fun hc => ?_) (fun hc => ?_)
            | refine w_cond rfl (fun hc => ?_) (fun hc => ?_)
            | (exfalso; omega)
            | (refine l_o ?_; first | refine l_eqnil rfl (by kernel_rfl) (by intro b; simp only [nz]; rfl) (fun b hb => ?_) | refine l_op rfl (by first | (apply k_callf; first | exact ops_callP (d := 99) 1000000000000 [RCur d2] (hfc := hPT) | fail) | fail) (hk := ?_) | refine l_op (hk := ?_) | (refine l_g ?_; first | refine l_y rfl rfl rfl ?_ | refine l_n rfl rfl rfl rfl (hk := ?_) | refine l_n' rfl rfl rfl (hk := ?_) | refine l_spnd rfl rfl rfl (h1 := fun hc => ?_) (h2 := fun hc => ?_) | refine l_spd rfl rfl rfl (h1 := fun hc => ?_) (h2 := fun hc => ?_) | refine l_spn rfl rfl rfl (h1 := fun hc => ?_) (h2 := fun hc => ?_) | refine l_sp rfl rfl rfl (h1 := fun hc => ?_) (h2 := fun hc => ?_)))
          refine en_le _ (le_drop 10 (by simp only [nz, nf, nl, nb, nr, ng, nq, nu, reduceIte, Nat.reduceEqDiff, Nat.reduceAdd]; rfl) (by simp only [nz, nf, nl, nb, nr, ng, nq, nu, reduceIte, Nat.reduceEqDiff, Nat.reduceAdd]; rfl)) ?_
          refine en_endm ([(4, 2, [.agg [.ref 5090 0 A.length, .ref 5096 0 B.length]])]) (hf := Tryz.results34) (hO := ?_) (hr := ?_)
          · rfl
          · rfl
end Go.Proofs.YtpcckakchpblcaaGreatDoor
