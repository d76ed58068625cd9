/- JoinLoops of the reference answers as the program's. For all loops. -/
import Derived.Test.YtpcckakchpblcaaGreatDoorJoinI
import Derived.Test.YtpcckakchpblcaaGreatDoorPut
namespace Go.Proofs.YtpcckakchpblcaaGreatDoor
open Eng
attribute [local irreducible] OpS OpG FC FCr Rel Fl Ef DR Fs
attribute [local simp] RV.fzR_names
set_option linter.unusedSimpArgs false
set_option maxHeartbeats 0
set_option maxRecDepth 100000

theorem l25Both_ok (a b : List Int) (i k m : Nat) (hm : m ≤ 36) (hi : i ≤ 36) (hk : k ≤ 36) (ha : a.length ≤ 24) (hb : b.length ≤ 24) (ra : ∀ x ∈ a, 0 ≤ x ∧ x < 1000) (rb : ∀ y ∈ b, 0 ≤ y ∧ y < 1000) :
    FCr Tryz.prog 32 [RIs a, RIs b, RVn i, RVn k, RVn m] (OIs (putIs (a.map (fun x : Int => x * (m : Int) + (k : Int)) ++ b.map (fun y : Int => (i : Int) * (m : Int) + y)) [])) := by
  have him := mul_bd (x := (i : Int)) (m := m) (by omega) (by omega) hm
  refine (fcr_in Tryz.func32 rfl (by simp only [Tryz.ntmps32, anys, List.length_cons, List.length_nil, Nat.reduceAdd, Nat.reduceSub, List.replicate_succ, List.replicate_zero, List.cons_append, List.nil_append] <;> rfl) ?_)
  repeat' first
    | refine w_seq ?_
    | refine w_block ?_
    | refine rb_n ?_
    | refine rb_ret ?_
    | refine rb_eq ?_
    | refine rb_ne (by rfl) ?_
    | refine w_exit ?_
    | refine rt_exit ?_
    | refine w_region ?_
    | refine l_nil ?_
    | refine rt_n ?_
    | refine w_ret ?_
    | refine rt_ret ?_
    | refine w_skip ?_
    | refine w_cond_t rfl ?_
    | refine w_cond_f rfl ?_
    | refine w_cnd rfl (fun hc => ?_) (fun hc => ?_)
    | refine w_cd rfl (fun hc => ?_) (fun hc => ?_)
    | refine w_cn rfl (fun hc => ?_) (fun hc => ?_)
    | refine w_cond rfl (fun hc => ?_) (fun hc => ?_)
    | (refine l_o ?_; first | refine l_op (hk := ?_))
  refine w_le _ (le_ren 14 30 (by decide) (by decide) (by simp [nm, ng, renL_id, -List.map_append, -List.map_take, -List.map_drop]) (by simp [nm, ng, renL_id, onames, -List.map_append, -List.map_take, -List.map_drop]) (by simp only [ng, nm, nu, renL_id, reduceIte, Nat.reduceEqDiff]; rfl) (by simp only [ng, nm, nu, renL_id, reduceIte, Nat.reduceEqDiff]; rfl)) ?_
  refine w_loopm (ι := Nat × List Int) (fun q => [(12, RVn q.1), (11, .ref 30 0 q.2.length), (14, .any)]) (fun q => [(30, 1, q.2.map RVi)]) (fun q => q.1 ≤ a.length ∧ q.2.length ≤ q.1 ∧ putIs ((a.drop q.1).map (fun x : Int => x * (m : Int) + (k : Int)) ++ b.map (fun y : Int => (i : Int) * (m : Int) + y)) q.2 = putIs (a.map (fun x : Int => x * (m : Int) + (k : Int)) ++ b.map (fun y : Int => (i : Int) * (m : Int) + y)) []) (fun q => a.length - q.1) (0, []) (h0 := ?_) (hs := ?_) (round := ?_)
  · exact ⟨by omega, by simp, rfl⟩
  · refine le_eq (by (repeat' first | exact .nil | refine .keep ?_ | refine .any ?_); first | done | fail) rfl rfl
  · intro ⟨x, out⟩ ⟨hx, hol, hg⟩
    dsimp only at hx hol hg ⊢
    by_cases hxl : x < a.length
    · have hr := ra _ (List.getElem_mem hxl)
      have hxm := mul_bd (x := a[x]) (m := m) hr.1 (by omega) hm
      have hP := l1Put_ok out (a[x] * (m : Int) + (k : Int)) (by omega)
      have hpl := putI_len (a[x] * (m : Int) + (k : Int)) out
      rw [List.drop_eq_getElem_cons hxl, List.map_cons, List.cons_append, putIs] at hg
      generalize putI (a[x] * (m : Int) + (k : Int)) out = o2 at *
      repeat' first
        | refine w_seq ?_
        | refine w_block ?_
        | refine rb_n ?_
        | refine rb_ret ?_
        | refine rb_eq ?_
        | refine rb_ne (by rfl) ?_
        | refine w_exit ?_
        | refine rt_exit ?_
        | refine w_region ?_
        | refine l_nil ?_
        | refine rt_n ?_
        | refine w_ret ?_
        | refine rt_ret ?_
        | refine w_skip ?_
        | refine w_cond_t rfl ?_
        | refine w_cond_f rfl ?_
        | refine w_cnd rfl (fun hc => ?_) (fun hc => ?_)
        | refine w_cd rfl (fun hc => ?_) (fun hc => ?_)
        | refine w_cn rfl (fun hc => ?_) (fun hc => ?_)
        | refine w_cond rfl (fun hc => ?_) (fun hc => ?_)
        | (exfalso; omega)
        | (refine l_o ?_; first | refine l_op rfl (by first | (apply k_mul; first | exact ops_mul (m := a[x]) (n := (m : Int)) rfl rfl (by omega) (by omega) | fail) | (apply k_add; first | exact ops_add (m := a[x] * (m : Int)) (n := (k : Int)) rfl rfl (by omega) (by omega) | fail) | (apply k_callf; first | exact ops_callG (d := 30) [30] [30] ([]) (hfc := hP) | fail) | fail) (hk := ?_) | refine l_op (hk := ?_))
      refine rn_mk (x + 1, o2) ?_ (by first | omega | (dsimp only; omega)) (le_eq (by (repeat' first | exact .nil | refine .keep ?_ | refine .any ?_); first | done | fail) rfl rfl)
      exact ⟨by dsimp only; omega, by dsimp only; omega, hg⟩
    · obtain rfl : x = a.length := by omega
      rw [List.drop_eq_nil_of_le (Nat.le_refl _), List.map_nil, List.nil_append] at hg
      repeat' first
        | refine w_seq ?_
        | refine w_block ?_
        | refine rb_n ?_
        | refine rb_ret ?_
        | refine rb_eq ?_
        | refine rb_ne (by rfl) ?_
        | refine w_exit ?_
        | refine rt_exit ?_
        | refine w_region ?_
        | refine l_nil ?_
        | refine rt_n ?_
        | refine w_ret ?_
        | refine rt_ret ?_
        | refine w_skip ?_
        | refine w_cond_t rfl ?_
        | refine w_cond_f rfl ?_
        | refine w_cnd rfl (fun hc => ?_) (fun hc => ?_)
        | refine w_cd rfl (fun hc => ?_) (fun hc => ?_)
        | refine w_cn rfl (fun hc => ?_) (fun hc => ?_)
        | refine w_cond rfl (fun hc => ?_) (fun hc => ?_)
        | (exfalso; omega)
        | (refine l_o ?_; first | refine l_op (hk := ?_))
      refine w_le _ (le_ren 30 46 (by decide) (by decide) (by simp [nm, ng, renL_id, -List.map_append, -List.map_take, -List.map_drop]) (by simp [nm, ng, renL_id, onames, -List.map_append, -List.map_take, -List.map_drop]) (by simp only [ng, nm, nu, renL_id, reduceIte, Nat.reduceEqDiff]; rfl) (by simp only [ng, nm, nu, renL_id, reduceIte, Nat.reduceEqDiff]; rfl)) ?_
      refine w_loopm (ι := Nat × List Int) (fun q => [(13, RVn q.1), (11, .ref 46 0 q.2.length), (30, .any), (21, .any)]) (fun q => [(46, 1, q.2.map RVi)]) (fun q => q.1 ≤ b.length ∧ q.2.length ≤ a.length + q.1 ∧ putIs ((b.drop q.1).map (fun y : Int => (i : Int) * (m : Int) + y)) q.2 = putIs (a.map (fun x : Int => x * (m : Int) + (k : Int)) ++ b.map (fun y : Int => (i : Int) * (m : Int) + y)) []) (fun q => b.length - q.1) (0, out) (h0 := ?_) (hs := ?_) (round := ?_)
      · exact ⟨by omega, by dsimp only; omega, hg⟩
      · refine le_eq (by (repeat' first | exact .nil | refine .keep ?_ | refine .any ?_); first | done | fail) rfl rfl
      · intro ⟨x, out⟩ ⟨hx, hol, hg⟩
        dsimp only at hx hol hg ⊢
        by_cases hxl : x < b.length
        · have hr := rb _ (List.getElem_mem hxl)
          have hP := l1Put_ok out ((i : Int) * (m : Int) + b[x]) (by omega)
          have hpl := putI_len ((i : Int) * (m : Int) + b[x]) out
          rw [List.drop_eq_getElem_cons hxl, List.map_cons, putIs] at hg
          generalize putI ((i : Int) * (m : Int) + b[x]) out = o2 at *
          repeat' first
            | refine w_seq ?_
            | refine w_block ?_
            | refine rb_n ?_
            | refine rb_ret ?_
            | refine rb_eq ?_
            | refine rb_ne (by rfl) ?_
            | refine w_exit ?_
            | refine rt_exit ?_
            | refine w_region ?_
            | refine l_nil ?_
            | refine rt_n ?_
            | refine w_ret ?_
            | refine rt_ret ?_
            | refine w_skip ?_
            | refine w_cond_t rfl ?_
            | refine w_cond_f rfl ?_
            | refine w_cnd rfl (fun hc => ?_) (fun hc => ?_)
            | refine w_cd rfl (fun hc => ?_) (fun hc => ?_)
            | refine w_cn rfl (fun hc => ?_) (fun hc => ?_)
            | refine w_cond rfl (fun hc => ?_) (fun hc => ?_)
            | (exfalso; omega)
            | (refine l_o ?_; first | refine l_op rfl (by first | (apply k_mul; first | exact ops_mul (m := (i : Int)) (n := (m : Int)) rfl rfl (by omega) (by omega) | fail) | (apply k_add; first | exact ops_add (m := (i : Int) * (m : Int)) (n := b[x]) rfl rfl (by omega) (by omega) | fail) | (apply k_callf; first | exact ops_callG (d := 46) [46] [46] ([]) (hfc := hP) | fail) | fail) (hk := ?_) | refine l_op (hk := ?_))
          refine rn_mk (x + 1, o2) ?_ (by first | omega | (dsimp only; omega)) (le_eq (by (repeat' first | exact .nil | refine .keep ?_ | refine .any ?_); first | done | fail) rfl rfl)
          exact ⟨by dsimp only; omega, by dsimp only; omega, hg⟩
        · obtain rfl : x = b.length := by omega
          rw [List.drop_eq_nil_of_le (Nat.le_refl _), List.map_nil, putIs] at hg
          rw [← hg]
          repeat' first
            | refine w_seq ?_
            | refine w_block ?_
            | refine rb_n ?_
            | refine rb_ret ?_
            | refine rb_eq ?_
            | refine rb_ne (by rfl) ?_
            | refine w_exit ?_
            | refine rt_exit ?_
            | refine w_region ?_
            | refine l_nil ?_
            | refine rt_n ?_
            | refine w_ret ?_
            | refine rt_ret ?_
            | refine w_skip ?_
            | refine w_cond_t rfl ?_
            | refine w_cond_f rfl ?_
            | refine w_cnd rfl (fun hc => ?_) (fun hc => ?_)
            | refine w_cd rfl (fun hc => ?_) (fun hc => ?_)
            | refine w_cn rfl (fun hc => ?_) (fun hc => ?_)
            | refine w_cond rfl (fun hc => ?_) (fun hc => ?_)
            | (exfalso; omega)
            | (refine l_o ?_; first | refine l_op (hk := ?_))
          refine en_end (hf := Tryz.results32) (hr := ?_); simp only [ne, nf, nl, nr, lget, reduceIte, Nat.reduceEqDiff]; first | rfl | refine congrArg RVb ?_ | refine congrArg RVi ?_ | skip
theorem both_at (A B : List (List Int)) (i k : Nat) (hi : i < A.length) (hk : k < B.length) (la : A.length ≤ 36) (lb : B.length ≤ 36) (n : Nat) (hn : n ≤ 36) (hA : InI n A) (hB : InI B.length B) (rA : ∀ l ∈ A, l.length ≤ 24) (rB : ∀ l ∈ B, l.length ≤ 24) :
    FCr Tryz.prog 32 [RIs A[i], RIs B[k], RVn i, RVn k, RVn B.length] (OIs (jnAt A B B.length i k)) := by
  have h := l25Both_ok A[i] B[k] i k B.length lb (by omega) (by omega) (rA _ (List.getElem_mem hi)) (rB _ (List.getElem_mem hk)) (fun x hx => by have := hA _ (List.getElem_mem hi) x hx; omega) (fun y hy => by have := hB _ (List.getElem_mem hk) y hy; omega)
  rw [putIs_dd] at h
  have e : jnAt A B B.length i k = dd (srtI (A[i].map (fun x : Int => x * (B.length : Int) + (k : Int)) ++ B[k].map (fun y : Int => (i : Int) * (B.length : Int) + y))) := by rw [jnAt, bothL, gd hi, gd hk]
  rw [e]; exact h
theorem specJoin_ok (gL gR hL hR : List (List Int)) : FCr Tryz.prog 12 [RLp gL gR, RLp hL hR] (.tup [OLp (joA gL gR hL hR) (joB gL gR hL hR), RVb (joOk gL gR hL hR)]) := by
  have h1 := specGood_ok gL gR
  have h2 := specGood_ok hL hR
  cases e1 : goodLp gL gR with
  | false =>
    have ho : joOk gL gR hL hR = false := by simp [joOk, e1]
    obtain ⟨a, b⟩ := jo_no ho
    rw [ho, a, b]
    rw [e1] at h1
    refine (fcr_in Tryz.func12 rfl (by simp only [Tryz.ntmps12, anys, List.length_cons, List.length_nil, Nat.reduceAdd, Nat.reduceSub, List.replicate_succ, List.replicate_zero, List.cons_append, List.nil_append] <;> rfl) ?_)
    repeat' first
      | refine w_seq ?_
      | refine w_block ?_
      | refine rb_n ?_
      | refine rb_ret ?_
      | refine rb_eq ?_
      | refine rb_ne (by rfl) ?_
      | refine w_exit ?_
      | refine rt_exit ?_
      | refine w_region ?_
      | refine l_nil ?_
      | refine rt_n ?_
      | refine w_ret ?_
      | refine rt_ret ?_
      | refine w_skip ?_
      | refine w_cond_t rfl ?_
      | refine w_cond_f rfl ?_
      | refine w_cnd rfl (fun hc => ?_) (fun hc => ?_)
      | refine w_cd rfl (fun hc => ?_) (fun hc => ?_)
      | refine w_cn rfl (fun hc => ?_) (fun hc => ?_)
      | refine w_cond rfl (fun hc => ?_) (fun hc => ?_)
      | (exfalso; exact absurd rfl hc)
      | (refine l_o ?_; first | refine l_op rfl (by first | (apply k_callf; first | exact ops_callf (d := 11) (hfc := h1) | fail) | fail) (hk := ?_) | refine l_op (hk := ?_) | (refine l_g ?_; first | refine l_y rfl rfl rfl ?_ | refine l_n rfl rfl rfl rfl (hk := ?_) | refine l_n' rfl rfl rfl (hk := ?_) | refine l_spnd rfl rfl rfl (h1 := fun hc => ?_) (h2 := fun hc => ?_) | refine l_spd rfl rfl rfl (h1 := fun hc => ?_) (h2 := fun hc => ?_) | refine l_spn rfl rfl rfl (h1 := fun hc => ?_) (h2 := fun hc => ?_) | refine l_sp rfl rfl rfl (h1 := fun hc => ?_) (h2 := fun hc => ?_)))
      | refine d_nil ?_
      | (refine d_o ?_; first | refine d_fl (hk := ?_) | refine d_ef rfl (by first | exact .callf (d := 11) (hfc := h1) | exact .callfY (d := 11) (hfc := h1) | fail) (hk := ?_) | refine d_ef (hk := ?_) | (refine d_g ?_; first | refine d_spnd rfl rfl rfl (h1 := fun hc => ?_) (h2 := fun hc => ?_) | refine d_spd rfl rfl rfl (h1 := fun hc => ?_) (h2 := fun hc => ?_) | refine d_spn rfl rfl rfl (h1 := fun hc => ?_) (h2 := fun hc => ?_) | refine d_sp rfl rfl rfl (h1 := fun hc => ?_) (h2 := fun hc => ?_)))
      | (refine w_o ?_; first | refine w_draw (id := 11) (fun _ => true) (fun k => [15, 16, 17, 19].contains k) [[], [], [], []] 64 (by kernel_rfl) rfl (by kernel_rfl) (by simp [nm, nset, -List.map_take, -List.map_drop]) ?_ | refine w_draw (id := 12) (fun _ => true) (fun k => [15, 16, 17, 19].contains k) [[], [], [], []] 64 (by kernel_rfl) rfl (by kernel_rfl) (by simp [nm, nset, -List.map_take, -List.map_drop]) ?_)
    refine en_endn ([OLp [] [], RVb false]) (hf := Tryz.results12) (hr := ?_); simp only [ne]; first | rfl | skip
  | true =>
    rw [e1] at h1
    cases e2 : goodLp hL hR with
    | false =>
      have ho : joOk gL gR hL hR = false := by simp [joOk, e2]
      obtain ⟨a, b⟩ := jo_no ho
      rw [ho, a, b]
      rw [e2] at h2
      refine (fcr_in Tryz.func12 rfl (by simp only [Tryz.ntmps12, anys, List.length_cons, List.length_nil, Nat.reduceAdd, Nat.reduceSub, List.replicate_succ, List.replicate_zero, List.cons_append, List.nil_append] <;> rfl) ?_)
      repeat' first
        | refine w_seq ?_
        | refine w_block ?_
        | refine rb_n ?_
        | refine rb_ret ?_
        | refine rb_eq ?_
        | refine rb_ne (by rfl) ?_
        | refine w_exit ?_
        | refine rt_exit ?_
        | refine w_region ?_
        | refine l_nil ?_
        | refine rt_n ?_
        | refine w_ret ?_
        | refine rt_ret ?_
        | refine w_skip ?_
        | refine w_cond_t rfl ?_
        | refine w_cond_f rfl ?_
        | refine w_cnd rfl (fun hc => ?_) (fun hc => ?_)
        | refine w_cd rfl (fun hc => ?_) (fun hc => ?_)
        | refine w_cn rfl (fun hc => ?_) (fun hc => ?_)
        | refine w_cond rfl (fun hc => ?_) (fun hc => ?_)
        | (exfalso; exact absurd rfl hc)
        | (refine l_o ?_; first | refine l_op rfl (by first | (apply k_callf; first | exact ops_callf (d := 11) (hfc := h1) | exact ops_callf (d := 15) (hfc := h2) | fail) | fail) (hk := ?_) | refine l_op (hk := ?_) | (refine l_g ?_; first | refine l_y rfl rfl rfl ?_ | refine l_n rfl rfl rfl rfl (hk := ?_) | refine l_n' rfl rfl rfl (hk := ?_) | refine l_spnd rfl rfl rfl (h1 := fun hc => ?_) (h2 := fun hc => ?_) | refine l_spd rfl rfl rfl (h1 := fun hc => ?_) (h2 := fun hc => ?_) | refine l_spn rfl rfl rfl (h1 := fun hc => ?_) (h2 := fun hc => ?_) | refine l_sp rfl rfl rfl (h1 := fun hc => ?_) (h2 := fun hc => ?_)))
        | refine d_nil ?_
        | (refine d_o ?_; first | refine d_fl (hk := ?_) | refine d_ef rfl (by first | exact .callf (d := 11) (hfc := h1) | exact .callf (d := 15) (hfc := h2) | exact .callfY (d := 11) (hfc := h1) | exact .callfY (d := 15) (hfc := h2) | fail) (hk := ?_) | refine d_ef (hk := ?_) | (refine d_g ?_; first | refine d_spnd rfl rfl rfl (h1 := fun hc => ?_) (h2 := fun hc => ?_) | refine d_spd rfl rfl rfl (h1 := fun hc => ?_) (h2 := fun hc => ?_) | refine d_spn rfl rfl rfl (h1 := fun hc => ?_) (h2 := fun hc => ?_) | refine d_sp rfl rfl rfl (h1 := fun hc => ?_) (h2 := fun hc => ?_)))
        | (refine w_o ?_; first | refine w_draw (id := 11) (fun _ => true) (fun k => [15, 16, 17, 19].contains k) [[], [], [], []] 64 (by kernel_rfl) rfl (by kernel_rfl) (by simp [nm, nset, -List.map_take, -List.map_drop]) ?_ | refine w_draw (id := 12) (fun _ => true) (fun k => [15, 16, 17, 19].contains k) [[], [], [], []] 64 (by kernel_rfl) rfl (by kernel_rfl) (by simp [nm, nset, -List.map_take, -List.map_drop]) ?_)
      refine en_endn ([OLp [] [], RVb false]) (hf := Tryz.results12) (hr := ?_); simp only [ne]; first | rfl | skip
    | true =>
      rw [e2] at h2
      have g := goodI e1
      have h := goodI e2
      have gl := g.len
      have hl := h.len
      have gR' := g.lenR
      have hR' := h.lenR
      have hb : gL.length * hL.length ≤ 1296 := Nat.le_trans (Nat.mul_le_mul gl hl) (Nat.le_refl _)
      by_cases hm : gL.length * hL.length ≤ 36
      · have hG := specGood_ok (jn gL hL) (jn gR hR)
        have hbA := fun i k (hi : i < gL.length) (hk : k < hL.length) => both_at gL hL i k hi hk gl hl gL.length gl g.inL h.inL g.lL h.lL
        have hbB := fun i k (hi : i < gR.length) (hk : k < hR.length) => both_at gR hR i k hi hk (by rw [gR']; exact gl) (by rw [hR']; exact hl) gL.length gl g.inR (by rw [hR']; exact h.inR) g.lR h.lR
        have hlen : ∀ i, i ≤ gL.length → i * hL.length ≤ 36 := fun i hi => Nat.le_trans (Nat.mul_le_mul_right _ hi) hm
        obtain ⟨u, w, hu, hw⟩ : ∃ u w, u = jn gL hL ∧ w = jn gR hR := ⟨_, _, rfl, rfl⟩
        rw [← hu, ← hw] at hG
        have ho : joOk gL gR hL hR = goodLp u w := by simp [joOk, e1, e2, hm, hu, hw]
        generalize hgo : goodLp u w = G at *
        have hres : OLp (joA gL gR hL hR) (joB gL gR hL hR) = OLp (if G = true then u else []) (if G = true then w else []) := by unfold joA joB; rw [ho, hu, hw]
        rw [hres, ho]
        clear hres ho
        refine (fcr_in Tryz.func12 rfl (by simp only [Tryz.ntmps12, anys, List.length_cons, List.length_nil, Nat.reduceAdd, Nat.reduceSub, List.replicate_succ, List.replicate_zero, List.cons_append, List.nil_append] <;> rfl) ?_)
        repeat' first
          | refine w_seq ?_
          | refine w_block ?_
          | refine rb_n ?_
          | refine rb_ret ?_
          | refine rb_eq ?_
          | refine rb_ne (by rfl) ?_
          | refine w_exit ?_
          | refine rt_exit ?_
          | refine w_region ?_
          | refine l_nil ?_
          | refine rt_n ?_
          | refine w_ret ?_
          | refine rt_ret ?_
          | refine w_skip ?_
          | refine w_cond_t rfl ?_
          | refine w_cond_f rfl ?_
          | refine w_cnd rfl (fun hc => ?_) (fun hc => ?_)
          | refine w_cd rfl (fun hc => ?_) (fun hc => ?_)
          | refine w_cn rfl (fun hc => ?_) (fun hc => ?_)
          | refine w_cond rfl (fun hc => ?_) (fun hc => ?_)
          | (exfalso; omega)
          | (refine l_o ?_; first | refine l_op rfl (by first | (apply k_mul; first | exact ops_muln (m := gL.length) (n := hL.length) rfl rfl (by omega) | fail) | (apply k_callf; first | exact ops_callf (d := 11) (hfc := h1) | exact ops_callf (d := 15) (hfc := h2) | fail) | fail) (hk := ?_) | refine l_op (hk := ?_) | (refine l_g ?_; first | refine l_y rfl rfl rfl ?_ | refine l_n rfl rfl rfl rfl (hk := ?_) | refine l_n' rfl rfl rfl (hk := ?_) | refine l_spnd rfl rfl rfl (h1 := fun hc => ?_) (h2 := fun hc => ?_) | refine l_spd rfl rfl rfl (h1 := fun hc => ?_) (h2 := fun hc => ?_) | refine l_spn rfl rfl rfl (h1 := fun hc => ?_) (h2 := fun hc => ?_) | refine l_sp rfl rfl rfl (h1 := fun hc => ?_) (h2 := fun hc => ?_)))
          | refine d_nil ?_
          | (refine d_o ?_; first | refine d_fl rfl (by first | exact .pl (by first | (apply q_mul; first | exact fs_muln (m := gL.length) (n := hL.length) rfl rfl (by omega) | fail) | fail) | exact .ye rfl rfl rfl (by first | (apply q_mul; first | exact fs_muln (m := gL.length) (n := hL.length) rfl rfl (by omega) | fail) | fail) | fail) (hk := ?_) | refine d_fl (hk := ?_) | refine d_ef rfl (by first | exact .callf (d := 11) (hfc := h1) | exact .callf (d := 15) (hfc := h2) | exact .callfY (d := 11) (hfc := h1) | exact .callfY (d := 15) (hfc := h2) | fail) (hk := ?_) | refine d_ef (hk := ?_) | (refine d_g ?_; first | refine d_spnd rfl rfl rfl (h1 := fun hc => ?_) (h2 := fun hc => ?_) | refine d_spd rfl rfl rfl (h1 := fun hc => ?_) (h2 := fun hc => ?_) | refine d_spn rfl rfl rfl (h1 := fun hc => ?_) (h2 := fun hc => ?_) | refine d_sp rfl rfl rfl (h1 := fun hc => ?_) (h2 := fun hc => ?_)))
          | (refine w_o ?_; first | refine w_draw (id := 11) (fun _ => true) (fun k => [15, 16, 17, 19].contains k) [[], [], [], []] 64 (by kernel_rfl) rfl (by kernel_rfl) (by simp [nm, nset, -List.map_take, -List.map_drop]) ?_ | refine w_draw (id := 12) (fun _ => true) (fun k => [15, 16, 17, 19].contains k) [[], [], [], []] 64 (by kernel_rfl) rfl (by kernel_rfl) (by simp [nm, nset, -List.map_take, -List.map_drop]) ?_)
        refine w_le _ (le_trans (le_nw 6 rfl (.agg (.now (k := 1) (by decide) (.now (k := 1) (by decide) .nil)) .nil) (by simp only [nz, nf, nl, nb, nr, ng, nq, nu, reduceIte, Nat.reduceEqDiff, Nat.reduceAdd]; rfl)) (le_trans (le_open 6 0 0 62 rfl rfl rfl (by simp [nm]) (by simp only [nz, nf, nl, nb, nr, ng, nq, nu, reduceIte, Nat.reduceEqDiff, Nat.reduceAdd]; rfl)) (le_open 6 0 1 81 rfl rfl rfl (by simp [nm]) (by simp only [nz, nf, nl, nb, nr, ng, nq, nu, reduceIte, Nat.reduceEqDiff, Nat.reduceAdd]; rfl)))) ?_
        refine w_loopm (ι := Nat × List (List Int) × List (List Int)) (fun q => [(8, RVn q.1), (9, .any)]) (fun q => [(81, 1, q.2.2.map OIs), (62, 1, q.2.1.map OIs), (6, 2, [.agg [.ref 62 0 q.2.1.length, .ref 81 0 q.2.2.length]]), (4, 2, [.agg [.v (.slice none 0 0), .v (.slice none 0 0)]]), (3, 2, [.agg [RIss hL, RIss hR]]), (2, 2, [.agg [RIss gL, RIss gR]])]) (fun q => q.1 ≤ gL.length ∧ q.2.1 = jnTo gL hL q.1 ∧ q.2.2 = jnTo gR hR q.1) (fun q => gL.length - q.1) (0, [], []) (h0 := ?_) (hs := ?_) (round := ?_)
        · exact ⟨by omega, rfl, rfl⟩
        · refine le_eq (by (repeat' first | exact .nil | refine .keep ?_ | refine .any ?_); first | done | fail) rfl rfl
        · intro ⟨i, A, B⟩ ⟨hi, hA, hB⟩
          dsimp only at hi hA hB ⊢
          have hAl : A.length = i * hL.length := by rw [hA, jnTo_len]
          have hBl : B.length = i * hL.length := by rw [hB, jnTo_len, hR']
          have hil36 := hlen i hi
          by_cases hil : i < gL.length
          · repeat' first
              | refine w_seq ?_
              | refine w_block ?_
              | refine rb_n ?_
              | refine rb_ret ?_
              | refine rb_eq ?_
              | refine rb_ne (by rfl) ?_
              | refine w_exit ?_
              | refine rt_exit ?_
              | refine w_region ?_
              | refine l_nil ?_
              | refine rt_n ?_
              | refine w_ret ?_
              | refine rt_ret ?_
              | refine w_skip ?_
              | refine w_cond_t rfl ?_
              | refine w_cond_f rfl ?_
              | refine w_cnd rfl (fun hc => ?_) (fun hc => ?_)
              | refine w_cd rfl (fun hc => ?_) (fun hc => ?_)
              | refine w_cn rfl (fun hc => ?_) (fun hc => ?_)
              | refine w_cond rfl (fun hc => ?_) (fun hc => ?_)
              | (exfalso; omega)
              | (refine l_o ?_; first | refine l_op (hk := ?_) | (refine l_g ?_; first | refine l_y rfl rfl rfl ?_ | refine l_n rfl rfl rfl rfl (hk := ?_) | refine l_n' rfl rfl rfl (hk := ?_) | refine l_spnd rfl rfl rfl (h1 := fun hc => ?_) (h2 := fun hc => ?_) | refine l_spd rfl rfl rfl (h1 := fun hc => ?_) (h2 := fun hc => ?_) | refine l_spn rfl rfl rfl (h1 := fun hc => ?_) (h2 := fun hc => ?_) | refine l_sp rfl rfl rfl (h1 := fun hc => ?_) (h2 := fun hc => ?_)))
              | refine d_nil ?_
              | (refine d_o ?_; first | refine d_fl (hk := ?_) | refine d_ef (hk := ?_) | (refine d_g ?_; first | refine d_spnd rfl rfl rfl (h1 := fun hc => ?_) (h2 := fun hc => ?_) | refine d_spd rfl rfl rfl (h1 := fun hc => ?_) (h2 := fun hc => ?_) | refine d_spn rfl rfl rfl (h1 := fun hc => ?_) (h2 := fun hc => ?_) | refine d_sp rfl rfl rfl (h1 := fun hc => ?_) (h2 := fun hc => ?_)))
              | (refine w_o ?_; first | refine w_draw (id := 11) (fun _ => true) (fun k => [15, 16, 17, 19].contains k) [[], [], [], []] 64 (by kernel_rfl) rfl (by kernel_rfl) (by simp [nm, nset, -List.map_take, -List.map_drop]) ?_ | refine w_draw (id := 12) (fun _ => true) (fun k => [15, 16, 17, 19].contains k) [[], [], [], []] 64 (by kernel_rfl) rfl (by kernel_rfl) (by simp [nm, nset, -List.map_take, -List.map_drop]) ?_)
            refine w_loopm (ι := Nat × List (List Int) × List (List Int)) (fun q => [(9, RVn q.1)]) (fun q => [(81, 1, q.2.2.map OIs), (62, 1, q.2.1.map OIs), (6, 2, [.agg [.ref 62 0 q.2.1.length, .ref 81 0 q.2.2.length]]), (4, 2, [.agg [.v (.slice none 0 0), .v (.slice none 0 0)]]), (3, 2, [.agg [RIss hL, RIss hR]]), (2, 2, [.agg [RIss gL, RIss gR]])]) (fun q => q.1 ≤ hL.length ∧ q.2.1 = A ++ (List.range q.1).map (jnAt gL hL hL.length i) ∧ q.2.2 = B ++ (List.range q.1).map (jnAt gR hR hR.length i)) (fun q => hL.length - q.1) (0, A, B) (h0 := ?_) (hs := ?_) (round := ?_)
            · exact ⟨by omega, by simp, by simp⟩
            · refine le_eq (by (repeat' first | exact .nil | refine .keep ?_ | refine .any ?_); first | done | fail) rfl rfl
            · intro ⟨k, A2, B2⟩ ⟨hk, hA2, hB2⟩
              dsimp only at hk hA2 hB2 ⊢
              have hA2l : A2.length = i * hL.length + k := by rw [hA2]; simp [hAl]
              have hB2l : B2.length = i * hL.length + k := by rw [hB2]; simp [hBl]
              by_cases hkl : k < hL.length
              · have i1 : i < gR.length := by omega
                have i2 : k < hR.length := by omega
                have hPA := hbA i k hil hkl
                have hPB := hbB i k i1 i2
                have sA : A2 ++ [jnAt gL hL hL.length i k] = A ++ (List.range (k + 1)).map (jnAt gL hL hL.length i) := by rw [hA2, List.range_succ, List.map_append, List.append_assoc]; rfl
                have sB : B2 ++ [jnAt gR hR hR.length i k] = B ++ (List.range (k + 1)).map (jnAt gR hR hR.length i) := by rw [hB2, List.range_succ, List.map_append, List.append_assoc]; rfl
                generalize jnAt gL hL hL.length i k = PA at *
                generalize jnAt gR hR hR.length i k = PB at *
                rw [hR'] at hPB
                repeat' first
                  | refine w_seq ?_
                  | refine w_block ?_
                  | refine rb_n ?_
                  | refine rb_ret ?_
                  | refine rb_eq ?_
                  | refine rb_ne (by rfl) ?_
                  | refine w_exit ?_
                  | refine rt_exit ?_
                  | refine w_region ?_
                  | refine l_nil ?_
                  | refine rt_n ?_
                  | refine w_ret ?_
                  | refine rt_ret ?_
                  | refine w_skip ?_
                  | refine w_cond_t rfl ?_
                  | refine w_cond_f rfl ?_
                  | refine w_cnd rfl (fun hc => ?_) (fun hc => ?_)
                  | refine w_cd rfl (fun hc => ?_) (fun hc => ?_)
                  | refine w_cn rfl (fun hc => ?_) (fun hc => ?_)
                  | refine w_cond rfl (fun hc => ?_) (fun hc => ?_)
                  | (exfalso; omega)
                  | (refine l_o ?_; first | refine l_op rfl (by first | (apply k_callf; first | exact ops_callv (d := 60) (hfc := hPA) | exact ops_callv (d := 79) (hfc := hPB) | fail) | fail) (hk := ?_) | refine l_op (hk := ?_) | (refine l_g ?_; first | refine l_y rfl rfl rfl ?_ | refine l_n rfl rfl rfl rfl (hk := ?_) | refine l_n' rfl rfl rfl (hk := ?_) | refine l_spnd rfl rfl rfl (h1 := fun hc => ?_) (h2 := fun hc => ?_) | refine l_spd rfl rfl rfl (h1 := fun hc => ?_) (h2 := fun hc => ?_) | refine l_spn rfl rfl rfl (h1 := fun hc => ?_) (h2 := fun hc => ?_) | refine l_sp rfl rfl rfl (h1 := fun hc => ?_) (h2 := fun hc => ?_)))
                  | refine e_nil ?_
                  | (refine e_o ?_; first | refine e_fl (hk := ?_) | refine e_ef rfl (by first | exact .callv (d := 60) (hfc := hPA) | exact .callv (d := 79) (hfc := hPB) | exact .callvY (d := 60) (hfc := hPA) | exact .callvY (d := 79) (hfc := hPB) | fail) (hk := ?_) | refine e_ef (hk := ?_) | (refine e_g ?_; first | refine e_spnd rfl rfl rfl (h1 := fun hc => ?_) (h2 := fun hc => ?_) | refine e_spd rfl rfl rfl (h1 := fun hc => ?_) (h2 := fun hc => ?_) | refine e_spn rfl rfl rfl (h1 := fun hc => ?_) (h2 := fun hc => ?_) | refine e_sp rfl rfl rfl (h1 := fun hc => ?_) (h2 := fun hc => ?_)))
                  | (refine w_o ?_; first | refine w_drawS (id := 11) (rdP [(0,6),(1,6),(18,6),(2,2),(3,2),(7,3),(8,3)]) (fun k => [15, 16, 17, 19].contains k) [[60],[61],[162],[]] (by kernel_rfl) rfl (by kernel_rfl) (by simp [nm, nset, -List.map_take, -List.map_drop]) ?_ | refine w_drawS (id := 12) (rdP [(0,6),(1,6),(18,6),(2,2),(3,2),(7,3),(8,3)]) (fun k => [15, 16, 17, 19].contains k) [[79],[80],[181],[]] (by kernel_rfl) rfl (by kernel_rfl) (by simp [nm, nset, -List.map_take, -List.map_drop]) ?_)
                refine rn_mk (k + 1, A2 ++ [PA], B2 ++ [PB]) ⟨by dsimp only; omega, sA, sB⟩ (by dsimp only; omega) ?_
                refine le_trans (le_kill 62 (by simp only [nz, nf, nl, nb, nr, ng, nq, nu, reduceIte, Nat.reduceEqDiff, Nat.reduceAdd]; rfl)) (le_trans (le_kill 81 (by simp only [nz, nf, nl, nb, nr, ng, nq, nu, reduceIte, Nat.reduceEqDiff, Nat.reduceAdd]; rfl)) (le_trans (le_ren 162 62 (by decide) (by decide) (by simp [nm, ng, renL_id, -List.map_append, -List.map_take, -List.map_drop]) (by simp [nm, ng, renL_id, onames, -List.map_append, -List.map_take, -List.map_drop]) (by simp only [ng, nm, nu, renL_id, reduceIte, Nat.reduceEqDiff]; rfl) (by simp only [ng, nm, nu, renL_id, reduceIte, Nat.reduceEqDiff]; rfl)) (le_trans (le_ren 181 81 (by decide) (by decide) (by simp [nm, ng, renL_id, -List.map_append, -List.map_take, -List.map_drop]) (by simp [nm, ng, renL_id, onames, -List.map_append, -List.map_take, -List.map_drop]) (by simp only [ng, nm, nu, renL_id, reduceIte, Nat.reduceEqDiff]; rfl) (by simp only [ng, nm, nu, renL_id, reduceIte, Nat.reduceEqDiff]; rfl)) ?_)))
                refine le_eq (by (repeat' first | exact .nil | refine .keep ?_ | refine .any ?_); first | done | fail) rfl rfl
              · obtain rfl : k = hL.length := by omega
                repeat' first
                  | refine w_seq ?_
                  | refine w_block ?_
                  | refine rb_n ?_
                  | refine rb_ret ?_
                  | refine rb_eq ?_
                  | refine rb_ne (by rfl) ?_
                  | refine w_exit ?_
                  | refine rt_exit ?_
                  | refine w_region ?_
                  | refine l_nil ?_
                  | refine rt_n ?_
                  | refine w_ret ?_
                  | refine rt_ret ?_
                  | refine w_skip ?_
                  | refine w_cond_t rfl ?_
                  | refine w_cond_f rfl ?_
                  | refine w_cnd rfl (fun hc => ?_) (fun hc => ?_)
                  | refine w_cd rfl (fun hc => ?_) (fun hc => ?_)
                  | refine w_cn rfl (fun hc => ?_) (fun hc => ?_)
                  | refine w_cond rfl (fun hc => ?_) (fun hc => ?_)
                  | (exfalso; omega)
                  | (refine l_o ?_; first | refine l_op (hk := ?_) | (refine l_g ?_; first | refine l_y rfl rfl rfl ?_ | refine l_n rfl rfl rfl rfl (hk := ?_) | refine l_n' rfl rfl rfl (hk := ?_) | refine l_spnd rfl rfl rfl (h1 := fun hc => ?_) (h2 := fun hc => ?_) | refine l_spd rfl rfl rfl (h1 := fun hc => ?_) (h2 := fun hc => ?_) | refine l_spn rfl rfl rfl (h1 := fun hc => ?_) (h2 := fun hc => ?_) | refine l_sp rfl rfl rfl (h1 := fun hc => ?_) (h2 := fun hc => ?_)))
                  | refine d_nil ?_
                  | (refine d_o ?_; first | refine d_fl (hk := ?_) | refine d_ef (hk := ?_) | (refine d_g ?_; first | refine d_spnd rfl rfl rfl (h1 := fun hc => ?_) (h2 := fun hc => ?_) | refine d_spd rfl rfl rfl (h1 := fun hc => ?_) (h2 := fun hc => ?_) | refine d_spn rfl rfl rfl (h1 := fun hc => ?_) (h2 := fun hc => ?_) | refine d_sp rfl rfl rfl (h1 := fun hc => ?_) (h2 := fun hc => ?_)))
                  | (refine w_o ?_; first | refine w_draw (id := 11) (fun _ => true) (fun k => [15, 16, 17, 19].contains k) [[], [], [], []] 64 (by kernel_rfl) rfl (by kernel_rfl) (by simp [nm, nset, -List.map_take, -List.map_drop]) ?_ | refine w_draw (id := 12) (fun _ => true) (fun k => [15, 16, 17, 19].contains k) [[], [], [], []] 64 (by kernel_rfl) rfl (by kernel_rfl) (by simp [nm, nset, -List.map_take, -List.map_drop]) ?_)
                refine rn_mk (i + 1, A2, B2) ?_ (by first | omega | (dsimp only; omega)) (le_eq (by (repeat' first | exact .nil | refine .keep ?_ | refine .any ?_); first | done | fail) rfl rfl)
                refine ⟨by dsimp only; omega, ?_, ?_⟩
                · dsimp only; rw [hA2, hA, jnTo_succ, jnRow]
                · dsimp only; rw [hB2, hB, jnTo_succ, jnRow, hR']
          · obtain rfl : i = gL.length := by omega
            have hAu : u = A := by rw [hu, hA, jn]
            have hBw : w = B := by rw [hw, hB, jn, gR']
            subst hAu hBw
            cases G with
            | false =>
              repeat' first
                | refine w_seq ?_
                | refine w_block ?_
                | refine rb_n ?_
                | refine rb_ret ?_
                | refine rb_eq ?_
                | refine rb_ne (by rfl) ?_
                | refine w_exit ?_
                | refine rt_exit ?_
                | refine w_region ?_
                | refine l_nil ?_
                | refine rt_n ?_
                | refine w_ret ?_
                | refine rt_ret ?_
                | refine w_skip ?_
                | refine w_cond_t rfl ?_
                | refine w_cond_f rfl ?_
                | refine w_cnd rfl (fun hc => ?_) (fun hc => ?_)
                | refine w_cd rfl (fun hc => ?_) (fun hc => ?_)
                | refine w_cn rfl (fun hc => ?_) (fun hc => ?_)
                | refine w_cond rfl (fun hc => ?_) (fun hc => ?_)
                | (exfalso; omega)
                | (exfalso; exact absurd rfl hc)
                | (refine l_o ?_; first | refine l_op rfl (by first | (apply k_callf; first | exact ops_callz (d := 84) (hfc := hG) | fail) | fail) (hk := ?_) | refine l_op (hk := ?_) | (refine l_g ?_; first | refine l_y rfl rfl rfl ?_ | refine l_n rfl rfl rfl rfl (hk := ?_) | refine l_n' rfl rfl rfl (hk := ?_) | refine l_spnd rfl rfl rfl (h1 := fun hc => ?_) (h2 := fun hc => ?_) | refine l_spd rfl rfl rfl (h1 := fun hc => ?_) (h2 := fun hc => ?_) | refine l_spn rfl rfl rfl (h1 := fun hc => ?_) (h2 := fun hc => ?_) | refine l_sp rfl rfl rfl (h1 := fun hc => ?_) (h2 := fun hc => ?_)))
                | refine d_nil ?_
                | (refine d_o ?_; first | refine d_fl (hk := ?_) | refine d_ef rfl (by first | exact .callz (d := 84) (hfc := hG) | exact .callzY (d := 84) (hfc := hG) | fail) (hk := ?_) | refine d_ef (hk := ?_) | (refine d_g ?_; first | refine d_spnd rfl rfl rfl (h1 := fun hc => ?_) (h2 := fun hc => ?_) | refine d_spd rfl rfl rfl (h1 := fun hc => ?_) (h2 := fun hc => ?_) | refine d_spn rfl rfl rfl (h1 := fun hc => ?_) (h2 := fun hc => ?_) | refine d_sp rfl rfl rfl (h1 := fun hc => ?_) (h2 := fun hc => ?_)))
                | (refine w_o ?_; first | refine w_draw (id := 11) (fun _ => true) (fun k => [15, 16, 17, 19].contains k) [[], [], [], []] 64 (by kernel_rfl) rfl (by kernel_rfl) (by simp [nm, nset, -List.map_take, -List.map_drop]) ?_ | refine w_draw (id := 12) (fun _ => true) (fun k => [15, 16, 17, 19].contains k) [[], [], [], []] 64 (by kernel_rfl) rfl (by kernel_rfl) (by simp [nm, nset, -List.map_take, -List.map_drop]) ?_)
              refine en_endn ([OLp [] [], RVb false]) (hf := Tryz.results12) (hr := ?_); simp only [ne]; first | rfl | skip
            | true =>
              repeat' first
                | refine w_seq ?_
                | refine w_block ?_
                | refine rb_n ?_
                | refine rb_ret ?_
                | refine rb_eq ?_
                | refine rb_ne (by rfl) ?_
                | refine w_exit ?_
                | refine rt_exit ?_
                | refine w_region ?_
                | refine l_nil ?_
                | refine rt_n ?_
                | refine w_ret ?_
                | refine rt_ret ?_
                | refine w_skip ?_
                | refine w_cond_t rfl ?_
                | refine w_cond_f rfl ?_
                | refine w_cnd rfl (fun hc => ?_) (fun hc => ?_)
                | refine w_cd rfl (fun hc => ?_) (fun hc => ?_)
                | refine w_cn rfl (fun hc => ?_) (fun hc => ?_)
                | refine w_cond rfl (fun hc => ?_) (fun hc => ?_)
                | (exfalso; omega)
                | (exfalso; exact absurd rfl hc)
                | (refine l_o ?_; first | refine l_op rfl (by first | (apply k_callf; first | exact ops_callz (d := 84) (hfc := hG) | fail) | fail) (hk := ?_) | refine l_op (hk := ?_) | (refine l_g ?_; first | refine l_y rfl rfl rfl ?_ | refine l_n rfl rfl rfl rfl (hk := ?_) | refine l_n' rfl rfl rfl (hk := ?_) | refine l_spnd rfl rfl rfl (h1 := fun hc => ?_) (h2 := fun hc => ?_) | refine l_spd rfl rfl rfl (h1 := fun hc => ?_) (h2 := fun hc => ?_) | refine l_spn rfl rfl rfl (h1 := fun hc => ?_) (h2 := fun hc => ?_) | refine l_sp rfl rfl rfl (h1 := fun hc => ?_) (h2 := fun hc => ?_)))
                | refine d_nil ?_
                | (refine d_o ?_; first | refine d_fl (hk := ?_) | refine d_ef rfl (by first | exact .callz (d := 84) (hfc := hG) | exact .callzY (d := 84) (hfc := hG) | fail) (hk := ?_) | refine d_ef (hk := ?_) | (refine d_g ?_; first | refine d_spnd rfl rfl rfl (h1 := fun hc => ?_) (h2 := fun hc => ?_) | refine d_spd rfl rfl rfl (h1 := fun hc => ?_) (h2 := fun hc => ?_) | refine d_spn rfl rfl rfl (h1 := fun hc => ?_) (h2 := fun hc => ?_) | refine d_sp rfl rfl rfl (h1 := fun hc => ?_) (h2 := fun hc => ?_)))
                | (refine w_o ?_; first | refine w_draw (id := 11) (fun _ => true) (fun k => [15, 16, 17, 19].contains k) [[], [], [], []] 64 (by kernel_rfl) rfl (by kernel_rfl) (by simp [nm, nset, -List.map_take, -List.map_drop]) ?_ | refine w_draw (id := 12) (fun _ => true) (fun k => [15, 16, 17, 19].contains k) [[], [], [], []] 64 (by kernel_rfl) rfl (by kernel_rfl) (by simp [nm, nset, -List.map_take, -List.map_drop]) ?_)
              refine en_le _ (le_drop 6 (by simp only [nz, nf, nl, nb, nr, ng, nq, nu, reduceIte, Nat.reduceEqDiff, Nat.reduceAdd]; rfl) (by simp only [nz, nf, nl, nb, nr, ng, nq, nu, reduceIte, Nat.reduceEqDiff, Nat.reduceAdd]; rfl)) ?_
              refine en_endm ([(4, 2, [.agg [.ref 62 0 u.length, .ref 81 0 w.length]]), (3, 2, [.agg [RIss hL, RIss hR]]), (2, 2, [.agg [RIss gL, RIss gR]])]) (hf := Tryz.results12) (hO := ?_) (hr := ?_)
              · rfl
              · rfl
      · have ho : joOk gL gR hL hR = false := by simp [joOk, hm]
        obtain ⟨a, b⟩ := jo_no ho
        rw [ho, a, b]
        refine (fcr_in Tryz.func12 rfl (by simp only [Tryz.ntmps12, anys, List.length_cons, List.length_nil, Nat.reduceAdd, Nat.reduceSub, List.replicate_succ, List.replicate_zero, List.cons_append, List.nil_append] <;> rfl) ?_)
        repeat' first
          | refine w_seq ?_
          | refine w_block ?_
          | refine rb_n ?_
          | refine rb_ret ?_
          | refine rb_eq ?_
          | refine rb_ne (by rfl) ?_
          | refine w_exit ?_
          | refine rt_exit ?_
          | refine w_region ?_
          | refine l_nil ?_
          | refine rt_n ?_
          | refine w_ret ?_
          | refine rt_ret ?_
          | refine w_skip ?_
          | refine w_cond_t rfl ?_
          | refine w_cond_f rfl ?_
          | refine w_cnd rfl (fun hc => ?_) (fun hc => ?_)
          | refine w_cd rfl (fun hc => ?_) (fun hc => ?_)
          | refine w_cn rfl (fun hc => ?_) (fun hc => ?_)
          | refine w_cond rfl (fun hc => ?_) (fun hc => ?_)
          | (exfalso; omega)
          | (refine l_o ?_; first | refine l_op rfl (by first | (apply k_mul; first | exact ops_muln (m := gL.length) (n := hL.length) rfl rfl (by omega) | fail) | (apply k_callf; first | exact ops_callf (d := 11) (hfc := h1) | exact ops_callf (d := 15) (hfc := h2) | fail) | fail) (hk := ?_) | refine l_op (hk := ?_) | (refine l_g ?_; first | refine l_y rfl rfl rfl ?_ | refine l_n rfl rfl rfl rfl (hk := ?_) | refine l_n' rfl rfl rfl (hk := ?_) | refine l_spnd rfl rfl rfl (h1 := fun hc => ?_) (h2 := fun hc => ?_) | refine l_spd rfl rfl rfl (h1 := fun hc => ?_) (h2 := fun hc => ?_) | refine l_spn rfl rfl rfl (h1 := fun hc => ?_) (h2 := fun hc => ?_) | refine l_sp rfl rfl rfl (h1 := fun hc => ?_) (h2 := fun hc => ?_)))
          | refine d_nil ?_
          | (refine d_o ?_; first | refine d_fl rfl (by first | exact .pl (by first | (apply q_mul; first | exact fs_muln (m := gL.length) (n := hL.length) rfl rfl (by omega) | fail) | fail) | exact .ye rfl rfl rfl (by first | (apply q_mul; first | exact fs_muln (m := gL.length) (n := hL.length) rfl rfl (by omega) | fail) | fail) | fail) (hk := ?_) | refine d_fl (hk := ?_) | refine d_ef rfl (by first | exact .callf (d := 11) (hfc := h1) | exact .callf (d := 15) (hfc := h2) | exact .callfY (d := 11) (hfc := h1) | exact .callfY (d := 15) (hfc := h2) | fail) (hk := ?_) | refine d_ef (hk := ?_) | (refine d_g ?_; first | refine d_spnd rfl rfl rfl (h1 := fun hc => ?_) (h2 := fun hc => ?_) | refine d_spd rfl rfl rfl (h1 := fun hc => ?_) (h2 := fun hc => ?_) | refine d_spn rfl rfl rfl (h1 := fun hc => ?_) (h2 := fun hc => ?_) | refine d_sp rfl rfl rfl (h1 := fun hc => ?_) (h2 := fun hc => ?_)))
          | (refine w_o ?_; first | refine w_draw (id := 11) (fun _ => true) (fun k => [15, 16, 17, 19].contains k) [[], [], [], []] 64 (by kernel_rfl) rfl (by kernel_rfl) (by simp [nm, nset, -List.map_take, -List.map_drop]) ?_ | refine w_draw (id := 12) (fun _ => true) (fun k => [15, 16, 17, 19].contains k) [[], [], [], []] 64 (by kernel_rfl) rfl (by kernel_rfl) (by simp [nm, nset, -List.map_take, -List.map_drop]) ?_)
        refine en_endn ([OLp [] [], RVb false]) (hf := Tryz.results12) (hr := ?_); simp only [ne]; first | rfl | skip
end Go.Proofs.YtpcckakchpblcaaGreatDoor
