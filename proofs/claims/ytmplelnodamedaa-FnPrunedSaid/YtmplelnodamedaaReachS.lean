/- ReachedFrom of the reference answers as the program's. For all loops and places. -/
import Derived.Test.YtmplelnodamedaaPut
import Derived.Test.YtmplelnodamedaaReach
import Derived.Test.YtmplelnodamedaaStopLaw
namespace Go.Proofs.Ytmplelnodamedaa
open Eng
attribute [local irreducible] OpS OpG FC FCr Rel Fl Ef DR Fs
attribute [local simp] RV.fzR_names
set_option linter.unusedSimpArgs false
set_option maxHeartbeats 0
set_option maxRecDepth 100000

theorem put_len {n : Int} {l : List Int} (h : SI l) (hn : n ∉ l) : l.length < (putI n l).length := by
  have h1 : (n :: l).Nodup := List.nodup_cons.2 ⟨hn, si_nodup h⟩
  have h2 := h1.length_le_of_subset (l₂ := putI n l) fun y hy => (putI_iff n y l).2 (List.mem_cons.1 hy)
  rw [List.length_cons] at h2
  omega
theorem l26Reached_ok {L R : List (List Int)} {a : Int} (ho : okAt L R a = true) : FCr Try.prog 27 [RLp L R, RVi a] (OIs (rchL L R a)) := by
  have hb := okAt_good ho
  have g := goodI hb.1
  have hgl := g.len
  have hgr := g.lenR
  have har : 0 ≤ a ∧ a < L.length := ⟨hb.2.1, hb.2.2⟩
  have hr := rchL_is g har
  generalize rchL L R a = W at *
  refine (fcr_in Try.func27 rfl (by simp only [Try.ntmps27, anys, List.length_cons, List.length_nil, Nat.reduceAdd, Nat.reduceSub, List.replicate_succ, List.replicate_zero, List.cons_append, List.nil_append] <;> rfl) ?_)
  repeat' first
    | refine w_seq ?_
    | refine w_block ?_
    | refine rb_n ?_
    | refine rb_ret ?_
    | refine rb_eq ?_
    | refine rb_ne (by rfl) ?_
    | refine w_exit ?_
    | refine rt_exit ?_
    | refine w_region ?_
    | refine l_nil ?_
    | refine rt_n ?_
    | refine w_ret ?_
    | refine rt_ret ?_
    | refine w_skip ?_
    | refine w_cond_t rfl ?_
    | refine w_cond_f rfl ?_
    | refine w_cnd rfl (fun hc => ?_) (fun hc => ?_)
    | refine w_cd rfl (fun hc => ?_) (fun hc => ?_)
    | refine w_cn rfl (fun hc => ?_) (fun hc => ?_)
    | refine w_cond rfl (fun hc => ?_) (fun hc => ?_)
    | (refine l_o ?_; first | refine l_op (hk := ?_))
    | refine d_nil ?_
    | (refine d_o ?_; first | refine d_fl (hk := ?_) | refine d_ef (hk := ?_))
    | (refine w_o ?_; first | refine w_draw (id := 9) (fun _ => true) (fun k => [0, 6, 12].contains k) [[], [], []] 64 (by kernel_rfl) rfl (by kernel_rfl) (by simp [nm, nset, -List.map_take, -List.map_drop]) ?_)
  refine w_loopm (ι := List Int × Bool) (fun q => [(5, .ref 11 0 q.1.length), (6, RVb q.2), (7, .any), (8, .any), (9, .any), (11, .any)]) (fun q => [(11, 1, q.1.map RVi), (2, 2, [.agg [RIss L, RIss R]])]) (fun q => SI q.1 ∧ a ∈ q.1 ∧ (∀ x ∈ q.1, Reach L R a x) ∧ (q.2 = false → ∀ x ∈ q.1, ∀ y ∈ sucI L R x, y ∈ q.1)) (fun q => 2 * (L.length - q.1.length) + (if q.2 then 1 else 0)) ([a], true) (h0 := ?_) (hs := ?_) (round := ?_)
  · exact ⟨by simp [SI], by simp, by simpa using .base, fun h => by cases h⟩
  · refine le_eq (by (repeat' first | exact .nil | refine .keep ?_ | refine .any ?_); first | done | fail) rfl rfl
  · intro ⟨out, gr⟩ ⟨hsi, hal, hre, hcl⟩
    dsimp only at hsi hal hre hcl ⊢
    cases gr with
    | false =>
      have hW : out = W := isRch_eq ⟨hsi, fun x => ⟨hre x, reach_all hal (hcl rfl) x⟩⟩ hr
      rw [← hW]
      repeat' first
        | refine w_seq ?_
        | refine w_block ?_
        | refine rb_n ?_
        | refine rb_ret ?_
        | refine rb_eq ?_
        | refine rb_ne (by rfl) ?_
        | refine w_exit ?_
        | refine rt_exit ?_
        | refine w_region ?_
        | refine l_nil ?_
        | refine rt_n ?_
        | refine w_ret ?_
        | refine rt_ret ?_
        | refine w_skip ?_
        | refine w_cond_t rfl ?_
        | refine w_cond_f rfl ?_
        | refine w_cnd rfl (fun hc => ?_) (fun hc => ?_)
        | refine w_cd rfl (fun hc => ?_) (fun hc => ?_)
        | refine w_cn rfl (fun hc => ?_) (fun hc => ?_)
        | refine w_cond rfl (fun hc => ?_) (fun hc => ?_)
        | (refine l_o ?_; first | refine l_op (hk := ?_))
        | refine d_nil ?_
        | (refine d_o ?_; first | refine d_fl (hk := ?_) | refine d_ef (hk := ?_))
        | (refine w_o ?_; first | refine w_draw (id := 9) (fun _ => true) (fun k => [0, 6, 12].contains k) [[], [], []] 64 (by kernel_rfl) rfl (by kernel_rfl) (by simp [nm, nset, -List.map_take, -List.map_drop]) ?_)
      refine en_end (hf := Try.results27) (hr := ?_); simp only [ne, nf, nl, nr, lget, reduceIte, Nat.reduceEqDiff]; first | rfl | refine congrArg RVb ?_ | refine congrArg RVi ?_ | skip
    | true =>
      have hol := nodup_len (si_nodup hsi) fun x hx => reach_in g har (hre x hx)
      repeat' first
        | refine w_seq ?_
        | refine w_block ?_
        | refine rb_n ?_
        | refine rb_ret ?_
        | refine rb_eq ?_
        | refine rb_ne (by rfl) ?_
        | refine w_exit ?_
        | refine rt_exit ?_
        | refine w_region ?_
        | refine l_nil ?_
        | refine rt_n ?_
        | refine w_ret ?_
        | refine rt_ret ?_
        | refine w_skip ?_
        | refine w_cond_t rfl ?_
        | refine w_cond_f rfl ?_
        | refine w_cnd rfl (fun hc => ?_) (fun hc => ?_)
        | refine w_cd rfl (fun hc => ?_) (fun hc => ?_)
        | refine w_cn rfl (fun hc => ?_) (fun hc => ?_)
        | refine w_cond rfl (fun hc => ?_) (fun hc => ?_)
        | (refine l_o ?_; first | refine l_op (hk := ?_))
        | refine d_nil ?_
        | (refine d_o ?_; first | refine d_fl (hk := ?_) | refine d_ef (hk := ?_))
        | (refine w_o ?_; first | refine w_draw (id := 9) (fun _ => true) (fun k => [0, 6, 12].contains k) [[], [], []] 64 (by kernel_rfl) rfl (by kernel_rfl) (by simp [nm, nset, -List.map_take, -List.map_drop]) ?_)
      refine w_loopm (ι := Nat × List Int × Bool) (fun q => [(7, RVn q.1), (5, .ref 11 0 q.2.1.length), (6, RVb q.2.2), (8, .any), (9, .any)]) (fun q => [(11, 1, q.2.1.map RVi), (2, 2, [.agg [RIss L, RIss R]])]) (fun q => q.1 ≤ L.length ∧ SI q.2.1 ∧ a ∈ q.2.1 ∧ (∀ x ∈ q.2.1, Reach L R a x) ∧ (q.2.2 = false → q.2.1 = out ∧ ∀ i : Nat, i < q.1 → (i : Int) ∈ out → ∀ y ∈ sucI L R (i : Int), y ∈ out) ∧ (q.2.2 = true → out.length < q.2.1.length)) (fun q => L.length - q.1) (0, out, false) (h0 := ?_) (hs := ?_) (round := ?_)
      · exact ⟨by omega, hsi, hal, hre, fun _ => ⟨rfl, fun i h => by omega⟩, fun h => by cases h⟩
      · refine le_eq (by (repeat' first | exact .nil | refine .keep ?_ | refine .any ?_); first | done | fail) rfl rfl
      · intro ⟨i, l, gr⟩ ⟨hi, hsl, hal2, hrl, hf, ht⟩
        dsimp only at hi hsl hal2 hrl hf ht ⊢
        have hll := nodup_len (si_nodup hsl) fun x hx => reach_in g har (hrl x hx)
        by_cases hil : i < L.length
        · have hH := l1Has_ok l (i : Int)
          have hir : i < R.length := by omega
          by_cases hm : (i : Int) ∈ l
          · rw [decide_eq_true hm] at hH
            have hsu : sucI L R (i : Int) = L[i] ++ R[i] := by unfold sucI; rw [Int.toNat_natCast, gd hil, gd hir]
            have hSR : ∀ y ∈ sucI L R (i : Int), Reach L R a y := fun y hy => .step (hrl _ hm) hy
            have hl1 := g.lL _ (List.getElem_mem hil)
            have hl2 := g.lR _ (List.getElem_mem hir)
            repeat' first
              | refine w_seq ?_
              | refine w_block ?_
              | refine rb_n ?_
              | refine rb_ret ?_
              | refine rb_eq ?_
              | refine rb_ne (by rfl) ?_
              | refine w_exit ?_
              | refine rt_exit ?_
              | refine w_region ?_
              | refine l_nil ?_
              | refine rt_n ?_
              | refine w_ret ?_
              | refine rt_ret ?_
              | refine w_skip ?_
              | refine w_cond_t rfl ?_
              | refine w_cond_f rfl ?_
              | refine w_cnd rfl (fun hc => ?_) (fun hc => ?_)
              | refine w_cd rfl (fun hc => ?_) (fun hc => ?_)
              | refine w_cn rfl (fun hc => ?_) (fun hc => ?_)
              | refine w_cond rfl (fun hc => ?_) (fun hc => ?_)
              | (exfalso; omega)
              | (refine l_o ?_; first | refine l_op rfl (by first | (apply k_callf; first | exact ops_callz (hfc := hH) | fail) | fail) (hk := ?_) | refine l_op (hk := ?_))
              | refine e_nil ?_
              | (refine e_o ?_; first | refine e_fl (hk := ?_) | refine e_ef rfl (by first | exact .callz (hfc := hH) | fail) (hk := ?_) | refine e_ef (hk := ?_))
              | (refine w_o ?_; first | refine w_drawS (id := 9) (rdP [(1,2),(2,2),(7,2),(8,2)]) (fun k => [0, 6, 12, 13].contains k) [[24],[30],[36],[]] (by kernel_rfl) rfl (by kernel_rfl) (by simp [nm, nset, -List.map_take, -List.map_drop]) ?_)
            have hlS : (L[i] ++ R[i]).length ≤ 48 := by rw [List.length_append]; omega
            generalize hS : L[i] ++ R[i] = S at *
            rw [hsu] at hSR
            refine w_loopm (ι := Nat × List Int × Bool) (fun q => [(9, RVn q.1), (5, .ref 11 0 q.2.1.length), (6, RVb q.2.2), (20, .any)]) (fun q => [(36, 1, S.map RVi), (11, 1, q.2.1.map RVi), (2, 2, [.agg [RIss L, RIss R]])]) (fun q => q.1 ≤ S.length ∧ SI q.2.1 ∧ a ∈ q.2.1 ∧ (∀ x ∈ q.2.1, Reach L R a x) ∧ (q.2.2 = false → q.2.1 = out ∧ (∀ i' : Nat, i' < i → (i' : Int) ∈ out → ∀ y ∈ sucI L R (i' : Int), y ∈ out) ∧ ∀ j (h : j < S.length), j < q.1 → S[j] ∈ out) ∧ (q.2.2 = true → out.length < q.2.1.length)) (fun q => S.length - q.1) (0, l, gr) (h0 := ?_) (hs := ?_) (round := ?_)
            · exact ⟨by omega, hsl, hal2, hrl, fun h => ⟨(hf h).1, (hf h).2, fun j _ h => by omega⟩, ht⟩
            · refine le_eq (by (repeat' first | exact .nil | refine .keep ?_ | refine .any ?_); first | done | fail) rfl rfl
            · intro ⟨j, m, gr2⟩ ⟨hj, hsm, ham, hrm, hfm, htm⟩
              dsimp only at hj hsm ham hrm hfm htm ⊢
              have hml := nodup_len (si_nodup hsm) fun x hx => reach_in g har (hrm x hx)
              by_cases hjl : j < S.length
              · have hK := l1Has_ok m S[j]
                by_cases hc2 : S[j] ∈ m
                · rw [decide_eq_true hc2] at hK
                  repeat' first
                    | refine w_seq ?_
                    | refine w_block ?_
                    | refine rb_n ?_
                    | refine rb_ret ?_
                    | refine rb_eq ?_
                    | refine rb_ne (by rfl) ?_
                    | refine w_exit ?_
                    | refine rt_exit ?_
                    | refine w_region ?_
                    | refine l_nil ?_
                    | refine rt_n ?_
                    | refine w_ret ?_
                    | refine rt_ret ?_
                    | refine w_skip ?_
                    | refine w_cond_t rfl ?_
                    | refine w_cond_f rfl ?_
                    | refine w_cnd rfl (fun hc => ?_) (fun hc => ?_)
                    | refine w_cd rfl (fun hc => ?_) (fun hc => ?_)
                    | refine w_cn rfl (fun hc => ?_) (fun hc => ?_)
                    | refine w_cond rfl (fun hc => ?_) (fun hc => ?_)
                    | (exfalso; omega)
                    | (refine l_o ?_; first | refine l_op rfl (by first | (apply k_callf; first | exact ops_callz (hfc := hK) | fail) | fail) (hk := ?_) | refine l_op (hk := ?_))
                    | refine d_nil ?_
                    | (refine d_o ?_; first | refine d_fl (hk := ?_) | refine d_ef rfl (by first | exact .callz (hfc := hK) | fail) (hk := ?_) | refine d_ef (hk := ?_))
                    | (refine w_o ?_; first | refine w_draw (id := 9) (fun _ => true) (fun k => [0, 6, 12].contains k) [[], [], []] 64 (by kernel_rfl) rfl (by kernel_rfl) (by simp [nm, nset, -List.map_take, -List.map_drop]) ?_)
                  refine rn_mk (j + 1, m, gr2) ?_ (by first | omega | (dsimp only; omega)) (le_eq (by (repeat' first | exact .nil | refine .keep ?_ | refine .any ?_); first | done | fail) rfl rfl)
                  refine ⟨by dsimp only; omega, hsm, ham, hrm, fun h => ?_, htm⟩
                  obtain ⟨h1, h2, h3⟩ := hfm h
                  refine ⟨h1, h2, fun p hp hpj => ?_⟩
                  dsimp only at hpj
                  by_cases hpj2 : p < j
                  · exact h3 p hp hpj2
                  · obtain rfl : p = j := by omega
                    rw [← h1]; exact hc2
                · rw [decide_eq_false hc2] at hK
                  have hpl := put_len hsm hc2
                  have hP := l1Put_ok m S[j] (by omega)
                  repeat' first
                    | refine w_seq ?_
                    | refine w_block ?_
                    | refine rb_n ?_
                    | refine rb_ret ?_
                    | refine rb_eq ?_
                    | refine rb_ne (by rfl) ?_
                    | refine w_exit ?_
                    | refine rt_exit ?_
                    | refine w_region ?_
                    | refine l_nil ?_
                    | refine rt_n ?_
                    | refine w_ret ?_
                    | refine rt_ret ?_
                    | refine w_skip ?_
                    | refine w_cond_t rfl ?_
                    | refine w_cond_f rfl ?_
                    | refine w_cnd rfl (fun hc => ?_) (fun hc => ?_)
                    | refine w_cd rfl (fun hc => ?_) (fun hc => ?_)
                    | refine w_cn rfl (fun hc => ?_) (fun hc => ?_)
                    | refine w_cond rfl (fun hc => ?_) (fun hc => ?_)
                    | (exfalso; omega)
                    | (refine l_o ?_; first | refine l_op rfl (by first | (apply k_callf; first | exact ops_callG (d := 55) [11] [11] ([]) (hfc := hP) | exact ops_callz (hfc := hK) | fail) | fail) (hk := ?_) | refine l_op (hk := ?_))
                    | refine d_nil ?_
                    | (refine d_o ?_; first | refine d_fl (hk := ?_) | refine d_ef rfl (by first | exact .callG (d := 55) [11] ([]) (hfc := hP) | exact .callz (hfc := hK) | fail) (hk := ?_) | refine d_ef (hk := ?_))
                    | (refine w_o ?_; first | refine w_draw (id := 9) (fun _ => true) (fun k => [0, 6, 12].contains k) [[], [], []] 64 (by kernel_rfl) rfl (by kernel_rfl) (by simp [nm, nset, -List.map_take, -List.map_drop]) ?_)
                  refine rn_mk (j + 1, putI S[j] m, true) ⟨by dsimp only; omega, putI_si hsm, (putI_iff _ _ _).2 (.inr ham), fun x hx => ?_, fun h => (by cases h), fun _ => ?_⟩ (by dsimp only; omega) (le_trans (le_kill 11 (by simp only [nz, nf, nl, nb, nr, ng, nq, nu, reduceIte, Nat.reduceEqDiff, Nat.reduceAdd]; rfl)) (le_trans (le_ren 55 11 (by decide) (by decide) (by simp [nm, ng, renL_id, -List.map_append, -List.map_take, -List.map_drop]) (by simp [nm, ng, renL_id, onames, -List.map_append, -List.map_take, -List.map_drop]) (by simp only [ng, nm, nu, renL_id, reduceIte, Nat.reduceEqDiff]; rfl) (by simp only [ng, nm, nu, renL_id, reduceIte, Nat.reduceEqDiff]; rfl)) (le_trans (le_perm [36, 11, 2] rfl rfl) (le_eq (by (repeat' first | exact .nil | refine .keep ?_ | refine .any ?_); first | done | fail) rfl rfl))))
                  · rcases (putI_iff _ _ _).1 hx with h | h
                    · rw [h]; exact hSR _ (List.getElem_mem hjl)
                    · exact hrm x h
                  · dsimp only
                    cases gr2 with
                    | false => rw [← (hfm rfl).1]; exact hpl
                    | true => have := htm rfl; omega
              · obtain rfl : j = S.length := by omega
                repeat' first
                  | refine w_seq ?_
                  | refine w_block ?_
                  | refine rb_n ?_
                  | refine rb_ret ?_
                  | refine rb_eq ?_
                  | refine rb_ne (by rfl) ?_
                  | refine w_exit ?_
                  | refine rt_exit ?_
                  | refine w_region ?_
                  | refine l_nil ?_
                  | refine rt_n ?_
                  | refine w_ret ?_
                  | refine rt_ret ?_
                  | refine w_skip ?_
                  | refine w_cond_t rfl ?_
                  | refine w_cond_f rfl ?_
                  | refine w_cnd rfl (fun hc => ?_) (fun hc => ?_)
                  | refine w_cd rfl (fun hc => ?_) (fun hc => ?_)
                  | refine w_cn rfl (fun hc => ?_) (fun hc => ?_)
                  | refine w_cond rfl (fun hc => ?_) (fun hc => ?_)
                  | (exfalso; omega)
                  | (refine l_o ?_; first | refine l_op (hk := ?_))
                  | refine d_nil ?_
                  | (refine d_o ?_; first | refine d_fl (hk := ?_) | refine d_ef (hk := ?_))
                  | (refine w_o ?_; first | refine w_draw (id := 9) (fun _ => true) (fun k => [0, 6, 12].contains k) [[], [], []] 64 (by kernel_rfl) rfl (by kernel_rfl) (by simp [nm, nset, -List.map_take, -List.map_drop]) ?_)
                refine rn_mk (i + 1, m, gr2) ?_ (by first | omega | (dsimp only; omega)) (le_dropd 36 (by simp only [nz]; rfl) (by simp only [nz, reduceIte, Nat.reduceEqDiff] <;> rfl) (le_eq (by (repeat' first | exact .nil | refine .keep ?_ | refine .any ?_); first | done | fail) rfl rfl))
                refine ⟨by dsimp only; omega, hsm, ham, hrm, fun h => ?_, htm⟩
                obtain ⟨h1, h2, h3⟩ := hfm h
                refine ⟨h1, fun p hp hpm y hy => ?_⟩
                dsimp only at hp
                by_cases hpi : p < i
                · exact h2 p hpi hpm y hy
                · obtain rfl : p = i := by omega
                  rw [hsu] at hy
                  obtain ⟨z, hz, rfl⟩ := List.getElem_of_mem hy
                  exact h3 z hz hz
          · rw [decide_eq_false hm] at hH
            repeat' first
              | refine w_seq ?_
              | refine w_block ?_
              | refine rb_n ?_
              | refine rb_ret ?_
              | refine rb_eq ?_
              | refine rb_ne (by rfl) ?_
              | refine w_exit ?_
              | refine rt_exit ?_
              | refine w_region ?_
              | refine l_nil ?_
              | refine rt_n ?_
              | refine w_ret ?_
              | refine rt_ret ?_
              | refine w_skip ?_
              | refine w_cond_t rfl ?_
              | refine w_cond_f rfl ?_
              | refine w_cnd rfl (fun hc => ?_) (fun hc => ?_)
              | refine w_cd rfl (fun hc => ?_) (fun hc => ?_)
              | refine w_cn rfl (fun hc => ?_) (fun hc => ?_)
              | refine w_cond rfl (fun hc => ?_) (fun hc => ?_)
              | (exfalso; omega)
              | (refine l_o ?_; first | refine l_op rfl (by first | (apply k_callf; first | exact ops_callz (hfc := hH) | fail) | fail) (hk := ?_) | refine l_op (hk := ?_))
              | refine d_nil ?_
              | (refine d_o ?_; first | refine d_fl (hk := ?_) | refine d_ef rfl (by first | exact .callz (hfc := hH) | fail) (hk := ?_) | refine d_ef (hk := ?_))
              | (refine w_o ?_; first | refine w_draw (id := 9) (fun _ => true) (fun k => [0, 6, 12].contains k) [[], [], []] 64 (by kernel_rfl) rfl (by kernel_rfl) (by simp [nm, nset, -List.map_take, -List.map_drop]) ?_)
            refine rn_mk (i + 1, l, gr) ?_ (by first | omega | (dsimp only; omega)) (le_eq (by (repeat' first | exact .nil | refine .keep ?_ | refine .any ?_); first | done | fail) rfl rfl)
            refine ⟨by dsimp only; omega, hsl, hal2, hrl, fun h => ?_, ht⟩
            obtain ⟨h1, h2⟩ := hf h
            refine ⟨h1, fun j hj hjm y hy => ?_⟩
            dsimp only at hj
            by_cases hji : j < i
            · exact h2 j hji hjm y hy
            · obtain rfl : j = i := by omega
              rw [h1] at hm
              exact absurd hjm hm
        · obtain rfl : i = L.length := by omega
          repeat' first
            | refine w_seq ?_
            | refine w_block ?_
            | refine rb_n ?_
            | refine rb_ret ?_
            | refine rb_eq ?_
            | refine rb_ne (by rfl) ?_
            | refine w_exit ?_
            | refine rt_exit ?_
            | refine w_region ?_
            | refine l_nil ?_
            | refine rt_n ?_
            | refine w_ret ?_
            | refine rt_ret ?_
            | refine w_skip ?_
            | refine w_cond_t rfl ?_
            | refine w_cond_f rfl ?_
            | refine w_cnd rfl (fun hc => ?_) (fun hc => ?_)
            | refine w_cd rfl (fun hc => ?_) (fun hc => ?_)
            | refine w_cn rfl (fun hc => ?_) (fun hc => ?_)
            | refine w_cond rfl (fun hc => ?_) (fun hc => ?_)
            | (exfalso; omega)
            | (refine l_o ?_; first | refine l_op (hk := ?_))
            | refine d_nil ?_
            | (refine d_o ?_; first | refine d_fl (hk := ?_) | refine d_ef (hk := ?_))
            | (refine w_o ?_; first | refine w_draw (id := 9) (fun _ => true) (fun k => [0, 6, 12].contains k) [[], [], []] 64 (by kernel_rfl) rfl (by kernel_rfl) (by simp [nm, nset, -List.map_take, -List.map_drop]) ?_)
          refine rn_mk (l, gr) ⟨hsl, hal2, hrl, fun h x hx y hy => ?_⟩ ?_ (by refine le_eq (by (repeat' first | exact .nil | refine .keep ?_ | refine .any ?_); first | done | fail) rfl rfl)
          · dsimp only at h hx ⊢
            obtain ⟨h1, h2⟩ := hf h
            rw [h1] at hx ⊢
            have hxb := reach_in g har (hre x hx)
            exact h2 x.toNat (by omega) (by rw [Int.toNat_of_nonneg hxb.1]; exact hx) y (by rw [Int.toNat_of_nonneg hxb.1]; exact hy)
          · dsimp only
            cases gr with
            | false => rw [(hf rfl).1]; simp
            | true => have := ht rfl; simp; omega
end Go.Proofs.Ytmplelnodamedaa
