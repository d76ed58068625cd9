/- PruneLoop of the reference answers as the program's. For all loops and places. -/
import Derived.Test.YtmplelnodamedaaPrune
import Derived.Test.YtmplelnodamedaaReachS
namespace Go.Proofs.Ytmplelnodamedaa
open Eng
attribute [local irreducible] OpS OpG FC FCr Rel Fl Ef DR Fs
attribute [local simp] RV.fzR_names
set_option linter.unusedSimpArgs false
set_option maxHeartbeats 0
set_option maxRecDepth 100000

theorem l26Places_ok (W ps : List Int) (hd : W.Nodup) (hp : ∀ p ∈ ps, p ∈ W) (hW : W.length ≤ 1048576) (hl : ps.length ≤ 1048576) : FCr Try.prog 28 [RIs W, RIs ps] (OIs (plcs W ps)) := by
  refine (fcr_in Try.func28 rfl (by simp only [Try.ntmps28, anys, List.length_cons, List.length_nil, Nat.reduceAdd, Nat.reduceSub, List.replicate_succ, List.replicate_zero, List.cons_append, List.nil_append] <;> rfl) ?_)
  repeat' first
    | refine w_seq ?_
    | refine w_block ?_
    | refine rb_n ?_
    | refine rb_ret ?_
    | refine rb_eq ?_
    | refine rb_ne (by rfl) ?_
    | refine w_exit ?_
    | refine rt_exit ?_
    | refine w_region ?_
    | refine l_nil ?_
    | refine rt_n ?_
    | refine w_ret ?_
    | refine rt_ret ?_
    | refine w_skip ?_
    | refine w_cond_t rfl ?_
    | refine w_cond_f rfl ?_
    | refine w_cnd rfl (fun hc => ?_) (fun hc => ?_)
    | refine w_cd rfl (fun hc => ?_) (fun hc => ?_)
    | refine w_cn rfl (fun hc => ?_) (fun hc => ?_)
    | refine w_cond rfl (fun hc => ?_) (fun hc => ?_)
    | (refine l_o ?_; first | refine l_eqnil rfl (by kernel_rfl) (by intro b; simp only [nz]; rfl) (fun b hb => ?_) | refine l_op (hk := ?_))
    | refine d_nil ?_
    | (refine d_o ?_; first | refine d_fl (hk := ?_) | refine d_ef (hk := ?_))
    | (refine w_o ?_; first | refine w_draw (id := 8) (fun _ => true) (fun k => [].contains k) [] 64 (by kernel_rfl) rfl (by kernel_rfl) (by simp [nm, nset, -List.map_take, -List.map_drop]) ?_)
  refine w_loopm (ι := Nat × List Int) (fun q => [(6, RVn q.1), (5, .ref 8 0 q.2.length), (7, .any), (8, .any)]) (fun q => [(8, 1, q.2.map RVi)]) (fun q => q.1 ≤ ps.length ∧ q.2.length = q.1 ∧ q.2 = plcs W (ps.take q.1)) (fun q => ps.length - q.1) (0, []) (h0 := ?_) (hs := ?_) (round := ?_)
  · exact ⟨by omega, rfl, rfl⟩
  · refine le_eq (by (repeat' first | exact .nil | refine .keep ?_ | refine .any ?_); first | done | fail) rfl rfl
  · intro ⟨i, out⟩ ⟨hi, hol, ho⟩
    dsimp only at hi hol ho ⊢
    by_cases hil : i < ps.length
    · have hpm := hp _ (List.getElem_mem hil)
      have hix := List.idxOf_lt_length_iff.2 hpm
      have hps := plcs_succ (W := W) hil
      have hiff := fun (k : Nat) (hk : k < W.length) => idx_iff hd hk hpm
      rw [← ho] at hps
      generalize W.idxOf ps[i] = x at *
      repeat' first
        | refine w_seq ?_
        | refine w_block ?_
        | refine rb_n ?_
        | refine rb_ret ?_
        | refine rb_eq ?_
        | refine rb_ne (by rfl) ?_
        | refine w_exit ?_
        | refine rt_exit ?_
        | refine w_region ?_
        | refine l_nil ?_
        | refine rt_n ?_
        | refine w_ret ?_
        | refine rt_ret ?_
        | refine w_skip ?_
        | refine w_cond_t rfl ?_
        | refine w_cond_f rfl ?_
        | refine w_cnd rfl (fun hc => ?_) (fun hc => ?_)
        | refine w_cd rfl (fun hc => ?_) (fun hc => ?_)
        | refine w_cn rfl (fun hc => ?_) (fun hc => ?_)
        | refine w_cond rfl (fun hc => ?_) (fun hc => ?_)
        | (exfalso; omega)
        | (refine l_o ?_; first | refine l_eqnil rfl (by kernel_rfl) (by intro b; simp only [nz]; rfl) (fun b hb => ?_) | refine l_op (hk := ?_))
        | refine d_nil ?_
        | (refine d_o ?_; first | refine d_fl (hk := ?_) | refine d_ef (hk := ?_))
        | (refine w_o ?_; first | refine w_draw (id := 8) (fun _ => true) (fun k => [].contains k) [] 64 (by kernel_rfl) rfl (by kernel_rfl) (by simp [nm, nset, -List.map_take, -List.map_drop]) ?_)
      refine w_loopm (ι := Nat × List Int) (fun q => [(7, RVn q.1), (5, .ref 8 0 q.2.length)]) (fun q => [(8, 1, q.2.map RVi)]) (fun q => q.1 ≤ W.length ∧ q.2.length ≤ i + 1 ∧ q.2 = (if x < q.1 then out ++ [((x : Nat) : Int)] else out)) (fun q => W.length - q.1) (0, out) (h0 := ?_) (hs := ?_) (round := ?_)
      · exact ⟨by omega, by dsimp only; omega, by simp⟩
      · refine le_eq (by (repeat' first | exact .nil | refine .keep ?_ | refine .any ?_); first | done | fail) rfl rfl
      · intro ⟨k, m⟩ ⟨hk, hml, hm⟩
        dsimp only at hk hml hm ⊢
        by_cases hkl : k < W.length
        · have hw := hiff k hkl
          by_cases hx : x = k
          · have he := hw.2 hx
            have hmo : m = out := by rw [hm, if_neg (by omega)]
            repeat' first
              | refine w_seq ?_
              | refine w_block ?_
              | refine rb_n ?_
              | refine rb_ret ?_
              | refine rb_eq ?_
              | refine rb_ne (by rfl) ?_
              | refine w_exit ?_
              | refine rt_exit ?_
              | refine w_region ?_
              | refine l_nil ?_
              | refine rt_n ?_
              | refine w_ret ?_
              | refine rt_ret ?_
              | refine w_skip ?_
              | refine w_cond_t rfl ?_
              | refine w_cond_f rfl ?_
              | refine w_cnd rfl (fun hc => ?_) (fun hc => ?_)
              | refine w_cd rfl (fun hc => ?_) (fun hc => ?_)
              | refine w_cn rfl (fun hc => ?_) (fun hc => ?_)
              | refine w_cond rfl (fun hc => ?_) (fun hc => ?_)
              | (exfalso; omega)
              | (refine l_o ?_; first | refine l_eqnil rfl (by kernel_rfl) (by intro b; simp only [nz]; rfl) (fun b hb => ?_) | refine l_op (hk := ?_))
              | refine d_nil ?_
              | (refine d_o ?_; first | refine d_fl (hk := ?_) | refine d_ef (hk := ?_))
              | (refine w_o ?_; first | refine w_draw (id := 8) (fun _ => true) (fun k => [].contains k) [] 64 (by kernel_rfl) rfl (by kernel_rfl) (by simp [nm, nset, -List.map_take, -List.map_drop]) ?_)
            refine rn_mk (k + 1, m ++ [((k : Nat) : Int)]) ?_ (by first | omega | (dsimp only; omega)) (le_eq (by (repeat' first | exact .nil | refine .keep ?_ | refine .any ?_); first | done | fail) rfl rfl)
            refine ⟨by dsimp only; omega, by dsimp only; rw [List.length_append, hmo]; simp; omega, ?_⟩
            dsimp only
            rw [if_pos (by omega), hmo, hx]
          · have he : W[k] ≠ ps[i] := fun e => hx (hw.1 e)
            repeat' first
              | refine w_seq ?_
              | refine w_block ?_
              | refine rb_n ?_
              | refine rb_ret ?_
              | refine rb_eq ?_
              | refine rb_ne (by rfl) ?_
              | refine w_exit ?_
              | refine rt_exit ?_
              | refine w_region ?_
              | refine l_nil ?_
              | refine rt_n ?_
              | refine w_ret ?_
              | refine rt_ret ?_
              | refine w_skip ?_
              | refine w_cond_t rfl ?_
              | refine w_cond_f rfl ?_
              | refine w_cnd rfl (fun hc => ?_) (fun hc => ?_)
              | refine w_cd rfl (fun hc => ?_) (fun hc => ?_)
              | refine w_cn rfl (fun hc => ?_) (fun hc => ?_)
              | refine w_cond rfl (fun hc => ?_) (fun hc => ?_)
              | (exfalso; omega)
              | (refine l_o ?_; first | refine l_eqnil rfl (by kernel_rfl) (by intro b; simp only [nz]; rfl) (fun b hb => ?_) | refine l_op (hk := ?_))
              | refine d_nil ?_
              | (refine d_o ?_; first | refine d_fl (hk := ?_) | refine d_ef (hk := ?_))
              | (refine w_o ?_; first | refine w_draw (id := 8) (fun _ => true) (fun k => [].contains k) [] 64 (by kernel_rfl) rfl (by kernel_rfl) (by simp [nm, nset, -List.map_take, -List.map_drop]) ?_)
            refine rn_mk (k + 1, m) ?_ (by first | omega | (dsimp only; omega)) (le_eq (by (repeat' first | exact .nil | refine .keep ?_ | refine .any ?_); first | done | fail) rfl rfl)
            refine ⟨by dsimp only; omega, hml, ?_⟩
            dsimp only
            rw [hm]
            by_cases hxk : x < k
            · rw [if_pos hxk, if_pos (by omega)]
            · rw [if_neg hxk, if_neg (by omega)]
        · obtain rfl : k = W.length := by omega
          rw [if_pos hix] at hm
          repeat' first
            | refine w_seq ?_
            | refine w_block ?_
            | refine rb_n ?_
            | refine rb_ret ?_
            | refine rb_eq ?_
            | refine rb_ne (by rfl) ?_
            | refine w_exit ?_
            | refine rt_exit ?_
            | refine w_region ?_
            | refine l_nil ?_
            | refine rt_n ?_
            | refine w_ret ?_
            | refine rt_ret ?_
            | refine w_skip ?_
            | refine w_cond_t rfl ?_
            | refine w_cond_f rfl ?_
            | refine w_cnd rfl (fun hc => ?_) (fun hc => ?_)
            | refine w_cd rfl (fun hc => ?_) (fun hc => ?_)
            | refine w_cn rfl (fun hc => ?_) (fun hc => ?_)
            | refine w_cond rfl (fun hc => ?_) (fun hc => ?_)
            | (exfalso; omega)
            | (refine l_o ?_; first | refine l_eqnil rfl (by kernel_rfl) (by intro b; simp only [nz]; rfl) (fun b hb => ?_) | refine l_op (hk := ?_))
            | refine d_nil ?_
            | (refine d_o ?_; first | refine d_fl (hk := ?_) | refine d_ef (hk := ?_))
            | (refine w_o ?_; first | refine w_draw (id := 8) (fun _ => true) (fun k => [].contains k) [] 64 (by kernel_rfl) rfl (by kernel_rfl) (by simp [nm, nset, -List.map_take, -List.map_drop]) ?_)
          refine rn_mk (i + 1, m) ?_ (by first | omega | (dsimp only; omega)) (le_eq (by (repeat' first | exact .nil | refine .keep ?_ | refine .any ?_); first | done | fail) rfl rfl)
          exact ⟨by dsimp only; omega, by dsimp only; rw [hm]; simp; omega, by dsimp only; rw [hm, hps]⟩
    · obtain rfl : i = ps.length := by omega
      rw [List.take_length] at ho
      rw [← ho]
      repeat' first
        | refine w_seq ?_
        | refine w_block ?_
        | refine rb_n ?_
        | refine rb_ret ?_
        | refine rb_eq ?_
        | refine rb_ne (by rfl) ?_
        | refine w_exit ?_
        | refine rt_exit ?_
        | refine w_region ?_
        | refine l_nil ?_
        | refine rt_n ?_
        | refine w_ret ?_
        | refine rt_ret ?_
        | refine w_skip ?_
        | refine w_cond_t rfl ?_
        | refine w_cond_f rfl ?_
        | refine w_cnd rfl (fun hc => ?_) (fun hc => ?_)
        | refine w_cd rfl (fun hc => ?_) (fun hc => ?_)
        | refine w_cn rfl (fun hc => ?_) (fun hc => ?_)
        | refine w_cond rfl (fun hc => ?_) (fun hc => ?_)
        | (exfalso; omega)
        | (refine l_o ?_; first | refine l_eqnil rfl (by kernel_rfl) (by intro b; simp only [nz]; rfl) (fun b hb => ?_) | refine l_op (hk := ?_))
        | refine d_nil ?_
        | (refine d_o ?_; first | refine d_fl (hk := ?_) | refine d_ef (hk := ?_))
        | (refine w_o ?_; first | refine w_draw (id := 8) (fun _ => true) (fun k => [].contains k) [] 64 (by kernel_rfl) rfl (by kernel_rfl) (by simp [nm, nset, -List.map_take, -List.map_drop]) ?_)
      refine en_end (hf := Try.results28) (hr := ?_); simp only [ne, nf, nl, nr, lget, reduceIte, Nat.reduceEqDiff]; first | rfl | refine congrArg RVb ?_ | refine congrArg RVi ?_ | skip
theorem specPrune_ok (L R : List (List Int)) (a : Int) : FCr Try.prog 9 [RLp L R, RVi a] (.tup [OLp (prA L R a) (prB L R a), RVn (prAt L R a), RVb (okAt L R a)]) := by
  have hA := l25At_ok L R a
  unfold prA prB prAt
  cases ho : okAt L R a with
  | false =>
    rw [ho] at hA
    have e : rch L R a = [] := by simp [rch, ho]
    rw [e]
    refine (fcr_in Try.func9 rfl (by simp only [Try.ntmps9, anys, List.length_cons, List.length_nil, Nat.reduceAdd, Nat.reduceSub, List.replicate_succ, List.replicate_zero, List.cons_append, List.nil_append] <;> rfl) ?_)
    repeat' first
      | refine w_seq ?_
      | refine w_block ?_
      | refine rb_n ?_
      | refine rb_ret ?_
      | refine rb_eq ?_
      | refine rb_ne (by rfl) ?_
      | refine w_exit ?_
      | refine rt_exit ?_
      | refine w_region ?_
      | refine l_nil ?_
      | refine rt_n ?_
      | refine w_ret ?_
      | refine rt_ret ?_
      | refine w_skip ?_
      | refine w_cond_t rfl ?_
      | refine w_cond_f rfl ?_
      | refine w_cnd rfl (fun hc => ?_) (fun hc => ?_)
      | refine w_cd rfl (fun hc => ?_) (fun hc => ?_)
      | refine w_cn rfl (fun hc => ?_) (fun hc => ?_)
      | refine w_cond rfl (fun hc => ?_) (fun hc => ?_)
      | (refine l_o ?_; first | refine l_op rfl (by first | (apply k_callf; first | exact ops_callf (hfc := hA) | fail) | fail) (hk := ?_) | refine l_op (hk := ?_))
      | refine d_nil ?_
      | (refine d_o ?_; first | refine d_fl (hk := ?_) | refine d_ef rfl (by first | exact .callf (hfc := hA) | fail) (hk := ?_) | refine d_ef (hk := ?_))
      | (refine w_o ?_; first | refine w_draw (id := 8) (fun _ => true) (fun k => [11, 12, 13, 15].contains k) [[], [], [], []] 64 (by kernel_rfl) rfl (by kernel_rfl) (by simp [nm, nset, -List.map_take, -List.map_drop]) ?_ | refine w_draw (id := 9) (fun _ => true) (fun k => [11, 12, 13, 15].contains k) [[], [], [], []] 64 (by kernel_rfl) rfl (by kernel_rfl) (by simp [nm, nset, -List.map_take, -List.map_drop]) ?_ | refine w_draw (id := 10) (fun _ => true) (fun k => [3, 4, 7].contains k) [[], [], []] 64 (by kernel_rfl) rfl (by kernel_rfl) (by simp [nm, nset, -List.map_take, -List.map_drop]) ?_)
    refine en_endn ([OLp [] [], RVn 0, RVb false]) (hf := Try.results9) (hr := ?_); simp only [ne]; first | rfl | skip
  | true =>
    rw [ho] at hA
    have hb := okAt_good ho
    have g := goodI hb.1
    have hgl := g.len
    have hgr := g.lenR
    have har : 0 ≤ a ∧ a < L.length := ⟨hb.2.1, hb.2.2⟩
    have hR := l26Reached_ok ho
    have hr : IsRch L R a (rch L R a) := by unfold rch; rw [ho]; exact rchL_is g har
    have e : rch L R a = rchL L R a := by unfold rch; rw [ho]; rfl
    rw [← e] at hR
    clear e
    generalize rch L R a = W at *
    have hd := si_nodup hr.1
    have hin : ∀ x ∈ W, 0 ≤ x ∧ x < L.length := fun x hx => reach_in g har ((hr.2 x).1 hx)
    have hWl := nodup_len hd hin
    have haW : a ∈ W := (hr.2 a).2 .base
    have hcl : ∀ x ∈ W, ∀ y ∈ sucI L R x, y ∈ W := fun x hx y hy => (hr.2 y).2 (.step ((hr.2 x).1 hx) hy)
    refine (fcr_in Try.func9 rfl (by simp only [Try.ntmps9, anys, List.length_cons, List.length_nil, Nat.reduceAdd, Nat.reduceSub, List.replicate_succ, List.replicate_zero, List.cons_append, List.nil_append] <;> rfl) ?_)
    repeat' first
      | refine w_seq ?_
      | refine w_block ?_
      | refine rb_n ?_
      | refine rb_ret ?_
      | refine rb_eq ?_
      | refine rb_ne (by rfl) ?_
      | refine w_exit ?_
      | refine rt_exit ?_
      | refine w_region ?_
      | refine l_nil ?_
      | refine rt_n ?_
      | refine w_ret ?_
      | refine rt_ret ?_
      | refine w_skip ?_
      | refine w_cond_t rfl ?_
      | refine w_cond_f rfl ?_
      | refine w_cnd rfl (fun hc => ?_) (fun hc => ?_)
      | refine w_cd rfl (fun hc => ?_) (fun hc => ?_)
      | refine w_cn rfl (fun hc => ?_) (fun hc => ?_)
      | refine w_cond rfl (fun hc => ?_) (fun hc => ?_)
      | (refine l_o ?_; first | refine l_op rfl (by first | (apply k_callf; first | exact ops_callf (hfc := hA) | exact ops_callf (hfc := hR) | fail) | fail) (hk := ?_) | refine l_op (hk := ?_))
      | refine d_nil ?_
      | (refine d_o ?_; first | refine d_fl (hk := ?_) | refine d_ef rfl (by first | exact .callf (hfc := hA) | exact .callf (hfc := hR) | fail) (hk := ?_) | refine d_ef (hk := ?_))
      | (refine w_o ?_; first | refine w_draw (id := 8) (fun _ => true) (fun k => [11, 12, 13, 15].contains k) [[], [], [], []] 64 (by kernel_rfl) rfl (by kernel_rfl) (by simp [nm, nset, -List.map_take, -List.map_drop]) ?_ | refine w_draw (id := 9) (fun _ => true) (fun k => [11, 12, 13, 15].contains k) [[], [], [], []] 64 (by kernel_rfl) rfl (by kernel_rfl) (by simp [nm, nset, -List.map_take, -List.map_drop]) ?_ | refine w_draw (id := 10) (fun _ => true) (fun k => [3, 4, 7].contains k) [[], [], []] 64 (by kernel_rfl) rfl (by kernel_rfl) (by simp [nm, nset, -List.map_take, -List.map_drop]) ?_)
    refine w_le _ (le_trans (le_nw 8 rfl (.agg (.now (k := 1) (by decide) (.now (k := 1) (by decide) .nil)) .nil) (by simp only [nz, nf, nl, nb, nr, ng, nq, nu, reduceIte, Nat.reduceEqDiff, Nat.reduceAdd]; rfl)) (le_trans (le_open 8 0 0 38 rfl rfl rfl (by simp [nm]) (by simp only [nz, nf, nl, nb, nr, ng, nq, nu, reduceIte, Nat.reduceEqDiff, Nat.reduceAdd]; rfl)) (le_open 8 0 1 53 rfl rfl rfl (by simp [nm]) (by simp only [nz, nf, nl, nb, nr, ng, nq, nu, reduceIte, Nat.reduceEqDiff, Nat.reduceAdd]; rfl)))) ?_
    refine w_loopm (ι := Nat × List (List Int) × List (List Int)) (fun q => [(9, RVn q.1)]) (fun q => [(53, 1, q.2.2.map OIs), (38, 1, q.2.1.map OIs), (8, 2, [.agg [.ref 38 0 q.2.1.length, .ref 53 0 q.2.2.length]]), (4, 2, [.agg [.v (.slice none 0 0), .v (.slice none 0 0)]]), (2, 2, [.agg [RIss L, RIss R]])]) (fun q => q.1 ≤ W.length ∧ q.2.1 = (W.take q.1).map (fun i => plcs W (L.getD i.toNat [])) ∧ q.2.2 = (W.take q.1).map (fun i => plcs W (R.getD i.toNat []))) (fun q => W.length - q.1) (0, [], []) (h0 := ?_) (hs := ?_) (round := ?_)
    · exact ⟨by omega, rfl, rfl⟩
    · refine le_eq (by (repeat' first | exact .nil | refine .keep ?_ | refine .any ?_); first | done | fail) rfl rfl
    · intro ⟨k, A, B⟩ ⟨hk2, hA2, hB2⟩
      dsimp only at hk2 hA2 hB2 ⊢
      have hAl : A.length = k := by rw [hA2]; simp; omega
      have hBl : B.length = k := by rw [hB2]; simp; omega
      by_cases hkl2 : k < W.length
      · have hx := hin _ (List.getElem_mem hkl2)
        have hx1 : W[k].toNat < L.length := by omega
        have hx2 : W[k].toNat < R.length := by omega
        have hsu : sucI L R W[k] = L[W[k].toNat] ++ R[W[k].toNat] := by unfold sucI; rw [gd hx1, gd hx2]
        have hy := hcl _ (List.getElem_mem hkl2)
        rw [hsu] at hy
        have hRA := l26Places_ok W L[W[k].toNat] hd (fun y h => hy y (List.mem_append_left _ h)) (by omega) (by have := g.lL _ (List.getElem_mem hx1); omega)
        have hRB := l26Places_ok W R[W[k].toNat] hd (fun y h => hy y (List.mem_append_right _ h)) (by omega) (by have := g.lR _ (List.getElem_mem hx2); omega)
        have sA := map_take (f := fun i => plcs W (L.getD i.toNat [])) hkl2
        have sB := map_take (f := fun i => plcs W (R.getD i.toNat [])) hkl2
        rw [gd hx1] at sA
        rw [gd hx2] at sB
        generalize plcs W L[W[k].toNat] = PA at *
        generalize plcs W R[W[k].toNat] = PB at *
        repeat' first
          | refine w_seq ?_
          | refine w_block ?_
          | refine rb_n ?_
          | refine rb_ret ?_
          | refine rb_eq ?_
          | refine rb_ne (by rfl) ?_
          | refine w_exit ?_
          | refine rt_exit ?_
          | refine w_region ?_
          | refine l_nil ?_
          | refine rt_n ?_
          | refine w_ret ?_
          | refine rt_ret ?_
          | refine w_skip ?_
          | refine w_cond_t rfl ?_
          | refine w_cond_f rfl ?_
          | refine w_cnd rfl (fun hc => ?_) (fun hc => ?_)
          | refine w_cd rfl (fun hc => ?_) (fun hc => ?_)
          | refine w_cn rfl (fun hc => ?_) (fun hc => ?_)
          | refine w_cond rfl (fun hc => ?_) (fun hc => ?_)
          | (exfalso; omega)
          | (refine l_o ?_; first | refine l_op rfl (by first | (apply k_callf; first | exact ops_callv (d := 36) (hfc := hRA) | exact ops_callv (d := 51) (hfc := hRB) | fail) | fail) (hk := ?_) | refine l_op (hk := ?_))
          | refine e_nil ?_
          | (refine e_o ?_; first | refine e_fl (hk := ?_) | refine e_ef rfl (by first | exact .callv (d := 36) (hfc := hRA) | exact .callv (d := 51) (hfc := hRB) | fail) (hk := ?_) | refine e_ef (hk := ?_))
          | (refine w_o ?_; first | refine w_drawS (id := 8) (rdP [(0,8),(1,8),(14,8),(3,2),(4,2)]) (fun k => [11, 12, 13, 15].contains k) [[36],[37],[138],[]] (by kernel_rfl) rfl (by kernel_rfl) (by simp [nm, nset, -List.map_take, -List.map_drop]) ?_ | refine w_drawS (id := 9) (rdP [(0,8),(1,8),(14,8),(3,2),(4,2)]) (fun k => [11, 12, 13, 15].contains k) [[51],[52],[153],[]] (by kernel_rfl) rfl (by kernel_rfl) (by simp [nm, nset, -List.map_take, -List.map_drop]) ?_ | refine w_drawS (id := 10) (rdP []) (fun k => [3, 4, 7].contains k) [[], [], []] (by kernel_rfl) rfl (by kernel_rfl) (by simp [nm, nset, -List.map_take, -List.map_drop]) ?_)
        refine rn_mk (k + 1, A ++ [PA], B ++ [PB]) ⟨by dsimp only; omega, by dsimp only; rw [sA, hA2], by dsimp only; rw [sB, hB2]⟩ (by dsimp only; omega) ?_
        refine le_trans (le_kill 38 (by simp only [nz, nf, nl, nb, nr, ng, nq, nu, reduceIte, Nat.reduceEqDiff, Nat.reduceAdd]; rfl)) (le_trans (le_kill 53 (by simp only [nz, nf, nl, nb, nr, ng, nq, nu, reduceIte, Nat.reduceEqDiff, Nat.reduceAdd]; rfl)) (le_trans (le_ren 138 38 (by decide) (by decide) (by simp [nm, ng, renL_id, -List.map_append, -List.map_take, -List.map_drop]) (by simp [nm, ng, renL_id, onames, -List.map_append, -List.map_take, -List.map_drop]) (by simp only [ng, nm, nu, renL_id, reduceIte, Nat.reduceEqDiff]; rfl) (by simp only [ng, nm, nu, renL_id, reduceIte, Nat.reduceEqDiff]; rfl)) (le_trans (le_ren 153 53 (by decide) (by decide) (by simp [nm, ng, renL_id, -List.map_append, -List.map_take, -List.map_drop]) (by simp [nm, ng, renL_id, onames, -List.map_append, -List.map_take, -List.map_drop]) (by simp only [ng, nm, nu, renL_id, reduceIte, Nat.reduceEqDiff]; rfl) (by simp only [ng, nm, nu, renL_id, reduceIte, Nat.reduceEqDiff]; rfl)) ?_)))
        refine le_eq (by (repeat' first | exact .nil | refine .keep ?_ | refine .any ?_); first | done | fail) rfl rfl
      · obtain rfl : k = W.length := by omega
        rw [List.take_length] at hA2 hB2
        have hP := l26Places_ok W [a] hd (fun y h => by rw [List.mem_singleton] at h; rw [h]; exact haW) (by omega) (by simp)
        have e : plcs W [a] = [((W.idxOf a : Nat) : Int)] := rfl
        rw [e] at hP
        rw [← hA2, ← hB2]
        repeat' first
          | refine w_seq ?_
          | refine w_block ?_
          | refine rb_n ?_
          | refine rb_ret ?_
          | refine rb_eq ?_
          | refine rb_ne (by rfl) ?_
          | refine w_exit ?_
          | refine rt_exit ?_
          | refine w_region ?_
          | refine l_nil ?_
          | refine rt_n ?_
          | refine w_ret ?_
          | refine rt_ret ?_
          | refine w_skip ?_
          | refine w_cond_t rfl ?_
          | refine w_cond_f rfl ?_
          | refine w_cnd rfl (fun hc => ?_) (fun hc => ?_)
          | refine w_cd rfl (fun hc => ?_) (fun hc => ?_)
          | refine w_cn rfl (fun hc => ?_) (fun hc => ?_)
          | refine w_cond rfl (fun hc => ?_) (fun hc => ?_)
          | (exfalso; omega)
          | (refine l_o ?_; first | refine l_op rfl (by first | (apply k_indexAddr; first | exact ops_idx_map (f := RVi) (l := [((W.idxOf a : Nat) : Int)]) (i := 0) rfl rfl (by simp) (by kernel_rfl) (by kernel_rfl) | fail) | (apply k_callf; first | exact ops_callf (d := 59) (hfc := hP) | fail) | fail) (hk := ?_) | refine l_op (hk := ?_))
          | refine e_nil ?_
          | (refine e_o ?_; first | refine e_fl rfl (by first | exact .pl (by first | (apply q_indexAddr; first | exact fs_idx_map (f := RVi) (l := [((W.idxOf a : Nat) : Int)]) (i := 0) rfl rfl (by simp) (by kernel_rfl) (by kernel_rfl) | fail) | (apply q_callf; first | exact fs_callf (d := 59) (hfc := hP) | fail) | fail) | fail) (hk := ?_) | refine e_fl (hk := ?_) | refine e_ef (hk := ?_))
          | (refine w_o ?_; first | refine w_drawS (id := 8) (rdP []) (fun k => [11, 12, 13, 15].contains k) [[], [], [], []] (by kernel_rfl) rfl (by kernel_rfl) (by simp [nm, nset, -List.map_take, -List.map_drop]) ?_ | refine w_drawS (id := 9) (rdP []) (fun k => [11, 12, 13, 15].contains k) [[], [], [], []] (by kernel_rfl) rfl (by kernel_rfl) (by simp [nm, nset, -List.map_take, -List.map_drop]) ?_ | refine w_drawS (id := 10) (rdP [(0,8)]) (fun k => [7].contains k) [[]] (by kernel_rfl) rfl (by kernel_rfl) (by simp [nm, nset, -List.map_take, -List.map_drop]) ?_)
        refine en_le _ (le_drop 8 (by simp only [nz, nf, nl, nb, nr, ng, nq, nu, reduceIte, Nat.reduceEqDiff, Nat.reduceAdd]; rfl) (by simp only [nz, nf, nl, nb, nr, ng, nq, nu, reduceIte, Nat.reduceEqDiff, Nat.reduceAdd]; rfl)) ?_
        refine en_endm ([(4, 2, [.agg [.ref 38 0 A.length, .ref 53 0 B.length]]), (2, 2, [.agg [RIss L, RIss R]])]) (hf := Try.results9) (hO := ?_) (hr := ?_)
        · rfl
        · rfl
end Go.Proofs.Ytmplelnodamedaa
