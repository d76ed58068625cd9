/- PruneLoop of the program. For all loops and places. -/
import Derived.Test.YtmplelnodamedaaJ19
import Derived.Test.YtmplelnodamedaaReach
namespace Go.Proofs.Ytmplelnodamedaa
open Eng
attribute [local irreducible] OpS OpG FC FCr Rel Fl Ef DR Fs
attribute [local simp] RV.fzR_names
set_option linter.unusedSimpArgs false
set_option maxHeartbeats 0
set_option maxRecDepth 100000

theorem take_set {α : Type} {l : List α} {k : Nat} {v : α} (h : k < l.length) : (l.set k v).take (k + 1) = l.take k ++ [v] := by
  rw [List.take_succ_eq_append_getElem (by simpa using h), List.take_set_of_le (Nat.le_refl _), List.getElem_set_self]
theorem renamed_ok (ps nms : List Int) (h : ∀ x ∈ ps, 0 ≤ x ∧ x < nms.length) (hl : ps.length ≤ 1048576) : FCr Try.prog 25 [RIs ps, RIs nms] (OIs (ps.map fun x => nms.getD x.toNat 0)) := by
  refine (fcr_in Try.func25 rfl (by simp only [Try.ntmps25, anys, List.length_cons, List.length_nil, Nat.reduceAdd, Nat.reduceSub, List.replicate_succ, List.replicate_zero, List.cons_append, List.nil_append] <;> rfl) ?_)
  repeat' first
    | refine w_seq ?_
    | refine w_block ?_
    | refine rb_n ?_
    | refine rb_ret ?_
    | refine rb_eq ?_
    | refine rb_ne (by rfl) ?_
    | refine w_exit ?_
    | refine rt_exit ?_
    | refine w_region ?_
    | refine l_nil ?_
    | refine rt_n ?_
    | refine w_ret ?_
    | refine rt_ret ?_
    | refine w_skip ?_
    | refine w_cond_t rfl ?_
    | refine w_cond_f rfl ?_
    | refine w_cnd rfl (fun hc => ?_) (fun hc => ?_)
    | refine w_cd rfl (fun hc => ?_) (fun hc => ?_)
    | refine w_cn rfl (fun hc => ?_) (fun hc => ?_)
    | refine w_cond rfl (fun hc => ?_) (fun hc => ?_)
    | (refine l_o ?_; first | refine l_op (hk := ?_))
  refine w_loopm (ι := Nat × List Int) (fun q => [(13, RVn q.1), (6, .any), (7, .any)]) (fun q => [(10, 1, q.2.map RVi)]) (fun q => q.1 ≤ ps.length ∧ q.2.length = ps.length ∧ q.2.take q.1 = (ps.take q.1).map fun x => nms.getD x.toNat 0) (fun q => ps.length - q.1) (0, List.replicate ps.length 0) (h0 := ?_) (hs := ?_) (round := ?_)
  · simp
  · refine le_eq (by (repeat' first | exact .nil | refine .keep ?_ | refine .any ?_); first | done | fail) rfl rfl
  · intro ⟨k, m⟩ ⟨hk, hm, hg⟩
    dsimp only at hk hm hg ⊢
    by_cases hkl : k < ps.length
    · have hx := h _ (List.getElem_mem hkl)
      have hx1 : ps[k].toNat < nms.length := by omega
      repeat' first
        | refine w_seq ?_
        | refine w_block ?_
        | refine rb_n ?_
        | refine rb_ret ?_
        | refine rb_eq ?_
        | refine rb_ne (by rfl) ?_
        | refine w_exit ?_
        | refine rt_exit ?_
        | refine w_region ?_
        | refine l_nil ?_
        | refine rt_n ?_
        | refine w_ret ?_
        | refine rt_ret ?_
        | refine w_skip ?_
        | refine w_cond_t rfl ?_
        | refine w_cond_f rfl ?_
        | refine w_cnd rfl (fun hc => ?_) (fun hc => ?_)
        | refine w_cd rfl (fun hc => ?_) (fun hc => ?_)
        | refine w_cn rfl (fun hc => ?_) (fun hc => ?_)
        | refine w_cond rfl (fun hc => ?_) (fun hc => ?_)
        | (exfalso; omega)
        | (refine l_o ?_; first | refine l_op (hk := ?_))
      refine rn_mk (k + 1, m.set k nms[ps[k].toNat]) ?_ (by first | omega | (dsimp only; omega)) (le_eq (by (repeat' first | exact .nil | refine .keep ?_ | refine .any ?_); first | done | fail) rfl rfl)
      refine ⟨by dsimp only; omega, by simpa using hm, ?_⟩
      dsimp only
      rw [take_set (by omega), hg, List.take_succ_eq_append_getElem hkl, List.map_append, List.map_singleton]
      congr 2
      simp [List.getD_eq_getElem?_getD, hx1]
    · obtain rfl : k = ps.length := by omega
      rw [List.take_length, List.take_of_length_le (by omega)] at hg
      subst hg
      repeat' first
        | refine w_seq ?_
        | refine w_block ?_
        | refine rb_n ?_
        | refine rb_ret ?_
        | refine rb_eq ?_
        | refine rb_ne (by rfl) ?_
        | refine w_exit ?_
        | refine rt_exit ?_
        | refine w_region ?_
        | refine l_nil ?_
        | refine rt_n ?_
        | refine w_ret ?_
        | refine rt_ret ?_
        | refine w_skip ?_
        | refine w_cond_t rfl ?_
        | refine w_cond_f rfl ?_
        | refine w_cnd rfl (fun hc => ?_) (fun hc => ?_)
        | refine w_cd rfl (fun hc => ?_) (fun hc => ?_)
        | refine w_cn rfl (fun hc => ?_) (fun hc => ?_)
        | refine w_cond rfl (fun hc => ?_) (fun hc => ?_)
        | (exfalso; omega)
        | (refine l_o ?_; first | refine l_op (hk := ?_))
      refine en_end (hf := Try.results25) (hr := ?_); simp only [ne, nf, nl, nr, lget, reduceIte, Nat.reduceEqDiff]; first | rfl | refine congrArg RVb ?_ | refine congrArg RVi ?_ | skip
noncomputable def prA (L R : List (List Int)) (a : Int) : List (List Int) := (rch L R a).map fun i => plcs (rch L R a) (L.getD i.toNat [])
noncomputable def prB (L R : List (List Int)) (a : Int) : List (List Int) := (rch L R a).map fun i => plcs (rch L R a) (R.getD i.toNat [])
noncomputable def prAt (L R : List (List Int)) (a : Int) : Nat := (rch L R a).idxOf a
theorem map_take {W : List Int} {f : Int → List Int} {k : Nat} (h : k < W.length) : (W.take (k + 1)).map f = (W.take k).map f ++ [f W[k]] := by
  rw [List.take_succ_eq_append_getElem h, List.map_append]; rfl
theorem implPrune_ok (L R : List (List Int)) (a : Int) : FCr Try.prog 8 [RLp L R, RVi a] (.tup [OLp (prA L R a) (prB L R a), RVn (prAt L R a), RVb (okAt L R a)]) := by
  have hI := implReached_ok L R a
  unfold prA prB prAt
  cases ho : okAt L R a with
  | false =>
    rw [ho] at hI
    have e : rch L R a = [] := by simp [rch, ho]
    rw [e] at hI ⊢
    refine (fcr_in Try.func8 rfl (by simp only [Try.ntmps8, anys, List.length_cons, List.length_nil, Nat.reduceAdd, Nat.reduceSub, List.replicate_succ, List.replicate_zero, List.cons_append, List.nil_append] <;> rfl) ?_)
    repeat' first
      | refine w_seq ?_
      | refine w_block ?_
      | refine rb_n ?_
      | refine rb_ret ?_
      | refine rb_eq ?_
      | refine rb_ne (by rfl) ?_
      | refine w_exit ?_
      | refine rt_exit ?_
      | refine w_region ?_
      | refine l_nil ?_
      | refine rt_n ?_
      | refine w_ret ?_
      | refine rt_ret ?_
      | refine w_skip ?_
      | refine w_cond_t rfl ?_
      | refine w_cond_f rfl ?_
      | refine w_cnd rfl (fun hc => ?_) (fun hc => ?_)
      | refine w_cd rfl (fun hc => ?_) (fun hc => ?_)
      | refine w_cn rfl (fun hc => ?_) (fun hc => ?_)
      | refine w_cond rfl (fun hc => ?_) (fun hc => ?_)
      | (refine l_o ?_; first | refine l_op rfl (by first | (apply k_callf; first | exact ops_callf (hfc := hI) | fail) | fail) (hk := ?_) | refine l_op (hk := ?_))
      | refine d_nil ?_
      | (refine d_o ?_; first | refine d_fl (hk := ?_) | refine d_ef rfl (by first | exact .callf (hfc := hI) | fail) (hk := ?_) | refine d_ef (hk := ?_))
      | (refine w_o ?_; first | refine w_draw (id := 14) (fun _ => true) (fun k => [8, 9, 10, 12].contains k) [[], [], [], []] 64 (by kernel_rfl) rfl (by kernel_rfl) (by simp [nm, nset, -List.map_take, -List.map_drop]) ?_ | refine w_draw (id := 15) (fun _ => true) (fun k => [8, 9, 10, 12].contains k) [[], [], [], []] 64 (by kernel_rfl) rfl (by kernel_rfl) (by simp [nm, nset, -List.map_take, -List.map_drop]) ?_ | refine w_draw (id := 17) (fun _ => true) (fun k => [5].contains k) [[]] 64 (by kernel_rfl) rfl (by kernel_rfl) (by simp [nm, nset, -List.map_take, -List.map_drop]) ?_)
    refine en_endn ([OLp [] [], RVn 0, RVb false]) (hf := Try.results8) (hr := ?_); simp only [ne]; first | rfl | skip
  | true =>
    rw [ho] at hI
    have hb := okAt_good ho
    have g := goodI hb.1
    have hgl := g.len
    have hgr := g.lenR
    have har : 0 ≤ a ∧ a < L.length := ⟨hb.2.1, hb.2.2⟩
    have hr : IsRch L R a (rch L R a) := by unfold rch; rw [ho]; exact rchL_is g har
    generalize rch L R a = W at *
    have hd := si_nodup hr.1
    have hin : ∀ x ∈ W, 0 ≤ x ∧ x < L.length := fun x hx => reach_in g har ((hr.2 x).1 hx)
    have hWl := nodup_len hd hin
    have haW : a ∈ W := (hr.2 a).2 .base
    have hcl : ∀ x ∈ W, ∀ y ∈ sucI L R x, y ∈ W := fun x hx y hy => (hr.2 y).2 (.step ((hr.2 x).1 hx) hy)
    have hnm := fun {p : Int} (hp : p ∈ W) => nm_idx hd hin hp
    have hnl := nmTo_len W L.length W.length
    refine (fcr_in Try.func8 rfl (by simp only [Try.ntmps8, anys, List.length_cons, List.length_nil, Nat.reduceAdd, Nat.reduceSub, List.replicate_succ, List.replicate_zero, List.cons_append, List.nil_append] <;> rfl) ?_)
    repeat' first
      | refine w_seq ?_
      | refine w_block ?_
      | refine rb_n ?_
      | refine rb_ret ?_
      | refine rb_eq ?_
      | refine rb_ne (by rfl) ?_
      | refine w_exit ?_
      | refine rt_exit ?_
      | refine w_region ?_
      | refine l_nil ?_
      | refine rt_n ?_
      | refine w_ret ?_
      | refine rt_ret ?_
      | refine w_skip ?_
      | refine w_cond_t rfl ?_
      | refine w_cond_f rfl ?_
      | refine w_cnd rfl (fun hc => ?_) (fun hc => ?_)
      | refine w_cd rfl (fun hc => ?_) (fun hc => ?_)
      | refine w_cn rfl (fun hc => ?_) (fun hc => ?_)
      | refine w_cond rfl (fun hc => ?_) (fun hc => ?_)
      | (refine l_o ?_; first | refine l_op rfl (by first | (apply k_callf; first | exact ops_callf (hfc := hI) | fail) | fail) (hk := ?_) | refine l_op (hk := ?_))
      | refine d_nil ?_
      | (refine d_o ?_; first | refine d_fl (hk := ?_) | refine d_ef rfl (by first | exact .callf (hfc := hI) | fail) (hk := ?_) | refine d_ef (hk := ?_))
      | (refine w_o ?_; first | refine w_draw (id := 14) (fun _ => true) (fun k => [8, 9, 10, 12].contains k) [[], [], [], []] 64 (by kernel_rfl) rfl (by kernel_rfl) (by simp [nm, nset, -List.map_take, -List.map_drop]) ?_ | refine w_draw (id := 15) (fun _ => true) (fun k => [8, 9, 10, 12].contains k) [[], [], [], []] 64 (by kernel_rfl) rfl (by kernel_rfl) (by simp [nm, nset, -List.map_take, -List.map_drop]) ?_ | refine w_draw (id := 17) (fun _ => true) (fun k => [5].contains k) [[]] 64 (by kernel_rfl) rfl (by kernel_rfl) (by simp [nm, nset, -List.map_take, -List.map_drop]) ?_)
    refine w_loopm (ι := Nat) (fun q => [(30, RVn q), (10, .any), (11, .any)]) (fun q => [(27, 1, (nmTo W L.length q).map RVi), (4, 2, [.agg [.v (.slice none 0 0), .v (.slice none 0 0)]]), (2, 2, [.agg [RIss L, RIss R]])]) (fun q => q ≤ W.length) (fun q => W.length - q) 0 (h0 := ?_) (hs := ?_) (round := ?_)
    · omega
    · refine le_eq (by (repeat' first | exact .nil | refine .keep ?_ | refine .any ?_); first | done | fail) rfl rfl
    · intro k hk
      by_cases hkl : k < W.length
      · have hx := hin _ (List.getElem_mem hkl)
        have hl1 := nmTo_len W L.length k
        have hs : nmTo W L.length (k + 1) = (nmTo W L.length k).set W[k].toNat ((k : Nat) : Int) := by
          rw [nmTo]; congr 1; simp [List.getD_eq_getElem?_getD, hkl]
        generalize nmTo W L.length k = N at *
        repeat' first
          | refine w_seq ?_
          | refine w_block ?_
          | refine rb_n ?_
          | refine rb_ret ?_
          | refine rb_eq ?_
          | refine rb_ne (by rfl) ?_
          | refine w_exit ?_
          | refine rt_exit ?_
          | refine w_region ?_
          | refine l_nil ?_
          | refine rt_n ?_
          | refine w_ret ?_
          | refine rt_ret ?_
          | refine w_skip ?_
          | refine w_cond_t rfl ?_
          | refine w_cond_f rfl ?_
          | refine w_cnd rfl (fun hc => ?_) (fun hc => ?_)
          | refine w_cd rfl (fun hc => ?_) (fun hc => ?_)
          | refine w_cn rfl (fun hc => ?_) (fun hc => ?_)
          | refine w_cond rfl (fun hc => ?_) (fun hc => ?_)
          | (exfalso; omega)
          | (refine l_o ?_; first | refine l_op (hk := ?_))
          | refine d_nil ?_
          | (refine d_o ?_; first | refine d_fl (hk := ?_) | refine d_ef (hk := ?_))
          | (refine w_o ?_; first | refine w_draw (id := 14) (fun _ => true) (fun k => [8, 9, 10, 12].contains k) [[], [], [], []] 64 (by kernel_rfl) rfl (by kernel_rfl) (by simp [nm, nset, -List.map_take, -List.map_drop]) ?_ | refine w_draw (id := 15) (fun _ => true) (fun k => [8, 9, 10, 12].contains k) [[], [], [], []] 64 (by kernel_rfl) rfl (by kernel_rfl) (by simp [nm, nset, -List.map_take, -List.map_drop]) ?_ | refine w_draw (id := 17) (fun _ => true) (fun k => [5].contains k) [[]] 64 (by kernel_rfl) rfl (by kernel_rfl) (by simp [nm, nset, -List.map_take, -List.map_drop]) ?_)
        refine rn_mk (k + 1) (by omega) (by omega) ?_
        rw [hs]
        refine le_eq (by (repeat' first | exact .nil | refine .keep ?_ | refine .any ?_); first | done | fail) rfl rfl
      · obtain rfl : k = W.length := by omega
        generalize nmTo W L.length W.length = N at *
        repeat' first
          | refine w_seq ?_
          | refine w_block ?_
          | refine rb_n ?_
          | refine rb_ret ?_
          | refine rb_eq ?_
          | refine rb_ne (by rfl) ?_
          | refine w_exit ?_
          | refine rt_exit ?_
          | refine w_region ?_
          | refine l_nil ?_
          | refine rt_n ?_
          | refine w_ret ?_
          | refine rt_ret ?_
          | refine w_skip ?_
          | refine w_cond_t rfl ?_
          | refine w_cond_f rfl ?_
          | refine w_cnd rfl (fun hc => ?_) (fun hc => ?_)
          | refine w_cd rfl (fun hc => ?_) (fun hc => ?_)
          | refine w_cn rfl (fun hc => ?_) (fun hc => ?_)
          | refine w_cond rfl (fun hc => ?_) (fun hc => ?_)
          | (exfalso; omega)
          | (refine l_o ?_; first | refine l_op (hk := ?_))
          | refine d_nil ?_
          | (refine d_o ?_; first | refine d_fl (hk := ?_) | refine d_ef (hk := ?_))
          | (refine w_o ?_; first | refine w_draw (id := 14) (fun _ => true) (fun k => [8, 9, 10, 12].contains k) [[], [], [], []] 64 (by kernel_rfl) rfl (by kernel_rfl) (by simp [nm, nset, -List.map_take, -List.map_drop]) ?_ | refine w_draw (id := 15) (fun _ => true) (fun k => [8, 9, 10, 12].contains k) [[], [], [], []] 64 (by kernel_rfl) rfl (by kernel_rfl) (by simp [nm, nset, -List.map_take, -List.map_drop]) ?_ | refine w_draw (id := 17) (fun _ => true) (fun k => [5].contains k) [[]] 64 (by kernel_rfl) rfl (by kernel_rfl) (by simp [nm, nset, -List.map_take, -List.map_drop]) ?_)
        rw [← hnl]
        refine w_le _ (le_trans (le_nw 12 rfl (.agg (.now (k := 1) (by decide) (.now (k := 1) (by decide) .nil)) .nil) (by simp only [nz, nf, nl, nb, nr, ng, nq, nu, reduceIte, Nat.reduceEqDiff, Nat.reduceAdd]; rfl)) (le_trans (le_open 12 0 0 57 rfl rfl rfl (by simp [nm]) (by simp only [nz, nf, nl, nb, nr, ng, nq, nu, reduceIte, Nat.reduceEqDiff, Nat.reduceAdd]; rfl)) (le_open 12 0 1 69 rfl rfl rfl (by simp [nm]) (by simp only [nz, nf, nl, nb, nr, ng, nq, nu, reduceIte, Nat.reduceEqDiff, Nat.reduceAdd]; rfl)))) ?_
        refine w_loopm (ι := Nat × List (List Int) × List (List Int)) (fun q => [(43, RVn q.1), (14, .any)]) (fun q => [(69, 1, q.2.2.map OIs), (57, 1, q.2.1.map OIs), (12, 2, [.agg [.ref 57 0 q.2.1.length, .ref 69 0 q.2.2.length]]), (27, 1, N.map RVi), (4, 2, [.agg [.v (.slice none 0 0), .v (.slice none 0 0)]]), (2, 2, [.agg [RIss L, RIss R]])]) (fun q => q.1 ≤ W.length ∧ q.2.1 = (W.take q.1).map (fun i => plcs W (L.getD i.toNat [])) ∧ q.2.2 = (W.take q.1).map (fun i => plcs W (R.getD i.toNat []))) (fun q => W.length - q.1) (0, [], []) (h0 := ?_) (hs := ?_) (round := ?_)
        · exact ⟨by omega, rfl, rfl⟩
        · refine le_eq (by (repeat' first | exact .nil | refine .keep ?_ | refine .any ?_); first | done | fail) rfl rfl
        · intro ⟨k, A, B⟩ ⟨hk2, hA, hB⟩
          dsimp only at hk2 hA hB ⊢
          have hAl : A.length = k := by rw [hA]; simp; omega
          have hBl : B.length = k := by rw [hB]; simp; omega
          by_cases hkl2 : k < W.length
          · have hx := hin _ (List.getElem_mem hkl2)
            have hx1 : W[k].toNat < L.length := by omega
            have hx2 : W[k].toNat < R.length := by omega
            have hsu : sucI L R W[k] = L[W[k].toNat] ++ R[W[k].toNat] := by unfold sucI; rw [gd hx1, gd hx2]
            have hy := hcl _ (List.getElem_mem hkl2)
            rw [hsu] at hy
            have hRA := renamed_ok L[W[k].toNat] N (fun y h => by have := hin y (hy y (List.mem_append_left _ h)); omega) (by have := g.lL _ (List.getElem_mem hx1); omega)
            have hRB := renamed_ok R[W[k].toNat] N (fun y h => by have := hin y (hy y (List.mem_append_right _ h)); omega) (by have := g.lR _ (List.getElem_mem hx2); omega)
            have eA : L[W[k].toNat].map (fun x => N.getD x.toNat 0) = plcs W (L.getD W[k].toNat []) := by
              rw [gd hx1, plcs]; exact List.map_congr_left fun y h => hnm (hy y (List.mem_append_left _ h))
            have eB : R[W[k].toNat].map (fun x => N.getD x.toNat 0) = plcs W (R.getD W[k].toNat []) := by
              rw [gd hx2, plcs]; exact List.map_congr_left fun y h => hnm (hy y (List.mem_append_right _ h))
            rw [eA] at hRA
            rw [eB] at hRB
            have sA := map_take (f := fun i => plcs W (L.getD i.toNat [])) hkl2
            have sB := map_take (f := fun i => plcs W (R.getD i.toNat [])) hkl2
            generalize plcs W (L.getD W[k].toNat []) = PA at *
            generalize plcs W (R.getD W[k].toNat []) = PB at *
            repeat' first
              | refine w_seq ?_
              | refine w_block ?_
              | refine rb_n ?_
              | refine rb_ret ?_
              | refine rb_eq ?_
              | refine rb_ne (by rfl) ?_
              | refine w_exit ?_
              | refine rt_exit ?_
              | refine w_region ?_
              | refine l_nil ?_
              | refine rt_n ?_
              | refine w_ret ?_
              | refine rt_ret ?_
              | refine w_skip ?_
              | refine w_cond_t rfl ?_
              | refine w_cond_f rfl ?_
              | refine w_cnd rfl (fun hc => ?_) (fun hc => ?_)
              | refine w_cd rfl (fun hc => ?_) (fun hc => ?_)
              | refine w_cn rfl (fun hc => ?_) (fun hc => ?_)
              | refine w_cond rfl (fun hc => ?_) (fun hc => ?_)
              | (exfalso; omega)
              | (refine l_o ?_; first | refine l_op rfl (by first | (apply k_callf; first | exact ops_callv (d := 55) (hfc := hRA) | exact ops_callv (d := 67) (hfc := hRB) | fail) | fail) (hk := ?_) | refine l_op (hk := ?_))
              | refine e_nil ?_
              | (refine e_o ?_; first | refine e_fl (hk := ?_) | refine e_ef rfl (by first | exact .callv (d := 55) (hfc := hRA) | exact .callv (d := 67) (hfc := hRB) | fail) (hk := ?_) | refine e_ef (hk := ?_))
              | (refine w_o ?_; first | refine w_drawS (id := 14) (rdP [(0,12),(1,12),(11,12),(2,2),(3,2)]) (fun k => [8, 9, 10, 12].contains k) [[55],[56],[157],[]] (by kernel_rfl) rfl (by kernel_rfl) (by simp [nm, nset, -List.map_take, -List.map_drop]) ?_ | refine w_drawS (id := 15) (rdP [(0,12),(1,12),(11,12),(2,2),(3,2)]) (fun k => [8, 9, 10, 12].contains k) [[67],[68],[169],[]] (by kernel_rfl) rfl (by kernel_rfl) (by simp [nm, nset, -List.map_take, -List.map_drop]) ?_ | refine w_drawS (id := 17) (rdP []) (fun k => [5].contains k) [[]] (by kernel_rfl) rfl (by kernel_rfl) (by simp [nm, nset, -List.map_take, -List.map_drop]) ?_)
            refine rn_mk (k + 1, A ++ [PA], B ++ [PB]) ⟨by dsimp only; omega, by dsimp only; rw [sA, hA], by dsimp only; rw [sB, hB]⟩ (by dsimp only; omega) ?_
            refine le_trans (le_kill 57 (by simp only [nz, nf, nl, nb, nr, ng, nq, nu, reduceIte, Nat.reduceEqDiff, Nat.reduceAdd]; rfl)) (le_trans (le_kill 69 (by simp only [nz, nf, nl, nb, nr, ng, nq, nu, reduceIte, Nat.reduceEqDiff, Nat.reduceAdd]; rfl)) (le_trans (le_ren 157 57 (by decide) (by decide) (by simp [nm, ng, renL_id, -List.map_append, -List.map_take, -List.map_drop]) (by simp [nm, ng, renL_id, onames, -List.map_append, -List.map_take, -List.map_drop]) (by simp only [ng, nm, nu, renL_id, reduceIte, Nat.reduceEqDiff]; rfl) (by simp only [ng, nm, nu, renL_id, reduceIte, Nat.reduceEqDiff]; rfl)) (le_trans (le_ren 169 69 (by decide) (by decide) (by simp [nm, ng, renL_id, -List.map_append, -List.map_take, -List.map_drop]) (by simp [nm, ng, renL_id, onames, -List.map_append, -List.map_take, -List.map_drop]) (by simp only [ng, nm, nu, renL_id, reduceIte, Nat.reduceEqDiff]; rfl) (by simp only [ng, nm, nu, renL_id, reduceIte, Nat.reduceEqDiff]; rfl)) ?_)))
            refine le_eq (by (repeat' first | exact .nil | refine .keep ?_ | refine .any ?_); first | done | fail) rfl rfl
          · obtain rfl : k = W.length := by omega
            rw [List.take_length] at hA hB
            have ha1 : a.toNat < N.length := by omega
            have ha2 : ((W.idxOf a : Nat) : Int) = N[a.toNat] := by rw [← hnm haW]; simp [List.getD_eq_getElem?_getD, ha1]
            rw [← hA, ← hB, show RVn (W.idxOf a) = RVi N[a.toNat] from by rw [← ha2]]
            repeat' first
              | refine w_seq ?_
              | refine w_block ?_
              | refine rb_n ?_
              | refine rb_ret ?_
              | refine rb_eq ?_
              | refine rb_ne (by rfl) ?_
              | refine w_exit ?_
              | refine rt_exit ?_
              | refine w_region ?_
              | refine l_nil ?_
              | refine rt_n ?_
              | refine w_ret ?_
              | refine rt_ret ?_
              | refine w_skip ?_
              | refine w_cond_t rfl ?_
              | refine w_cond_f rfl ?_
              | refine w_cnd rfl (fun hc => ?_) (fun hc => ?_)
              | refine w_cd rfl (fun hc => ?_) (fun hc => ?_)
              | refine w_cn rfl (fun hc => ?_) (fun hc => ?_)
              | refine w_cond rfl (fun hc => ?_) (fun hc => ?_)
              | (exfalso; omega)
              | (refine l_o ?_; first | refine l_op (hk := ?_))
              | refine e_nil ?_
              | (refine e_o ?_; first | refine e_fl (hk := ?_) | refine e_ef (hk := ?_))
              | (refine w_o ?_; first | refine w_drawS (id := 14) (rdP []) (fun k => [8, 9, 10, 12].contains k) [[], [], [], []] (by kernel_rfl) rfl (by kernel_rfl) (by simp [nm, nset, -List.map_take, -List.map_drop]) ?_ | refine w_drawS (id := 15) (rdP []) (fun k => [8, 9, 10, 12].contains k) [[], [], [], []] (by kernel_rfl) rfl (by kernel_rfl) (by simp [nm, nset, -List.map_take, -List.map_drop]) ?_ | refine w_drawS (id := 17) (rdP [(0,12),(3,27),(4,27)]) (fun k => [5].contains k) [[]] (by kernel_rfl) rfl (by kernel_rfl) (by simp [nm, nset, -List.map_take, -List.map_drop]) ?_)
            refine en_le _ (le_drop 12 (by simp only [nz, nf, nl, nb, nr, ng, nq, nu, reduceIte, Nat.reduceEqDiff, Nat.reduceAdd]; rfl) (by simp only [nz, nf, nl, nb, nr, ng, nq, nu, reduceIte, Nat.reduceEqDiff, Nat.reduceAdd]; rfl)) ?_
            refine en_endm ([(27, 1, N.map RVi), (4, 2, [.agg [.ref 57 0 A.length, .ref 69 0 B.length]]), (2, 2, [.agg [RIss L, RIss R]])]) (hf := Try.results8) (hO := ?_) (hr := ?_)
            · rfl
            · rfl
end Go.Proofs.Ytmplelnodamedaa
