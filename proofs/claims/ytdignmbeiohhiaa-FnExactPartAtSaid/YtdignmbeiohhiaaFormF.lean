/- The reference's form of a book's node. For all books within the bounds that the theorem names. -/
import Derived.Test.YtdignmbeiohhiaaFormT
import Derived.Test.YtdignmbeiohhiaaOpsE
namespace Go.Proofs.Ytdignmbeiohhiaa
open Eng
attribute [local irreducible] OpS OpG FC FCr Rel Fl Ef DR Fs
attribute [local simp] RV.fzR_names
set_option linter.unusedSimpArgs false
set_option maxHeartbeats 0
set_option maxRecDepth 100000

theorem insG_at {x : Nd} {k : Nat} : ∀ {G : List (Nd × Nat)} {i : Nat}, i ≤ G.length → (∀ j (h : j < G.length), j < i → ahd G[j].1 x = true) → (∀ h : i < G.length, ahd G[i].1 x = false) → insG x k G = G.take i ++ (x, k) :: G.drop i
  | [], i, h, _, _ => by
    obtain rfl : i = 0 := by simpa using h
    rfl
  | e :: es, 0, _, _, h2 => by
    have := h2 (by simp)
    rw [insG, if_neg (by rw [show ahd e.1 x = false from this]; simp)]; rfl
  | e :: es, i + 1, h, h1, h2 => by
    have h3 : ahd e.1 x = true := h1 0 (by simp) (by omega)
    rw [insG, if_pos h3, insG_at (G := es) (i := i) (by simpa using h) (fun j hj hji => h1 (j + 1) (by simpa using hj) (by omega)) fun hi => h2 (by simpa using hi)]
    rfl
theorem asg_snoc : ∀ (ks at_ : List Nat) (n k : Nat), asg at_ n (ks ++ [k]) = (asg at_ n ks).set k (n + ks.length)
  | [], _, _, _ => rfl
  | y :: ys, at_, n, k => by rw [List.cons_append, asg, asg, asg_snoc ys, List.length_cons]; congr 1; omega
theorem rndTo_small (f : List Nd) (bn : List Nat) (need : List Bool) (root b : Nat) : (rndTo f bn need root b).2.length ≤ root + 1 := by
  rw [rndTo_len]
  exact Nat.le_trans (List.length_filter_le _ _) (by simp)
theorem grp_small (f : List Nd) (bn : List Nat) (need : List Bool) (at_ : List Nat) (b m : Nat) : (grp f bn need at_ b m).length ≤ m := by
  rw [grp_len]
  exact Nat.le_trans (List.length_filter_le _ _) (by simp)
theorem names_setn (l : List Nat) (i n : Nat) : RV.namesL ((l.map RVn).set i (RVn n)) = [] := by
  rw [show (l.map RVn).set i (RVn n) = (l.set i n).map RVn from List.map_set.symm]
  generalize l.set i n = x
  induction x with
  | nil => rfl
  | cons y ys ih => rw [List.map_cons, RV.namesL, ih]; rfl
theorem names_frz_view (B : Bk) (O : List Bk) (n i j : Nat) : (RV.frz B (viewC O (.ptr n i j))).names = [] := by
  simp only [viewC]; split <;> (try split) <;> (try split) <;> (try split) <;> rfl
attribute [local simp] names_setn names_frz_view
theorem form_ok (E : List (Nd × Nat)) (root : Nat) (hE : E.length ≤ 120) (hr : root < E.length) (hb : ∀ e ∈ E, e.2 ≤ E.length) (ok : OkF (bkN E)) :
    FC Try.prog 131 [.ptr 1000000000000 0 0, RVn root] [(1000000000000, 2, [RBk E])] (fun rv O => rv = .agg [.ow 2 ((frm (bkN E) (bkB E) (usdF (bkN E) root) root).map RNd)] ∧ O = [(1000000000000, 2, [RBk E])]) := by
  have hNl := bkN_len E
  have hBl := bkB_len E
  have hbb : ∀ i (h : i < (bkB E).length), (bkB E)[i] ≤ 120 := fun i h => by
    have h1 : i < E.length := by omega
    simp only [bkB, List.getElem_map]
    have := hb _ (List.getElem_mem h1); omega
  have hbg : ∀ i (h : i < (bkB E).length), (bkB E).getD i 0 = (bkB E)[i] := fun i h => gdp h
  have hR := reached_ok (bkN E) ok root (by omega) (by omega) (.sh ((bkB E).map RVn))
  have hul := usdF_len (f := bkN E) root
  have hBk : RBk E = .agg [.ow 2 ((bkN E).map RNd), .ow 1 ((bkB E).map RVn)] := rfl
  rw [hBk]
  unfold frm
  generalize bkN E = N at *
  generalize bkB E = B at *
  rw [hbg root (by omega)]
  have hal := rndTo_atlen N B (usdF N root) root
  have hsm := rndTo_small N B (usdF N root) root
  have hst : ∀ b, rndTo N B (usdF N root) root (b + 1) = rnd N B (usdF N root) root (rndTo N B (usdF N root) root b) b := fun b => rfl
  have h00 : rndTo N B (usdF N root) root 0 = (List.replicate (root + 1) 0, []) := rfl
  have hub : ∀ k (h : k < (usdF N root).length), (usdF N root).getD k false = (usdF N root)[k] := fun k h => gdp h
  obtain ⟨U, hU⟩ : ∃ U, U = usdF N root := ⟨_, rfl⟩
  rw [← hU] at hR hul
  simp only [← hU] at hal hsm hst h00 hub ⊢
  have hroot := hbb root (by omega)
  refine (fc_in Try.func131 rfl (by simp only [Try.ntmps131, anys, List.length_cons, List.length_nil, Nat.reduceAdd, Nat.reduceSub, List.replicate_succ, List.replicate_zero, List.cons_append, List.nil_append] <;> rfl) ?_)
  repeat' first
    | refine w_seq ?_
    | refine w_block ?_
    | refine rb_n ?_
    | refine rb_ret ?_
    | refine rb_eq ?_
    | refine rb_ne (by rfl) ?_
    | refine w_exit ?_
    | refine rt_exit ?_
    | refine w_region ?_
    | refine l_nil ?_
    | refine rt_n ?_
    | refine w_ret ?_
    | refine rt_ret ?_
    | refine w_skip ?_
    | refine w_cond_t rfl ?_
    | refine w_cond_f rfl ?_
    | refine w_cnd rfl (fun hc => ?_) (fun hc => ?_)
    | refine w_cd rfl (fun hc => ?_) (fun hc => ?_)
    | refine w_cn rfl (fun hc => ?_) (fun hc => ?_)
    | refine w_cond rfl (fun hc => ?_) (fun hc => ?_)
    | (refine l_o ?_; first | refine l_op rfl (by first | (apply k_add; first | exact ops_addn (a := root) (b := 1) rfl rfl (by omega) | fail) | (apply k_callf; first | exact ops_callz (d := 17) (hfc := hR) | fail) | fail) (hk := ?_) | refine l_op (hk := ?_) | (refine l_g ?_; first | refine l_y rfl rfl rfl ?_ | refine l_n rfl rfl rfl rfl (hk := ?_) | refine l_n' rfl rfl rfl (hk := ?_) | refine l_spnd rfl rfl rfl (h1 := fun hc => ?_) (h2 := fun hc => ?_) | refine l_spd rfl rfl rfl (h1 := fun hc => ?_) (h2 := fun hc => ?_) | refine l_spn rfl rfl rfl (h1 := fun hc => ?_) (h2 := fun hc => ?_) | refine l_sp rfl rfl rfl (h1 := fun hc => ?_) (h2 := fun hc => ?_)))
    | refine d_nil ?_
    | (refine d_o ?_; first | refine d_fl rfl (by first | exact .pl (by first | (apply q_add; first | exact fs_addn (a := root) (b := 1) rfl rfl (by omega) | fail) | fail) | exact .ye rfl rfl rfl (by first | (apply q_add; first | exact fs_addn (a := root) (b := 1) rfl rfl (by omega) | fail) | fail) | fail) (hk := ?_) | refine d_fl (hk := ?_) | refine d_ef rfl (by first | exact .callz (d := 17) (hfc := hR) | exact .callzY (d := 17) (hfc := hR) | fail) (hk := ?_) | refine d_ef (hk := ?_) | (refine d_g ?_; first | refine d_spnd rfl rfl rfl (h1 := fun hc => ?_) (h2 := fun hc => ?_) | refine d_spd rfl rfl rfl (h1 := fun hc => ?_) (h2 := fun hc => ?_) | refine d_spn rfl rfl rfl (h1 := fun hc => ?_) (h2 := fun hc => ?_) | refine d_sp rfl rfl rfl (h1 := fun hc => ?_) (h2 := fun hc => ?_)))
    | (refine w_o ?_; first | refine w_draw (id := 12) (fun _ => true) (fun k => [9, 10, 20, 21, 23, 24].contains k) [[], [], [], [], [], []] 64 (by kernel_rfl) rfl (by kernel_rfl) (by simp [nm, nset, -List.map_take, -List.map_drop]) ?_ | refine w_draw (id := 14) (fun _ => true) (fun k => [10].contains k) [[]] 64 (by kernel_rfl) rfl (by kernel_rfl) (by simp [nm, nset, -List.map_take, -List.map_drop]) ?_ | refine w_draw (id := 16) (fun _ => true) (fun k => [0, 4, 6, 7, 11].contains k) [[], [], [], [], []] 64 (by kernel_rfl) rfl (by kernel_rfl) (by simp [nm, nset, -List.map_take, -List.map_drop]) ?_ | refine w_draw (id := 17) (fun _ => true) (fun k => [0, 4, 6, 7, 11].contains k) [[], [], [], [], []] 64 (by kernel_rfl) rfl (by kernel_rfl) (by simp [nm, nset, -List.map_take, -List.map_drop]) ?_ | refine w_draw (id := 21) (fun _ => true) (fun k => [9].contains k) [[]] 64 (by kernel_rfl) rfl (by kernel_rfl) (by simp [nm, nset, -List.map_take, -List.map_drop]) ?_ | refine w_draw (id := 22) (fun _ => true) (fun k => [6, 7, 9].contains k) [[], [], []] 64 (by kernel_rfl) rfl (by kernel_rfl) (by simp [nm, nset, -List.map_take, -List.map_drop]) ?_)
  refine w_le _ (le_trans (le_ren 21 140 (by decide) (by decide) (by simp [nm, ng, renL_id, -List.map_append, -List.map_take, -List.map_drop]) (by simp [nm, ng, renL_id, onames, -List.map_append, -List.map_take, -List.map_drop]) (by simp only [ng, nm, nu, renL_id, reduceIte, Nat.reduceEqDiff]; rfl) (by simp only [ng, nm, nu, renL_id, reduceIte, Nat.reduceEqDiff]; rfl)) (le_trans (le_open 1000000000000 0 0 900 rfl rfl rfl (by simp [nm]) (by simp only [nz, nf, nl, nb, nr, ng, nq, nu, reduceIte, Nat.reduceEqDiff, Nat.reduceAdd]; rfl)) (le_trans (le_open 1000000000000 0 1 901 rfl rfl rfl (by simp [nm]) (by simp only [nz, nf, nl, nb, nr, ng, nq, nu, reduceIte, Nat.reduceEqDiff, Nat.reduceAdd]; rfl)) (le_perm [140] rfl (by simp only [oerase, reduceIte, Nat.reduceEqDiff, List.cons_append, List.nil_append]; rfl))))) ?_
  refine w_loopm (ι := Nat) (fun b => [(8, RVn b), (6, .ref 20 0 (rndTo N B U root b).1.length), (20, .any), (21, .any), (22, .any)]) (fun b => [(140, 2, (rndTo N B U root b).2.map RNd), (901, 1, B.map RVn), (900, 2, N.map RNd), (7, 1, [.agg [.ref 140 0 (rndTo N B U root b).2.length]]), (20, 1, (rndTo N B U root b).1.map RVn), (4, 1, [.agg [.v (.slice none 0 0)]]), (1000000000000, 2, [.agg [.ref 900 0 N.length, .ref 901 0 B.length]])]) (fun b => b ≤ B[root] + 1) (fun b => B[root] + 1 - b) 0 (h0 := ?_) (hs := ?_) (round := ?_)
  · omega
  · rw [h00]
    try dsimp only
    rw [List.length_replicate]
    refine le_eq (by (repeat' first | exact .nil | refine .keep ?_ | refine .any ?_); first | done | fail) rfl (by simp)
  · intro b hb2
    have hal1 := hal b
    have hsm1 := hsm b
    have hst1 := hst b
    by_cases hbl : b ≤ B[root]
    · rw [rnd] at hst1
      obtain ⟨q, hq⟩ : ∃ q, q = rndTo N B U root b := ⟨_, rfl⟩
      rw [← hq] at hal1 hsm1 hst1 ⊢
      clear hq
      obtain ⟨at_, out⟩ := q
      dsimp only at hal1 hsm1 hst1 ⊢
      have hGl := grp_small N B U at_ b
      have hG0 : grp N B U at_ b 0 = [] := rfl
      have hGs : ∀ k, grp N B U at_ b (k + 1) = if U.getD k false = true ∧ B.getD k 0 = b then insG (xN N at_ k) k (grp N B U at_ b k) else grp N B U at_ b k := fun k => rfl
      repeat' first
        | refine w_seq ?_
        | refine w_block ?_
        | refine rb_n ?_
        | refine rb_ret ?_
        | refine rb_eq ?_
        | refine rb_ne (by rfl) ?_
        | refine w_exit ?_
        | refine rt_exit ?_
        | refine w_region ?_
        | refine l_nil ?_
        | refine rt_n ?_
        | refine w_ret ?_
        | refine rt_ret ?_
        | refine w_skip ?_
        | refine w_cond_t rfl ?_
        | refine w_cond_f rfl ?_
        | refine w_cnd rfl (fun hc => ?_) (fun hc => ?_)
        | refine w_cd rfl (fun hc => ?_) (fun hc => ?_)
        | refine w_cn rfl (fun hc => ?_) (fun hc => ?_)
        | refine w_cond rfl (fun hc => ?_) (fun hc => ?_)
        | (exfalso; omega)
        | (refine l_o ?_; first | refine l_op (hk := ?_) | (refine l_g ?_; first | refine l_y rfl rfl rfl ?_ | refine l_n rfl rfl rfl rfl (hk := ?_) | refine l_n' rfl rfl rfl (hk := ?_) | refine l_spnd rfl rfl rfl (h1 := fun hc => ?_) (h2 := fun hc => ?_) | refine l_spd rfl rfl rfl (h1 := fun hc => ?_) (h2 := fun hc => ?_) | refine l_spn rfl rfl rfl (h1 := fun hc => ?_) (h2 := fun hc => ?_) | refine l_sp rfl rfl rfl (h1 := fun hc => ?_) (h2 := fun hc => ?_)))
        | refine d_nil ?_
        | (refine d_o ?_; first | refine d_fl (hk := ?_) | refine d_ef (hk := ?_) | (refine d_g ?_; first | refine d_spnd rfl rfl rfl (h1 := fun hc => ?_) (h2 := fun hc => ?_) | refine d_spd rfl rfl rfl (h1 := fun hc => ?_) (h2 := fun hc => ?_) | refine d_spn rfl rfl rfl (h1 := fun hc => ?_) (h2 := fun hc => ?_) | refine d_sp rfl rfl rfl (h1 := fun hc => ?_) (h2 := fun hc => ?_)))
        | (refine w_o ?_; first | refine w_draw (id := 12) (fun _ => true) (fun k => [9, 10, 20, 21, 23, 24].contains k) [[], [], [], [], [], []] 64 (by kernel_rfl) rfl (by kernel_rfl) (by simp [nm, nset, -List.map_take, -List.map_drop]) ?_ | refine w_draw (id := 14) (fun _ => true) (fun k => [10].contains k) [[]] 64 (by kernel_rfl) rfl (by kernel_rfl) (by simp [nm, nset, -List.map_take, -List.map_drop]) ?_ | refine w_draw (id := 16) (fun _ => true) (fun k => [0, 4, 6, 7, 11].contains k) [[], [], [], [], []] 64 (by kernel_rfl) rfl (by kernel_rfl) (by simp [nm, nset, -List.map_take, -List.map_drop]) ?_ | refine w_draw (id := 17) (fun _ => true) (fun k => [0, 4, 6, 7, 11].contains k) [[], [], [], [], []] 64 (by kernel_rfl) rfl (by kernel_rfl) (by simp [nm, nset, -List.map_take, -List.map_drop]) ?_ | refine w_draw (id := 21) (fun _ => true) (fun k => [9].contains k) [[]] 64 (by kernel_rfl) rfl (by kernel_rfl) (by simp [nm, nset, -List.map_take, -List.map_drop]) ?_ | refine w_draw (id := 22) (fun _ => true) (fun k => [6, 7, 9].contains k) [[], [], []] 64 (by kernel_rfl) rfl (by kernel_rfl) (by simp [nm, nset, -List.map_take, -List.map_drop]) ?_)
      refine w_le _ (le_trans (le_ren 34 105 (by decide) (by decide) (by simp [nm, ng, renL_id, -List.map_append, -List.map_take, -List.map_drop]) (by simp [nm, ng, renL_id, onames, -List.map_append, -List.map_take, -List.map_drop]) (by simp only [ng, nm, nu, renL_id, reduceIte, Nat.reduceEqDiff]; rfl) (by simp only [ng, nm, nu, renL_id, reduceIte, Nat.reduceEqDiff]; rfl)) (le_ren 35 117 (by decide) (by decide) (by simp [nm, ng, renL_id, -List.map_append, -List.map_take, -List.map_drop]) (by simp [nm, ng, renL_id, onames, -List.map_append, -List.map_take, -List.map_drop]) (by simp only [ng, nm, nu, renL_id, reduceIte, Nat.reduceEqDiff]; rfl) (by simp only [ng, nm, nu, renL_id, reduceIte, Nat.reduceEqDiff]; rfl))) ?_
      refine w_loopm (ι := Nat) (fun k => [(11, RVn k), (9, .ref 105 0 ((grp N B U at_ b k).map (·.1)).length), (10, .ref 117 0 ((grp N B U at_ b k).map (·.2)).length), (34, .any), (35, .any)]) (fun k => [(117, 1, ((grp N B U at_ b k).map (·.2)).map RVn), (105, 2, ((grp N B U at_ b k).map (·.1)).map RNd), (140, 2, out.map RNd), (901, 1, B.map RVn), (900, 2, N.map RNd), (7, 1, [.agg [.ref 140 0 out.length]]), (20, 1, at_.map RVn), (4, 1, [.agg [.v (.slice none 0 0)]]), (1000000000000, 2, [.agg [.ref 900 0 N.length, .ref 901 0 B.length]])]) (fun k => k ≤ root + 1) (fun k => root + 1 - k) 0 (h0 := ?_) (hs := ?_) (round := ?_)
      · omega
      · refine le_eq (by (repeat' first | exact .nil | refine .keep ?_ | refine .any ?_); first | done | fail) rfl rfl
      · intro k hk
        have hGk := hGs k
        have hGl1 := hGl k
        by_cases hkr : k ≤ root
        · have hkN : k < N.length := by omega
          have hkB : k < B.length := by omega
          have hkU : k < U.length := by omega
          rw [hub k hkU, hbg k hkB] at hGk
          by_cases hc1 : U[k] = true ∧ B[k] = b
          · rw [if_pos hc1] at hGk
            obtain ⟨hu, hb2⟩ := hc1
            have hnd : nd N k = N[k] := gdp hkN
            have okk := ok k
            rw [hnd] at okk
            have hx : xN N at_ k = (putNs (atM at_ N[k].1) [], putNs (atM at_ N[k].2) []) := by unfold xN atM; rw [hnd]
            have h24a := sn_len okk.1.1 okk.1.2
            have h24b := sn_len okk.2.1 okk.2.2
            have hA1 := l3At_ok at_ N[k].1 (by omega) fun x hx => by have := okk.1.2 x hx; omega
            have hA2 := l3At_ok at_ N[k].2 (by omega) fun x hx => by have := okk.2.2 x hx; omega
            have hS1 := l3Sorted_ok (atM at_ N[k].1) (by simp [atM]; omega)
            have hS2 := l3Sorted_ok (atM at_ N[k].2) (by simp [atM]; omega)
            have hI := fun i h1 h2 h3 => insG_at (x := xN N at_ k) (k := k) (G := grp N B U at_ b k) (i := i) h1 h2 h3
            rw [hx] at hI hGk
            generalize atM at_ N[k].1 = A1 at *
            generalize atM at_ N[k].2 = A2 at *
            generalize putNs A1 [] = X1 at *
            generalize putNs A2 [] = X2 at *
            generalize grp N B U at_ b k = G at *
            obtain ⟨Gn, hGn⟩ : ∃ Gn, Gn = G.map (·.1) := ⟨_, rfl⟩
            obtain ⟨Gk, hGk2⟩ : ∃ Gk, Gk = G.map (·.2) := ⟨_, rfl⟩
            have hGnl : Gn.length = G.length := by rw [hGn, List.length_map]
            have hGkl : Gk.length = G.length := by rw [hGk2, List.length_map]
            have hGna : ∀ i (h : i < G.length) (h2 : i < Gn.length), G[i].1 = Gn[i] := fun i h h2 => by simp [hGn]
            rw [← hGn, ← hGk2]
            repeat' first
              | refine w_seq ?_
              | refine w_block ?_
              | refine rb_n ?_
              | refine rb_ret ?_
              | refine rb_eq ?_
              | refine rb_ne (by rfl) ?_
              | refine w_exit ?_
              | refine rt_exit ?_
              | refine w_region ?_
              | refine l_nil ?_
              | refine rt_n ?_
              | refine w_ret ?_
              | refine rt_ret ?_
              | refine w_skip ?_
              | refine w_cond_t rfl ?_
              | refine w_cond_f rfl ?_
              | refine w_cnd rfl (fun hc => ?_) (fun hc => ?_)
              | refine w_cd rfl (fun hc => ?_) (fun hc => ?_)
              | refine w_cn rfl (fun hc => ?_) (fun hc => ?_)
              | refine w_cond rfl (fun hc => ?_) (fun hc => ?_)
              | (exfalso; omega)
              | (exfalso; first | exact hc hu | exact absurd (hu.symm.trans hc) (by decide))
              | (refine l_o ?_; first | refine l_op rfl (by first | (apply k_callf; first | exact ops_callf (d := 67) (hfc := hS1) | exact ops_callf (d := 78) (hfc := hS2) | fail) | fail) (hk := ?_) | refine l_op (hk := ?_) | (refine l_g ?_; first | refine l_y rfl rfl rfl ?_ | refine l_n rfl rfl rfl rfl (hk := ?_) | refine l_n' rfl rfl rfl (hk := ?_) | refine l_spnd rfl rfl rfl (h1 := fun hc => ?_) (h2 := fun hc => ?_) | refine l_spd rfl rfl rfl (h1 := fun hc => ?_) (h2 := fun hc => ?_) | refine l_spn rfl rfl rfl (h1 := fun hc => ?_) (h2 := fun hc => ?_) | refine l_sp rfl rfl rfl (h1 := fun hc => ?_) (h2 := fun hc => ?_)))
              | refine e_nil ?_
              | (refine e_o ?_; first | refine e_fl rfl (by first | exact .pl (by first | (apply q_callf; first | exact fs_callz (d := 66) (hfc := hA1) | exact fs_callz (d := 77) (hfc := hA2) | exact fs_callf (d := 67) (hfc := hS1) | exact fs_callf (d := 78) (hfc := hS2) | fail) | fail) | exact .ye rfl rfl rfl (by first | (apply q_callf; first | exact fs_callz (d := 66) (hfc := hA1) | exact fs_callz (d := 77) (hfc := hA2) | exact fs_callf (d := 67) (hfc := hS1) | exact fs_callf (d := 78) (hfc := hS2) | fail) | fail) | fail) (hk := ?_) | refine e_fl (hk := ?_) | refine e_ef rfl (by first | exact .alloca (zs := _) rfl (by decide) rfl (by decide) (by simp [nm, nset, -List.map_take, -List.map_drop]) | fail) (hk := ?_) | refine e_ef (hk := ?_) | (refine e_g ?_; first | refine e_spnd rfl rfl rfl (h1 := fun hc => ?_) (h2 := fun hc => ?_) | refine e_spd rfl rfl rfl (h1 := fun hc => ?_) (h2 := fun hc => ?_) | refine e_spn rfl rfl rfl (h1 := fun hc => ?_) (h2 := fun hc => ?_) | refine e_sp rfl rfl rfl (h1 := fun hc => ?_) (h2 := fun hc => ?_)))
              | (refine w_o ?_; first | refine w_drawS (id := 12) (rdP [(3,1000000000000),(4,1000000000000),(2,1000000000000),(6,900),(7,900),(8,900),(9,20),(13,1000000000000),(14,1000000000000),(15,1000000000000),(17,900),(18,900),(19,900),(20,20)]) (fun k => [23, 24].contains k) [[12],[]] (by kernel_rfl) rfl (by kernel_rfl) (by simp [nm, nset, -List.map_take, -List.map_drop]) ?_ | refine w_drawS (id := 14) (rdP []) (fun k => [10].contains k) [[]] (by kernel_rfl) rfl (by kernel_rfl) (by simp [nm, nset, -List.map_take, -List.map_drop]) ?_ | refine w_drawS (id := 16) (rdP []) (fun k => [0, 4, 6, 7, 11].contains k) [[], [], [], [], []] (by kernel_rfl) rfl (by kernel_rfl) (by simp [nm, nset, -List.map_take, -List.map_drop]) ?_ | refine w_drawS (id := 17) (rdP []) (fun k => [0, 4, 6, 7, 11].contains k) [[], [], [], [], []] (by kernel_rfl) rfl (by kernel_rfl) (by simp [nm, nset, -List.map_take, -List.map_drop]) ?_ | refine w_drawS (id := 21) (rdP []) (fun k => [9].contains k) [[]] (by kernel_rfl) rfl (by kernel_rfl) (by simp [nm, nset, -List.map_take, -List.map_drop]) ?_ | refine w_drawS (id := 22) (rdP []) (fun k => [6, 7, 9].contains k) [[], [], []] (by kernel_rfl) rfl (by kernel_rfl) (by simp [nm, nset, -List.map_take, -List.map_drop]) ?_)
            refine w_loopm (ι := Nat) (fun i => [(13, RVn i)]) (fun i => [(12, 2, [.agg [RNs X1, RNs X2]]), (117, 1, Gk.map RVn), (105, 2, Gn.map RNd), (140, 2, out.map RNd), (901, 1, B.map RVn), (900, 2, N.map RNd), (7, 1, [.agg [.ref 140 0 out.length]]), (20, 1, at_.map RVn), (4, 1, [.agg [.v (.slice none 0 0)]]), (1000000000000, 2, [.agg [.ref 900 0 N.length, .ref 901 0 B.length]])]) (fun i => i ≤ G.length ∧ ∀ j (h : j < G.length), j < i → ahd G[j].1 (X1, X2) = true) (fun i => G.length - i) 0 (h0 := ?_) (hs := ?_) (round := ?_)
            · exact ⟨Nat.zero_le _, fun j _ h => absurd h (Nat.not_lt_zero _)⟩
            · refine le_eq (by (repeat' first | exact .nil | refine .keep ?_ | refine .any ?_); first | done | fail) rfl rfl
            · intro i ⟨hi, hgo⟩
              by_cases hil : i < G.length
              · have hin : i < Gn.length := by omega
                have hH := l3NodeAhead_ok Gn[i] (X1, X2)
                have hga := hGna i hil hin
                cases ha : ahd Gn[i] (X1, X2) with
                | true =>
                  rw [ha] at hH
                  repeat' first
                    | refine w_seq ?_
                    | refine w_block ?_
                    | refine rb_n ?_
                    | refine rb_ret ?_
                    | refine rb_eq ?_
                    | refine rb_ne (by rfl) ?_
                    | refine w_exit ?_
                    | refine rt_exit ?_
                    | refine w_region ?_
                    | refine l_nil ?_
                    | refine rt_n ?_
                    | refine w_ret ?_
                    | refine rt_ret ?_
                    | refine w_skip ?_
                    | refine w_cond_t rfl ?_
                    | refine w_cond_f rfl ?_
                    | refine w_cnd rfl (fun hc => ?_) (fun hc => ?_)
                    | refine w_cd rfl (fun hc => ?_) (fun hc => ?_)
                    | refine w_cn rfl (fun hc => ?_) (fun hc => ?_)
                    | refine w_cond rfl (fun hc => ?_) (fun hc => ?_)
                    | (exfalso; omega)
                    | (refine l_o ?_; first | refine l_op rfl (by first | (apply k_callf; first | exact ops_callf (d := 90) (hfc := hH) | fail) | fail) (hk := ?_) | refine l_op (hk := ?_) | (refine l_g ?_; first | refine l_y rfl rfl rfl ?_ | refine l_n rfl rfl rfl rfl (hk := ?_) | refine l_n' rfl rfl rfl (hk := ?_) | refine l_spnd rfl rfl rfl (h1 := fun hc => ?_) (h2 := fun hc => ?_) | refine l_spd rfl rfl rfl (h1 := fun hc => ?_) (h2 := fun hc => ?_) | refine l_spn rfl rfl rfl (h1 := fun hc => ?_) (h2 := fun hc => ?_) | refine l_sp rfl rfl rfl (h1 := fun hc => ?_) (h2 := fun hc => ?_)))
                    | refine e_nil ?_
                    | (refine e_o ?_; first | refine e_fl (hk := ?_) | refine e_ef rfl (by first | exact .callf (d := 90) (hfc := hH) | exact .callfY (d := 90) (hfc := hH) | fail) (hk := ?_) | refine e_ef (hk := ?_) | (refine e_g ?_; first | refine e_spnd rfl rfl rfl (h1 := fun hc => ?_) (h2 := fun hc => ?_) | refine e_spd rfl rfl rfl (h1 := fun hc => ?_) (h2 := fun hc => ?_) | refine e_spn rfl rfl rfl (h1 := fun hc => ?_) (h2 := fun hc => ?_) | refine e_sp rfl rfl rfl (h1 := fun hc => ?_) (h2 := fun hc => ?_)))
                    | (refine w_o ?_; first | refine w_drawS (id := 12) (rdP []) (fun k => [9, 10, 20, 21, 23, 24].contains k) [[], [], [], [], [], []] (by kernel_rfl) rfl (by kernel_rfl) (by simp [nm, nset, -List.map_take, -List.map_drop]) ?_ | refine w_drawS (id := 14) (rdP [(7,105),(8,105),(9,12)]) (fun k => [10].contains k) [[]] (by kernel_rfl) rfl (by kernel_rfl) (by simp [nm, nset, -List.map_take, -List.map_drop]) ?_ | refine w_drawS (id := 16) (rdP []) (fun k => [0, 4, 6, 7, 11].contains k) [[], [], [], [], []] (by kernel_rfl) rfl (by kernel_rfl) (by simp [nm, nset, -List.map_take, -List.map_drop]) ?_ | refine w_drawS (id := 17) (rdP []) (fun k => [0, 4, 6, 7, 11].contains k) [[], [], [], [], []] (by kernel_rfl) rfl (by kernel_rfl) (by simp [nm, nset, -List.map_take, -List.map_drop]) ?_ | refine w_drawS (id := 21) (rdP []) (fun k => [9].contains k) [[]] (by kernel_rfl) rfl (by kernel_rfl) (by simp [nm, nset, -List.map_take, -List.map_drop]) ?_ | refine w_drawS (id := 22) (rdP []) (fun k => [6, 7, 9].contains k) [[], [], []] (by kernel_rfl) rfl (by kernel_rfl) (by simp [nm, nset, -List.map_take, -List.map_drop]) ?_)
                  -- DBG
                  refine rn_mk (i + 1) ?_ (by first | omega | (dsimp only; omega)) (le_eq (by (repeat' first | exact .nil | refine .keep ?_ | refine .any ?_); first | done | fail) rfl rfl)
                  exact ⟨by omega, fun j h hj => if hjq : j < i then hgo j h hjq else by
                    obtain rfl : j = i := by omega
                    rw [hga]; exact ha⟩
                | false =>
                  rw [ha] at hH
                  have e0 := hI i (by omega) (fun j hj hji => hgo j hj hji) (fun h => by rw [hga]; exact ha)
                  have e1 : (grp N B U at_ b (k + 1)).map (·.1) = Gn.take i ++ [(X1, X2)] ++ Gn.drop i := by rw [hGk, e0, hGn]; simp
                  have e2 : (grp N B U at_ b (k + 1)).map (·.2) = Gk.take i ++ [k] ++ Gk.drop i := by rw [hGk, e0, hGk2]; simp
                  repeat' first
                    | refine w_seq ?_
                    | refine w_block ?_
                    | refine rb_n ?_
                    | refine rb_ret ?_
                    | refine rb_eq ?_
                    | refine rb_ne (by rfl) ?_
                    | refine w_exit ?_
                    | refine rt_exit ?_
                    | refine w_region ?_
                    | refine l_nil ?_
                    | refine rt_n ?_
                    | refine w_ret ?_
                    | refine rt_ret ?_
                    | refine w_skip ?_
                    | refine w_cond_t rfl ?_
                    | refine w_cond_f rfl ?_
                    | refine w_cnd rfl (fun hc => ?_) (fun hc => ?_)
                    | refine w_cd rfl (fun hc => ?_) (fun hc => ?_)
                    | refine w_cn rfl (fun hc => ?_) (fun hc => ?_)
                    | refine w_cond rfl (fun hc => ?_) (fun hc => ?_)
                    | (exfalso; omega)
                    | (refine w_at (i := 16) ?_; refine w_le _ (le_trans (le_freeze 105 rfl (by simp only [nz, nf, nl, nb, nr, ng, nq, nu, reduceIte, Nat.reduceEqDiff, Nat.reduceAdd]; rfl) (by simp only [nz, nf, nl, nb, nr, ng, nq, nu, reduceIte, Nat.reduceEqDiff, Nat.reduceAdd]; rfl)) (le_freeze 117 rfl (by simp only [nz, nf, nl, nb, nr, ng, nq, nu, reduceIte, Nat.reduceEqDiff, Nat.reduceAdd]; rfl) (by simp only [nz, nf, nl, nb, nr, ng, nq, nu, reduceIte, Nat.reduceEqDiff, Nat.reduceAdd]; rfl))) ?_)
                    | (refine l_o ?_; first | refine l_op rfl (by first | (apply k_slice; first | exact ops_cuthm (kk := 2) rfl rfl (by omega) (by kernel_rfl) (by kernel_rfl) (by decide) (fun _ => rfl) | exact ops_cutlm (kk := 2) rfl rfl (by omega) (by kernel_rfl) (by kernel_rfl) (by decide) (fun _ => rfl) | fail) | (apply k_callf; first | exact ops_callf (d := 90) (hfc := hH) | fail) | fail) (hk := ?_) | refine l_op (hk := ?_) | (refine l_g ?_; first | refine l_y rfl rfl rfl ?_ | refine l_n rfl rfl rfl rfl (hk := ?_) | refine l_n' rfl rfl rfl (hk := ?_) | refine l_spnd rfl rfl rfl (h1 := fun hc => ?_) (h2 := fun hc => ?_) | refine l_spd rfl rfl rfl (h1 := fun hc => ?_) (h2 := fun hc => ?_) | refine l_spn rfl rfl rfl (h1 := fun hc => ?_) (h2 := fun hc => ?_) | refine l_sp rfl rfl rfl (h1 := fun hc => ?_) (h2 := fun hc => ?_)))
                    | refine e_nil ?_
                    | (refine e_o ?_; first | refine e_fl rfl (by first | exact .pl (by first | (apply q_slice; first | exact fs_cuthm (kk := 2) rfl rfl (by omega) (by kernel_rfl) (by kernel_rfl) (by decide) (fun _ => rfl) | exact fs_cutlm (kk := 2) rfl rfl (by omega) (by kernel_rfl) (by kernel_rfl) (by decide) (fun _ => rfl) | fail) | fail) | exact .ye rfl rfl rfl (by first | (apply q_slice; first | exact fs_cuthm (kk := 2) rfl rfl (by omega) (by kernel_rfl) (by kernel_rfl) (by decide) (fun _ => rfl) | exact fs_cutlm (kk := 2) rfl rfl (by omega) (by kernel_rfl) (by kernel_rfl) (by decide) (fun _ => rfl) | fail) | fail) | fail) (hk := ?_) | refine e_fl (hk := ?_) | refine e_ef rfl (by first | exact .callf (d := 90) (hfc := hH) | exact .callfY (d := 90) (hfc := hH) | fail) (hk := ?_) | refine e_ef (hk := ?_) | (refine e_g ?_; first | refine e_spnd rfl rfl rfl (h1 := fun hc => ?_) (h2 := fun hc => ?_) | refine e_spd rfl rfl rfl (h1 := fun hc => ?_) (h2 := fun hc => ?_) | refine e_spn rfl rfl rfl (h1 := fun hc => ?_) (h2 := fun hc => ?_) | refine e_sp rfl rfl rfl (h1 := fun hc => ?_) (h2 := fun hc => ?_)))
                    | (refine w_o ?_; first | refine w_drawS (id := 12) (rdP []) (fun k => [9, 10, 20, 21, 23, 24].contains k) [[], [], [], [], [], []] (by kernel_rfl) rfl (by kernel_rfl) (by simp [nm, nset, -List.map_take, -List.map_drop]) ?_ | refine w_drawS (id := 14) (rdP [(7,105),(8,105),(9,12)]) (fun k => [10].contains k) [[]] (by kernel_rfl) rfl (by kernel_rfl) (by simp [nm, nset, -List.map_take, -List.map_drop]) ?_ | refine w_drawS (id := 16) (rdP [(5,12)]) (fun k => [0, 4, 7, 11, 12].contains k) [[94],[98],[101],[105],[]] (by kernel_rfl) rfl (by kernel_rfl) (by simp [nm, nset, -List.map_take, -List.map_drop]) ?_ | refine w_drawS (id := 17) (rdP []) (fun k => [0, 4, 7, 11, 12].contains k) [[106],[110],[113],[117],[]] (by kernel_rfl) rfl (by kernel_rfl) (by simp [nm, nset, -List.map_take, -List.map_drop]) ?_ | refine w_drawS (id := 21) (rdP []) (fun k => [9].contains k) [[]] (by kernel_rfl) rfl (by kernel_rfl) (by simp [nm, nset, -List.map_take, -List.map_drop]) ?_ | refine w_drawS (id := 22) (rdP []) (fun k => [6, 7, 9].contains k) [[], [], []] (by kernel_rfl) rfl (by kernel_rfl) (by simp [nm, nset, -List.map_take, -List.map_drop]) ?_)
                  refine rn_mk (k + 1) (by omega) (by omega) (le_trans (le_drop 12 (by simp only [nz, nf, nl, nb, nr, ng, nq, nu, reduceIte, Nat.reduceEqDiff, Nat.reduceAdd]; rfl) (by simp only [nz, nf, nl, nb, nr, ng, nq, nu, reduceIte, Nat.reduceEqDiff, Nat.reduceAdd]; rfl)) ?_)
                  try dsimp only
                  rw [e1, e2]
                  refine le_eq (by (repeat' first | exact .nil | refine .keep ?_ | refine .any ?_); first | done | fail) rfl rfl
              · have e0 := hI i (by omega) (fun j hj hji => hgo j hj hji) (fun h => absurd h hil)
                have e1 : (grp N B U at_ b (k + 1)).map (·.1) = Gn.take i ++ [(X1, X2)] ++ Gn.drop i := by rw [hGk, e0, hGn]; simp
                have e2 : (grp N B U at_ b (k + 1)).map (·.2) = Gk.take i ++ [k] ++ Gk.drop i := by rw [hGk, e0, hGk2]; simp
                repeat' first
                  | refine w_seq ?_
                  | refine w_block ?_
                  | refine rb_n ?_
                  | refine rb_ret ?_
                  | refine rb_eq ?_
                  | refine rb_ne (by rfl) ?_
                  | refine w_exit ?_
                  | refine rt_exit ?_
                  | refine w_region ?_
                  | refine l_nil ?_
                  | refine rt_n ?_
                  | refine w_ret ?_
                  | refine rt_ret ?_
                  | refine w_skip ?_
                  | refine w_cond_t rfl ?_
                  | refine w_cond_f rfl ?_
                  | refine w_cnd rfl (fun hc => ?_) (fun hc => ?_)
                  | refine w_cd rfl (fun hc => ?_) (fun hc => ?_)
                  | refine w_cn rfl (fun hc => ?_) (fun hc => ?_)
                  | refine w_cond rfl (fun hc => ?_) (fun hc => ?_)
                  | (exfalso; omega)
                  | (refine w_at (i := 16) ?_; refine w_le _ (le_trans (le_freeze 105 rfl (by simp only [nz, nf, nl, nb, nr, ng, nq, nu, reduceIte, Nat.reduceEqDiff, Nat.reduceAdd]; rfl) (by simp only [nz, nf, nl, nb, nr, ng, nq, nu, reduceIte, Nat.reduceEqDiff, Nat.reduceAdd]; rfl)) (le_freeze 117 rfl (by simp only [nz, nf, nl, nb, nr, ng, nq, nu, reduceIte, Nat.reduceEqDiff, Nat.reduceAdd]; rfl) (by simp only [nz, nf, nl, nb, nr, ng, nq, nu, reduceIte, Nat.reduceEqDiff, Nat.reduceAdd]; rfl))) ?_)
                  | (refine l_o ?_; first | refine l_op rfl (by first | (apply k_slice; first | exact ops_cuthm (kk := 2) rfl rfl (by omega) (by kernel_rfl) (by kernel_rfl) (by decide) (fun _ => rfl) | exact ops_cutlm (kk := 2) rfl rfl (by omega) (by kernel_rfl) (by kernel_rfl) (by decide) (fun _ => rfl) | fail) | fail) (hk := ?_) | refine l_op (hk := ?_) | (refine l_g ?_; first | refine l_y rfl rfl rfl ?_ | refine l_n rfl rfl rfl rfl (hk := ?_) | refine l_n' rfl rfl rfl (hk := ?_) | refine l_spnd rfl rfl rfl (h1 := fun hc => ?_) (h2 := fun hc => ?_) | refine l_spd rfl rfl rfl (h1 := fun hc => ?_) (h2 := fun hc => ?_) | refine l_spn rfl rfl rfl (h1 := fun hc => ?_) (h2 := fun hc => ?_) | refine l_sp rfl rfl rfl (h1 := fun hc => ?_) (h2 := fun hc => ?_)))
                  | refine e_nil ?_
                  | (refine e_o ?_; first | refine e_fl rfl (by first | exact .pl (by first | (apply q_slice; first | exact fs_cuthm (kk := 2) rfl rfl (by omega) (by kernel_rfl) (by kernel_rfl) (by decide) (fun _ => rfl) | exact fs_cutlm (kk := 2) rfl rfl (by omega) (by kernel_rfl) (by kernel_rfl) (by decide) (fun _ => rfl) | fail) | fail) | exact .ye rfl rfl rfl (by first | (apply q_slice; first | exact fs_cuthm (kk := 2) rfl rfl (by omega) (by kernel_rfl) (by kernel_rfl) (by decide) (fun _ => rfl) | exact fs_cutlm (kk := 2) rfl rfl (by omega) (by kernel_rfl) (by kernel_rfl) (by decide) (fun _ => rfl) | fail) | fail) | fail) (hk := ?_) | refine e_fl (hk := ?_) | refine e_ef (hk := ?_) | (refine e_g ?_; first | refine e_spnd rfl rfl rfl (h1 := fun hc => ?_) (h2 := fun hc => ?_) | refine e_spd rfl rfl rfl (h1 := fun hc => ?_) (h2 := fun hc => ?_) | refine e_spn rfl rfl rfl (h1 := fun hc => ?_) (h2 := fun hc => ?_) | refine e_sp rfl rfl rfl (h1 := fun hc => ?_) (h2 := fun hc => ?_)))
                  | (refine w_o ?_; first | refine w_drawS (id := 12) (rdP []) (fun k => [9, 10, 20, 21, 23, 24].contains k) [[], [], [], [], [], []] (by kernel_rfl) rfl (by kernel_rfl) (by simp [nm, nset, -List.map_take, -List.map_drop]) ?_ | refine w_drawS (id := 14) (rdP [(7,105),(8,105),(9,12)]) (fun k => [10].contains k) [[]] (by kernel_rfl) rfl (by kernel_rfl) (by simp [nm, nset, -List.map_take, -List.map_drop]) ?_ | refine w_drawS (id := 16) (rdP [(5,12)]) (fun k => [0, 4, 7, 11, 12].contains k) [[94],[98],[101],[105],[]] (by kernel_rfl) rfl (by kernel_rfl) (by simp [nm, nset, -List.map_take, -List.map_drop]) ?_ | refine w_drawS (id := 17) (rdP []) (fun k => [0, 4, 7, 11, 12].contains k) [[106],[110],[113],[117],[]] (by kernel_rfl) rfl (by kernel_rfl) (by simp [nm, nset, -List.map_take, -List.map_drop]) ?_ | refine w_drawS (id := 21) (rdP []) (fun k => [9].contains k) [[]] (by kernel_rfl) rfl (by kernel_rfl) (by simp [nm, nset, -List.map_take, -List.map_drop]) ?_ | refine w_drawS (id := 22) (rdP []) (fun k => [6, 7, 9].contains k) [[], [], []] (by kernel_rfl) rfl (by kernel_rfl) (by simp [nm, nset, -List.map_take, -List.map_drop]) ?_)
                refine rn_mk (k + 1) (by omega) (by omega) (le_trans (le_drop 12 (by simp only [nz, nf, nl, nb, nr, ng, nq, nu, reduceIte, Nat.reduceEqDiff, Nat.reduceAdd]; rfl) (by simp only [nz, nf, nl, nb, nr, ng, nq, nu, reduceIte, Nat.reduceEqDiff, Nat.reduceAdd]; rfl)) ?_)
                try dsimp only
                rw [e1, e2]
                refine le_eq (by (repeat' first | exact .nil | refine .keep ?_ | refine .any ?_); first | done | fail) rfl rfl
          · rw [if_neg hc1] at hGk
            by_cases hu : U[k] = true
            · have hb3 : B[k] ≠ b := fun h => hc1 ⟨hu, h⟩
              repeat' first
                | refine w_seq ?_
                | refine w_block ?_
                | refine rb_n ?_
                | refine rb_ret ?_
                | refine rb_eq ?_
                | refine rb_ne (by rfl) ?_
                | refine w_exit ?_
                | refine rt_exit ?_
                | refine w_region ?_
                | refine l_nil ?_
                | refine rt_n ?_
                | refine w_ret ?_
                | refine rt_ret ?_
                | refine w_skip ?_
                | refine w_cond_t rfl ?_
                | refine w_cond_f rfl ?_
                | refine w_cnd rfl (fun hc => ?_) (fun hc => ?_)
                | refine w_cd rfl (fun hc => ?_) (fun hc => ?_)
                | refine w_cn rfl (fun hc => ?_) (fun hc => ?_)
                | refine w_cond rfl (fun hc => ?_) (fun hc => ?_)
                | (exfalso; omega)
                | (exfalso; first | exact hc hu | exact absurd (hu.symm.trans hc) (by decide))
                | (refine l_o ?_; first | refine l_op (hk := ?_) | (refine l_g ?_; first | refine l_y rfl rfl rfl ?_ | refine l_n rfl rfl rfl rfl (hk := ?_) | refine l_n' rfl rfl rfl (hk := ?_) | refine l_spnd rfl rfl rfl (h1 := fun hc => ?_) (h2 := fun hc => ?_) | refine l_spd rfl rfl rfl (h1 := fun hc => ?_) (h2 := fun hc => ?_) | refine l_spn rfl rfl rfl (h1 := fun hc => ?_) (h2 := fun hc => ?_) | refine l_sp rfl rfl rfl (h1 := fun hc => ?_) (h2 := fun hc => ?_)))
                | refine d_nil ?_
                | (refine d_o ?_; first | refine d_fl (hk := ?_) | refine d_ef (hk := ?_) | (refine d_g ?_; first | refine d_spnd rfl rfl rfl (h1 := fun hc => ?_) (h2 := fun hc => ?_) | refine d_spd rfl rfl rfl (h1 := fun hc => ?_) (h2 := fun hc => ?_) | refine d_spn rfl rfl rfl (h1 := fun hc => ?_) (h2 := fun hc => ?_) | refine d_sp rfl rfl rfl (h1 := fun hc => ?_) (h2 := fun hc => ?_)))
                | (refine w_o ?_; first | refine w_draw (id := 12) (fun _ => true) (fun k => [9, 10, 20, 21, 23, 24].contains k) [[], [], [], [], [], []] 64 (by kernel_rfl) rfl (by kernel_rfl) (by simp [nm, nset, -List.map_take, -List.map_drop]) ?_ | refine w_draw (id := 14) (fun _ => true) (fun k => [10].contains k) [[]] 64 (by kernel_rfl) rfl (by kernel_rfl) (by simp [nm, nset, -List.map_take, -List.map_drop]) ?_ | refine w_draw (id := 16) (fun _ => true) (fun k => [0, 4, 6, 7, 11].contains k) [[], [], [], [], []] 64 (by kernel_rfl) rfl (by kernel_rfl) (by simp [nm, nset, -List.map_take, -List.map_drop]) ?_ | refine w_draw (id := 17) (fun _ => true) (fun k => [0, 4, 6, 7, 11].contains k) [[], [], [], [], []] 64 (by kernel_rfl) rfl (by kernel_rfl) (by simp [nm, nset, -List.map_take, -List.map_drop]) ?_ | refine w_draw (id := 21) (fun _ => true) (fun k => [9].contains k) [[]] 64 (by kernel_rfl) rfl (by kernel_rfl) (by simp [nm, nset, -List.map_take, -List.map_drop]) ?_ | refine w_draw (id := 22) (fun _ => true) (fun k => [6, 7, 9].contains k) [[], [], []] 64 (by kernel_rfl) rfl (by kernel_rfl) (by simp [nm, nset, -List.map_take, -List.map_drop]) ?_)
              refine rn_mk (k + 1) (by omega) (by omega) ?_
              try dsimp only
              rw [hGk]
              simp only [List.length_map]
              refine le_eq (by (repeat' first | exact .nil | refine .keep ?_ | refine .any ?_); first | done | fail) rfl rfl
            · have hu : U[k] = false := by simpa using hu
              repeat' first
                | refine w_seq ?_
                | refine w_block ?_
                | refine rb_n ?_
                | refine rb_ret ?_
                | refine rb_eq ?_
                | refine rb_ne (by rfl) ?_
                | refine w_exit ?_
                | refine rt_exit ?_
                | refine w_region ?_
                | refine l_nil ?_
                | refine rt_n ?_
                | refine w_ret ?_
                | refine rt_ret ?_
                | refine w_skip ?_
                | refine w_cond_t rfl ?_
                | refine w_cond_f rfl ?_
                | refine w_cnd rfl (fun hc => ?_) (fun hc => ?_)
                | refine w_cd rfl (fun hc => ?_) (fun hc => ?_)
                | refine w_cn rfl (fun hc => ?_) (fun hc => ?_)
                | refine w_cond rfl (fun hc => ?_) (fun hc => ?_)
                | (exfalso; omega)
                | (exfalso; first | exact hc hu | exact absurd (hu.symm.trans hc) (by decide))
                | (refine l_o ?_; first | refine l_op (hk := ?_) | (refine l_g ?_; first | refine l_y rfl rfl rfl ?_ | refine l_n rfl rfl rfl rfl (hk := ?_) | refine l_n' rfl rfl rfl (hk := ?_) | refine l_spnd rfl rfl rfl (h1 := fun hc => ?_) (h2 := fun hc => ?_) | refine l_spd rfl rfl rfl (h1 := fun hc => ?_) (h2 := fun hc => ?_) | refine l_spn rfl rfl rfl (h1 := fun hc => ?_) (h2 := fun hc => ?_) | refine l_sp rfl rfl rfl (h1 := fun hc => ?_) (h2 := fun hc => ?_)))
                | refine d_nil ?_
                | (refine d_o ?_; first | refine d_fl (hk := ?_) | refine d_ef (hk := ?_) | (refine d_g ?_; first | refine d_spnd rfl rfl rfl (h1 := fun hc => ?_) (h2 := fun hc => ?_) | refine d_spd rfl rfl rfl (h1 := fun hc => ?_) (h2 := fun hc => ?_) | refine d_spn rfl rfl rfl (h1 := fun hc => ?_) (h2 := fun hc => ?_) | refine d_sp rfl rfl rfl (h1 := fun hc => ?_) (h2 := fun hc => ?_)))
                | (refine w_o ?_; first | refine w_draw (id := 12) (fun _ => true) (fun k => [9, 10, 20, 21, 23, 24].contains k) [[], [], [], [], [], []] 64 (by kernel_rfl) rfl (by kernel_rfl) (by simp [nm, nset, -List.map_take, -List.map_drop]) ?_ | refine w_draw (id := 14) (fun _ => true) (fun k => [10].contains k) [[]] 64 (by kernel_rfl) rfl (by kernel_rfl) (by simp [nm, nset, -List.map_take, -List.map_drop]) ?_ | refine w_draw (id := 16) (fun _ => true) (fun k => [0, 4, 6, 7, 11].contains k) [[], [], [], [], []] 64 (by kernel_rfl) rfl (by kernel_rfl) (by simp [nm, nset, -List.map_take, -List.map_drop]) ?_ | refine w_draw (id := 17) (fun _ => true) (fun k => [0, 4, 6, 7, 11].contains k) [[], [], [], [], []] 64 (by kernel_rfl) rfl (by kernel_rfl) (by simp [nm, nset, -List.map_take, -List.map_drop]) ?_ | refine w_draw (id := 21) (fun _ => true) (fun k => [9].contains k) [[]] 64 (by kernel_rfl) rfl (by kernel_rfl) (by simp [nm, nset, -List.map_take, -List.map_drop]) ?_ | refine w_draw (id := 22) (fun _ => true) (fun k => [6, 7, 9].contains k) [[], [], []] 64 (by kernel_rfl) rfl (by kernel_rfl) (by simp [nm, nset, -List.map_take, -List.map_drop]) ?_)
              refine rn_mk (k + 1) (by omega) (by omega) ?_
              try dsimp only
              rw [hGk]
              simp only [List.length_map]
              refine le_eq (by (repeat' first | exact .nil | refine .keep ?_ | refine .any ?_); first | done | fail) rfl rfl
        · obtain rfl : k = root + 1 := by omega
          have hGm : ∀ e ∈ grp N B U at_ b (root + 1), e.2 < root + 1 := fun e he => (grp_mem.1 he).1
          generalize grp N B U at_ b (root + 1) = G at *
          obtain ⟨Gn, hGn⟩ : ∃ Gn, Gn = G.map (·.1) := ⟨_, rfl⟩
          obtain ⟨Gk, hGk2⟩ : ∃ Gk, Gk = G.map (·.2) := ⟨_, rfl⟩
          have hGnl : Gn.length = G.length := by rw [hGn, List.length_map]
          have hGkl : Gk.length = G.length := by rw [hGk2, List.length_map]
          have hGkb : ∀ i (h : i < Gk.length), Gk[i] < root + 1 := fun i h => by
            have h2 : i < G.length := by omega
            simp only [hGk2, List.getElem_map]
            exact hGm _ (List.getElem_mem h2)
          rw [← hGn, ← hGk2] at hst1 ⊢
          repeat' first
            | refine w_seq ?_
            | refine w_block ?_
            | refine rb_n ?_
            | refine rb_ret ?_
            | refine rb_eq ?_
            | refine rb_ne (by rfl) ?_
            | refine w_exit ?_
            | refine rt_exit ?_
            | refine w_region ?_
            | refine l_nil ?_
            | refine rt_n ?_
            | refine w_ret ?_
            | refine rt_ret ?_
            | refine w_skip ?_
            | refine w_cond_t rfl ?_
            | refine w_cond_f rfl ?_
            | refine w_cnd rfl (fun hc => ?_) (fun hc => ?_)
            | refine w_cd rfl (fun hc => ?_) (fun hc => ?_)
            | refine w_cn rfl (fun hc => ?_) (fun hc => ?_)
            | refine w_cond rfl (fun hc => ?_) (fun hc => ?_)
            | (exfalso; omega)
            | (refine l_o ?_; first | refine l_op (hk := ?_) | (refine l_g ?_; first | refine l_y rfl rfl rfl ?_ | refine l_n rfl rfl rfl rfl (hk := ?_) | refine l_n' rfl rfl rfl (hk := ?_) | refine l_spnd rfl rfl rfl (h1 := fun hc => ?_) (h2 := fun hc => ?_) | refine l_spd rfl rfl rfl (h1 := fun hc => ?_) (h2 := fun hc => ?_) | refine l_spn rfl rfl rfl (h1 := fun hc => ?_) (h2 := fun hc => ?_) | refine l_sp rfl rfl rfl (h1 := fun hc => ?_) (h2 := fun hc => ?_)))
            | refine d_nil ?_
            | (refine d_o ?_; first | refine d_fl (hk := ?_) | refine d_ef (hk := ?_) | (refine d_g ?_; first | refine d_spnd rfl rfl rfl (h1 := fun hc => ?_) (h2 := fun hc => ?_) | refine d_spd rfl rfl rfl (h1 := fun hc => ?_) (h2 := fun hc => ?_) | refine d_spn rfl rfl rfl (h1 := fun hc => ?_) (h2 := fun hc => ?_) | refine d_sp rfl rfl rfl (h1 := fun hc => ?_) (h2 := fun hc => ?_)))
            | (refine w_o ?_; first | refine w_draw (id := 12) (fun _ => true) (fun k => [9, 10, 20, 21, 23, 24].contains k) [[], [], [], [], [], []] 64 (by kernel_rfl) rfl (by kernel_rfl) (by simp [nm, nset, -List.map_take, -List.map_drop]) ?_ | refine w_draw (id := 14) (fun _ => true) (fun k => [10].contains k) [[]] 64 (by kernel_rfl) rfl (by kernel_rfl) (by simp [nm, nset, -List.map_take, -List.map_drop]) ?_ | refine w_draw (id := 16) (fun _ => true) (fun k => [0, 4, 6, 7, 11].contains k) [[], [], [], [], []] 64 (by kernel_rfl) rfl (by kernel_rfl) (by simp [nm, nset, -List.map_take, -List.map_drop]) ?_ | refine w_draw (id := 17) (fun _ => true) (fun k => [0, 4, 6, 7, 11].contains k) [[], [], [], [], []] 64 (by kernel_rfl) rfl (by kernel_rfl) (by simp [nm, nset, -List.map_take, -List.map_drop]) ?_ | refine w_draw (id := 21) (fun _ => true) (fun k => [9].contains k) [[]] 64 (by kernel_rfl) rfl (by kernel_rfl) (by simp [nm, nset, -List.map_take, -List.map_drop]) ?_ | refine w_draw (id := 22) (fun _ => true) (fun k => [6, 7, 9].contains k) [[], [], []] 64 (by kernel_rfl) rfl (by kernel_rfl) (by simp [nm, nset, -List.map_take, -List.map_drop]) ?_)
          refine w_le _ (le_perm [140, 117, 105] rfl (by simp only [oerase, reduceIte, Nat.reduceEqDiff, List.cons_append, List.nil_append]; rfl)) ?_
          refine w_loopm (ι := Nat) (fun i => [(14, RVn i)]) (fun i => [(140, 2, (out ++ Gn.take i).map RNd), (117, 1, Gk.map RVn), (105, 2, Gn.map RNd), (901, 1, B.map RVn), (900, 2, N.map RNd), (7, 1, [.agg [.ref 140 0 (out ++ Gn.take i).length]]), (20, 1, (asg at_ out.length (Gk.take i)).map RVn), (4, 1, [.agg [.v (.slice none 0 0)]]), (1000000000000, 2, [.agg [.ref 900 0 N.length, .ref 901 0 B.length]])]) (fun i => i ≤ Gn.length) (fun i => Gn.length - i) 0 (h0 := ?_) (hs := ?_) (round := ?_)
          · omega
          · rw [List.take_zero, List.take_zero, List.append_nil, asg]
            refine le_eq (by (repeat' first | exact .nil | refine .keep ?_ | refine .any ?_); first | done | fail) rfl rfl
          · intro i hi
            have hasl := asg_len (Gk.take i) at_ out.length
            have hol : (out ++ Gn.take i).length = out.length + i := by rw [List.length_append, List.length_take]; omega
            by_cases hil : i < Gn.length
            · have hik : i < Gk.length := by omega
              have hkb := hGkb i hik
              have e1 : (out ++ Gn.take i) ++ [Gn[i]] = out ++ Gn.take (i + 1) := by rw [take_next hil, List.append_assoc]
              have e2 : (asg at_ out.length (Gk.take i)).set Gk[i] (out ++ Gn.take i).length = asg at_ out.length (Gk.take (i + 1)) := by
                rw [take_next hik, asg_snoc, hol, List.length_take]; congr 2; omega
              generalize out ++ Gn.take i = O1 at *
              generalize asg at_ out.length (Gk.take i) = A1 at *
              repeat' first
                | refine w_seq ?_
                | refine w_block ?_
                | refine rb_n ?_
                | refine rb_ret ?_
                | refine rb_eq ?_
                | refine rb_ne (by rfl) ?_
                | refine w_exit ?_
                | refine rt_exit ?_
                | refine w_region ?_
                | refine l_nil ?_
                | refine rt_n ?_
                | refine w_ret ?_
                | refine rt_ret ?_
                | refine w_skip ?_
                | refine w_cond_t rfl ?_
                | refine w_cond_f rfl ?_
                | refine w_cnd rfl (fun hc => ?_) (fun hc => ?_)
                | refine w_cd rfl (fun hc => ?_) (fun hc => ?_)
                | refine w_cn rfl (fun hc => ?_) (fun hc => ?_)
                | refine w_cond rfl (fun hc => ?_) (fun hc => ?_)
                | (exfalso; omega)
                | (refine l_o ?_; first | refine l_op (hk := ?_) | (refine l_g ?_; first | refine l_y rfl rfl rfl ?_ | refine l_n rfl rfl rfl rfl (hk := ?_) | refine l_n' rfl rfl rfl (hk := ?_) | refine l_spnd rfl rfl rfl (h1 := fun hc => ?_) (h2 := fun hc => ?_) | refine l_spd rfl rfl rfl (h1 := fun hc => ?_) (h2 := fun hc => ?_) | refine l_spn rfl rfl rfl (h1 := fun hc => ?_) (h2 := fun hc => ?_) | refine l_sp rfl rfl rfl (h1 := fun hc => ?_) (h2 := fun hc => ?_)))
                | refine e_nil ?_
                | (refine e_o ?_; first | refine e_fl (hk := ?_) | refine e_ef (hk := ?_) | (refine e_g ?_; first | refine e_spnd rfl rfl rfl (h1 := fun hc => ?_) (h2 := fun hc => ?_) | refine e_spd rfl rfl rfl (h1 := fun hc => ?_) (h2 := fun hc => ?_) | refine e_spn rfl rfl rfl (h1 := fun hc => ?_) (h2 := fun hc => ?_) | refine e_sp rfl rfl rfl (h1 := fun hc => ?_) (h2 := fun hc => ?_)))
                | (refine w_o ?_; first | refine w_drawS (id := 12) (rdP []) (fun k => [9, 10, 20, 21, 23, 24].contains k) [[], [], [], [], [], []] (by kernel_rfl) rfl (by kernel_rfl) (by simp [nm, nset, -List.map_take, -List.map_drop]) ?_ | refine w_drawS (id := 14) (rdP []) (fun k => [10].contains k) [[]] (by kernel_rfl) rfl (by kernel_rfl) (by simp [nm, nset, -List.map_take, -List.map_drop]) ?_ | refine w_drawS (id := 16) (rdP []) (fun k => [0, 4, 6, 7, 11].contains k) [[], [], [], [], []] (by kernel_rfl) rfl (by kernel_rfl) (by simp [nm, nset, -List.map_take, -List.map_drop]) ?_ | refine w_drawS (id := 17) (rdP []) (fun k => [0, 4, 6, 7, 11].contains k) [[], [], [], [], []] (by kernel_rfl) rfl (by kernel_rfl) (by simp [nm, nset, -List.map_take, -List.map_drop]) ?_ | refine w_drawS (id := 21) (rdP [(3,117),(4,117),(5,7),(6,7),(8,20)]) (fun k => [9].contains k) [[]] (by kernel_rfl) rfl (by kernel_rfl) (by simp [nm, nset, -List.map_take, -List.map_drop]) ?_ | refine w_drawS (id := 22) (rdP [(0,7),(1,7),(8,7),(4,105),(5,105)]) (fun k => [7, 9].contains k) [[240],[]] (by kernel_rfl) rfl (by kernel_rfl) (by simp [nm, nset, -List.map_take, -List.map_drop]) ?_)
              refine rn_mk (i + 1) (by omega) (by omega) (le_trans (le_kill 140 (by simp only [nz, nf, nl, nb, nr, ng, nq, nu, reduceIte, Nat.reduceEqDiff, Nat.reduceAdd]; rfl)) (le_trans (le_ren 240 140 (by decide) (by decide) (by simp [nm, ng, renL_id, -List.map_append, -List.map_take, -List.map_drop]) (by simp [nm, ng, renL_id, onames, -List.map_append, -List.map_take, -List.map_drop]) (by simp only [ng, nm, nu, renL_id, reduceIte, Nat.reduceEqDiff]; rfl) (by simp only [ng, nm, nu, renL_id, reduceIte, Nat.reduceEqDiff]; rfl)) ?_))
              try dsimp only
              rw [e2, ← e1]
              refine le_eq (by (repeat' first | exact .nil | refine .keep ?_ | refine .any ?_); first | done | fail) rfl rfl
            · obtain rfl : i = Gn.length := by omega
              have hkl : Gk.take Gn.length = Gk := List.take_of_length_le (by omega)
              rw [List.take_length, hkl]
              repeat' first
                | refine w_seq ?_
                | refine w_block ?_
                | refine rb_n ?_
                | refine rb_ret ?_
                | refine rb_eq ?_
                | refine rb_ne (by rfl) ?_
                | refine w_exit ?_
                | refine rt_exit ?_
                | refine w_region ?_
                | refine l_nil ?_
                | refine rt_n ?_
                | refine w_ret ?_
                | refine rt_ret ?_
                | refine w_skip ?_
                | refine w_cond_t rfl ?_
                | refine w_cond_f rfl ?_
                | refine w_cnd rfl (fun hc => ?_) (fun hc => ?_)
                | refine w_cd rfl (fun hc => ?_) (fun hc => ?_)
                | refine w_cn rfl (fun hc => ?_) (fun hc => ?_)
                | refine w_cond rfl (fun hc => ?_) (fun hc => ?_)
                | (exfalso; omega)
                | (refine l_o ?_; first | refine l_op (hk := ?_) | (refine l_g ?_; first | refine l_y rfl rfl rfl ?_ | refine l_n rfl rfl rfl rfl (hk := ?_) | refine l_n' rfl rfl rfl (hk := ?_) | refine l_spnd rfl rfl rfl (h1 := fun hc => ?_) (h2 := fun hc => ?_) | refine l_spd rfl rfl rfl (h1 := fun hc => ?_) (h2 := fun hc => ?_) | refine l_spn rfl rfl rfl (h1 := fun hc => ?_) (h2 := fun hc => ?_) | refine l_sp rfl rfl rfl (h1 := fun hc => ?_) (h2 := fun hc => ?_)))
                | refine d_nil ?_
                | (refine d_o ?_; first | refine d_fl (hk := ?_) | refine d_ef (hk := ?_) | (refine d_g ?_; first | refine d_spnd rfl rfl rfl (h1 := fun hc => ?_) (h2 := fun hc => ?_) | refine d_spd rfl rfl rfl (h1 := fun hc => ?_) (h2 := fun hc => ?_) | refine d_spn rfl rfl rfl (h1 := fun hc => ?_) (h2 := fun hc => ?_) | refine d_sp rfl rfl rfl (h1 := fun hc => ?_) (h2 := fun hc => ?_)))
                | (refine w_o ?_; first | refine w_draw (id := 12) (fun _ => true) (fun k => [9, 10, 20, 21, 23, 24].contains k) [[], [], [], [], [], []] 64 (by kernel_rfl) rfl (by kernel_rfl) (by simp [nm, nset, -List.map_take, -List.map_drop]) ?_ | refine w_draw (id := 14) (fun _ => true) (fun k => [10].contains k) [[]] 64 (by kernel_rfl) rfl (by kernel_rfl) (by simp [nm, nset, -List.map_take, -List.map_drop]) ?_ | refine w_draw (id := 16) (fun _ => true) (fun k => [0, 4, 6, 7, 11].contains k) [[], [], [], [], []] 64 (by kernel_rfl) rfl (by kernel_rfl) (by simp [nm, nset, -List.map_take, -List.map_drop]) ?_ | refine w_draw (id := 17) (fun _ => true) (fun k => [0, 4, 6, 7, 11].contains k) [[], [], [], [], []] 64 (by kernel_rfl) rfl (by kernel_rfl) (by simp [nm, nset, -List.map_take, -List.map_drop]) ?_ | refine w_draw (id := 21) (fun _ => true) (fun k => [9].contains k) [[]] 64 (by kernel_rfl) rfl (by kernel_rfl) (by simp [nm, nset, -List.map_take, -List.map_drop]) ?_ | refine w_draw (id := 22) (fun _ => true) (fun k => [6, 7, 9].contains k) [[], [], []] 64 (by kernel_rfl) rfl (by kernel_rfl) (by simp [nm, nset, -List.map_take, -List.map_drop]) ?_)
              refine rn_mk (b + 1) (by omega) (by omega) (le_trans (le_drop 105 (by simp only [nz, nf, nl, nb, nr, ng, nq, nu, reduceIte, Nat.reduceEqDiff, Nat.reduceAdd]; rfl) (by simp only [nz, nf, nl, nb, nr, ng, nq, nu, reduceIte, Nat.reduceEqDiff, Nat.reduceAdd]; rfl)) (le_trans (le_drop 117 (by simp only [nz, nf, nl, nb, nr, ng, nq, nu, reduceIte, Nat.reduceEqDiff, Nat.reduceAdd]; rfl) (by simp only [nz, nf, nl, nb, nr, ng, nq, nu, reduceIte, Nat.reduceEqDiff, Nat.reduceAdd]; rfl)) ?_))
              try dsimp only
              rw [hst1]
              try dsimp only
              rw [asg_len]
              refine le_eq (by (repeat' first | exact .nil | refine .keep ?_ | refine .any ?_); first | done | fail) rfl rfl
    · have hbe : b = B[root] + 1 := by omega
      rw [hbe]
      have hsm2 := hsm (B[root] + 1)
      generalize rndTo N B U root (B[root] + 1) = q at *
      repeat' first
        | refine w_seq ?_
        | refine w_block ?_
        | refine rb_n ?_
        | refine rb_ret ?_
        | refine rb_eq ?_
        | refine rb_ne (by rfl) ?_
        | refine w_exit ?_
        | refine rt_exit ?_
        | refine w_region ?_
        | refine l_nil ?_
        | refine rt_n ?_
        | refine w_ret ?_
        | refine rt_ret ?_
        | refine w_skip ?_
        | refine w_cond_t rfl ?_
        | refine w_cond_f rfl ?_
        | refine w_cnd rfl (fun hc => ?_) (fun hc => ?_)
        | refine w_cd rfl (fun hc => ?_) (fun hc => ?_)
        | refine w_cn rfl (fun hc => ?_) (fun hc => ?_)
        | refine w_cond rfl (fun hc => ?_) (fun hc => ?_)
        | (exfalso; omega)
        | (refine l_o ?_; first | refine l_op (hk := ?_) | (refine l_g ?_; first | refine l_y rfl rfl rfl ?_ | refine l_n rfl rfl rfl rfl (hk := ?_) | refine l_n' rfl rfl rfl (hk := ?_) | refine l_spnd rfl rfl rfl (h1 := fun hc => ?_) (h2 := fun hc => ?_) | refine l_spd rfl rfl rfl (h1 := fun hc => ?_) (h2 := fun hc => ?_) | refine l_spn rfl rfl rfl (h1 := fun hc => ?_) (h2 := fun hc => ?_) | refine l_sp rfl rfl rfl (h1 := fun hc => ?_) (h2 := fun hc => ?_)))
        | refine d_nil ?_
        | (refine d_o ?_; first | refine d_fl (hk := ?_) | refine d_ef (hk := ?_) | (refine d_g ?_; first | refine d_spnd rfl rfl rfl (h1 := fun hc => ?_) (h2 := fun hc => ?_) | refine d_spd rfl rfl rfl (h1 := fun hc => ?_) (h2 := fun hc => ?_) | refine d_spn rfl rfl rfl (h1 := fun hc => ?_) (h2 := fun hc => ?_) | refine d_sp rfl rfl rfl (h1 := fun hc => ?_) (h2 := fun hc => ?_)))
        | (refine w_o ?_; first | refine w_draw (id := 12) (fun _ => true) (fun k => [9, 10, 20, 21, 23, 24].contains k) [[], [], [], [], [], []] 64 (by kernel_rfl) rfl (by kernel_rfl) (by simp [nm, nset, -List.map_take, -List.map_drop]) ?_ | refine w_draw (id := 14) (fun _ => true) (fun k => [10].contains k) [[]] 64 (by kernel_rfl) rfl (by kernel_rfl) (by simp [nm, nset, -List.map_take, -List.map_drop]) ?_ | refine w_draw (id := 16) (fun _ => true) (fun k => [0, 4, 6, 7, 11].contains k) [[], [], [], [], []] 64 (by kernel_rfl) rfl (by kernel_rfl) (by simp [nm, nset, -List.map_take, -List.map_drop]) ?_ | refine w_draw (id := 17) (fun _ => true) (fun k => [0, 4, 6, 7, 11].contains k) [[], [], [], [], []] 64 (by kernel_rfl) rfl (by kernel_rfl) (by simp [nm, nset, -List.map_take, -List.map_drop]) ?_ | refine w_draw (id := 21) (fun _ => true) (fun k => [9].contains k) [[]] 64 (by kernel_rfl) rfl (by kernel_rfl) (by simp [nm, nset, -List.map_take, -List.map_drop]) ?_ | refine w_draw (id := 22) (fun _ => true) (fun k => [6, 7, 9].contains k) [[], [], []] 64 (by kernel_rfl) rfl (by kernel_rfl) (by simp [nm, nset, -List.map_take, -List.map_drop]) ?_)
      refine en_le _ (le_trans (le_seal' 1000000000000 0 0 900 rfl rfl rfl rfl (by simp) (by simp [nm]) (by decide) (by simp only [nz, nf, nl, nb, nr, ng, nq, nu, reduceIte, Nat.reduceEqDiff, Nat.reduceAdd]; rfl)) (le_trans (le_seal' 1000000000000 0 1 901 rfl rfl rfl rfl (by simp) (by simp [nm]) (by decide) (by simp only [nz, nf, nl, nb, nr, ng, nq, nu, reduceIte, Nat.reduceEqDiff, Nat.reduceAdd]; rfl)) (le_trans (le_drop 7 (by simp only [nz, nf, nl, nb, nr, ng, nq, nu, reduceIte, Nat.reduceEqDiff, Nat.reduceAdd]; rfl) (by simp only [nz, nf, nl, nb, nr, ng, nq, nu, reduceIte, Nat.reduceEqDiff, Nat.reduceAdd]; rfl)) (le_drop 20 (by simp only [nz, nf, nl, nb, nr, ng, nq, nu, reduceIte, Nat.reduceEqDiff, Nat.reduceAdd]; rfl) (by simp only [nz, nf, nl, nb, nr, ng, nq, nu, reduceIte, Nat.reduceEqDiff, Nat.reduceAdd]; rfl))))) ?_
      refine en_endm ([(4, 1, [.agg [.ref 140 0 q.2.length]])]) (hf := Try.results131) (hO := ?_) (hr := ?_)
      · rfl
      · rfl
end Go.Proofs.Ytdignmbeiohhiaa
