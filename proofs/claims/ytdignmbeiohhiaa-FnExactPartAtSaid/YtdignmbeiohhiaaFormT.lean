/- The reference's book of nodes: a node put into it, a form's nodes put into it. For all forms within the bounds that the theorems name. -/
import Derived.Test.YtdignmbeiohhiaaFormS
import Derived.Test.YtdignmbeiohhiaaFormU
namespace Go.Proofs.Ytdignmbeiohhiaa
open Eng
attribute [local irreducible] OpS OpG FC FCr Rel Fl Ef DR Fs
attribute [local simp] RV.fzR_names
set_option linter.unusedSimpArgs false
set_option maxHeartbeats 0
set_option maxRecDepth 100000

/-- A book: its nodes, their birthdays. -/
abbrev RBk (E : List (Nd × Nat)) : RV := .agg [.ow 2 ((bkN E).map RNd), .ow 1 ((bkB E).map RVn)]
theorem bkN_len (E : List (Nd × Nat)) : (bkN E).length = E.length := List.length_map _
theorem bkB_len (E : List (Nd × Nat)) : (bkB E).length = E.length := List.length_map _
theorem mxb_bk {E : List (Nd × Nat)} (hb : ∀ e ∈ E, e.2 ≤ E.length) (hE : E.length ≤ 120) : ∀ (l : List Nat) (m : Nat), m ≤ 121 → (∀ x ∈ l, x < E.length) → mxb (bkB E) l m ≤ 121
  | [], m, h, _ => h
  | i :: is, m, h, h2 => by
    have h3 := h2 i (by simp)
    have h4 : (bkB E).getD i 0 ≤ E.length := by rw [bkB, gdp (by rw [List.length_map]; exact h3), List.getElem_map]; exact hb _ (List.getElem_mem h3)
    rw [mxb]
    exact mxb_bk hb hE is _ (by omega) fun x hx => h2 x (by simp [hx])
theorem putNs_snoc : ∀ (l : List Nat) (x : Nat) (acc : List Nat), putNs (l ++ [x]) acc = putN x (putNs l acc)
  | [], _, _ => rfl
  | y :: ys, x, acc => by rw [List.cons_append, putNs, putNs, putNs_snoc ys]
theorem putNs_len : ∀ (l acc : List Nat), (putNs l acc).length ≤ l.length + acc.length
  | [], acc => by simp [putNs]
  | x :: xs, acc => by have := putNs_len xs (putN x acc); have := putN_len x acc; rw [putNs]; simp; omega
theorem fnB_none {x : Nd × Nat} : ∀ {E : List (Nd × Nat)}, (∀ i (h : i < E.length), E[i] ≠ x) → fnB x E = E.length
  | [], _ => rfl
  | e :: es, h => by
    rw [fnB, if_neg (show ¬ e = x from h 0 (by simp)), fnB_none fun i hi => h (i + 1) (by simpa using hi)]; rfl
theorem fnB_fst {x : Nd × Nat} : ∀ {E : List (Nd × Nat)} {k : Nat} (hk : k < E.length), E[k] = x → (∀ i (h : i < k), E[i] ≠ x) → fnB x E = k
  | [], k, hk, _, _ => by simp at hk
  | e :: es, 0, _, h, _ => by rw [fnB, if_pos (show e = x from h)]
  | e :: es, k + 1, hk, h, h2 => by
    rw [fnB, if_neg (show ¬ e = x from h2 0 (by omega)), fnB_fst (k := k) (by simpa using hk) h fun i hi => h2 (i + 1) (by omega)]
theorem put_ok (E : List (Nd × Nat)) (l r : List Nat) (hE : E.length ≤ 120) (hb : ∀ e ∈ E, e.2 ≤ E.length) (hl : l.length ≤ 24) (hr : r.length ≤ 24) (hlx : ∀ x ∈ l, x < E.length) (hrx : ∀ x ∈ r, x < E.length) :
    FC Try.prog 163 [.ptr 1000000000000 0 0, RNs l, RNs r] [(1000000000000, 2, [RBk E])] (fun rv O => rv = RVn (putB E l r).2 ∧ O = [(1000000000000, 2, [RBk (putB E l r).1])]) := by
  have hNl := bkN_len E
  have hBl := bkB_len E
  have hm1 : ∀ j, mxb (bkB E) (l.take j) 0 ≤ 121 := fun j => mxb_bk hb hE _ _ (by omega) fun x hx => hlx x (List.mem_of_mem_take hx)
  have hmL := hm1 l.length
  rw [List.take_length] at hmL
  have hm2 : ∀ j, mxb (bkB E) (r.take j) (mxb (bkB E) l 0) ≤ 121 := fun j => mxb_bk hb hE _ _ hmL fun x hx => hrx x (List.mem_of_mem_take hx)
  have hbb : ∀ i (h : i < (bkB E).length), (bkB E)[i] ≤ 120 := fun i h => by
    have h1 : i < E.length := by omega
    simp only [bkB, List.getElem_map]
    have := hb _ (List.getElem_mem h1); omega
  have hbg : ∀ i (h : i < (bkB E).length), (bkB E).getD i 0 = (bkB E)[i] := fun i h => gdp h
  have hEa : ∀ i (h : i < E.length) (h1 : i < (bkN E).length) (h2 : i < (bkB E).length), E[i] = ((bkN E)[i], (bkB E)[i]) := fun i h _ _ => by simp [bkN, bkB]
  have hBk : RBk E = .agg [.ow 2 ((bkN E).map RNd), .ow 1 ((bkB E).map RVn)] := rfl
  have hBk2 : ∀ x : Nd × Nat, RBk (E ++ [x]) = .agg [.ow 2 ((bkN E ++ [x.1]).map RNd), .ow 1 ((bkB E ++ [x.2]).map RVn)] := fun x => by simp [bkN, bkB]
  have hput : ∀ k, fnB (mkN E l r) E = k → putB E l r = if k < E.length then (E, k) else (E ++ [mkN E l r], E.length) := fun k hk => by rw [putB, hk]
  have hf1 := fun k hk => fnB_fst (x := mkN E l r) (E := E) (k := k) hk
  have hf2 := fnB_none (x := mkN E l r) (E := E)
  rw [hBk]
  generalize putB E l r = Q at *
  generalize fnB (mkN E l r) E = fb at *
  have hmk : mkN E l r = ((putNs l [], putNs r []), mxb (bkB E) r (mxb (bkB E) l 0)) := rfl
  rw [hmk] at hf1 hf2 hput
  generalize bkN E = N at *
  generalize bkB E = B at *
  refine (fc_in Try.func163 rfl (by simp only [Try.ntmps163, anys, List.length_cons, List.length_nil, Nat.reduceAdd, Nat.reduceSub, List.replicate_succ, List.replicate_zero, List.cons_append, List.nil_append] <;> rfl) ?_)
  refine w_le _ (le_trans (le_open 1000000000000 0 0 900 rfl rfl rfl (by simp [nm]) (by simp only [nz, nf, nl, nb, nr, ng, nq, nu, reduceIte, Nat.reduceEqDiff, Nat.reduceAdd]; rfl)) (le_open 1000000000000 0 1 901 rfl rfl rfl (by simp [nm]) (by simp only [nz, nf, nl, nb, nr, ng, nq, nu, reduceIte, Nat.reduceEqDiff, Nat.reduceAdd]; rfl))) ?_
  repeat' first
    | refine w_seq ?_
    | refine w_block ?_
    | refine rb_n ?_
    | refine rb_ret ?_
    | refine rb_eq ?_
    | refine rb_ne (by rfl) ?_
    | refine w_exit ?_
    | refine rt_exit ?_
    | refine w_region ?_
    | refine l_nil ?_
    | refine rt_n ?_
    | refine w_ret ?_
    | refine rt_ret ?_
    | refine w_skip ?_
    | refine w_cond_t rfl ?_
    | refine w_cond_f rfl ?_
    | refine w_cnd rfl (fun hc => ?_) (fun hc => ?_)
    | refine w_cd rfl (fun hc => ?_) (fun hc => ?_)
    | refine w_cn rfl (fun hc => ?_) (fun hc => ?_)
    | refine w_cond rfl (fun hc => ?_) (fun hc => ?_)
    | (refine l_o ?_; first | refine l_eqnil rfl (by kernel_rfl) (by intro b; simp only [nz]; rfl) (fun b hb => ?_) | refine l_op (hk := ?_) | (refine l_g ?_; first | refine l_y rfl rfl rfl ?_ | refine l_n rfl rfl rfl rfl (hk := ?_) | refine l_n' rfl rfl rfl (hk := ?_) | refine l_spnd rfl rfl rfl (h1 := fun hc => ?_) (h2 := fun hc => ?_) | refine l_spd rfl rfl rfl (h1 := fun hc => ?_) (h2 := fun hc => ?_) | refine l_spn rfl rfl rfl (h1 := fun hc => ?_) (h2 := fun hc => ?_) | refine l_sp rfl rfl rfl (h1 := fun hc => ?_) (h2 := fun hc => ?_)))
    | refine d_nil ?_
    | (refine d_o ?_; first | refine d_fl (hk := ?_) | refine d_ef (hk := ?_) | (refine d_g ?_; first | refine d_spnd rfl rfl rfl (h1 := fun hc => ?_) (h2 := fun hc => ?_) | refine d_spd rfl rfl rfl (h1 := fun hc => ?_) (h2 := fun hc => ?_) | refine d_spn rfl rfl rfl (h1 := fun hc => ?_) (h2 := fun hc => ?_) | refine d_sp rfl rfl rfl (h1 := fun hc => ?_) (h2 := fun hc => ?_)))
    | (refine w_o ?_; first | refine w_draw (id := 7) (fun _ => true) (fun k => [12].contains k) [[]] 64 (by kernel_rfl) rfl (by kernel_rfl) (by simp [nm, nset, -List.map_take, -List.map_drop]) ?_ | refine w_draw (id := 12) (fun _ => true) (fun k => [12].contains k) [[]] 64 (by kernel_rfl) rfl (by kernel_rfl) (by simp [nm, nset, -List.map_take, -List.map_drop]) ?_)
  refine w_le _ (le_trans (le_ren 13 26 (by decide) (by decide) (by simp [nm, ng, renL_id, -List.map_append, -List.map_take, -List.map_drop]) (by simp [nm, ng, renL_id, onames, -List.map_append, -List.map_take, -List.map_drop]) (by simp only [ng, nm, nu, renL_id, reduceIte, Nat.reduceEqDiff]; rfl) (by simp only [ng, nm, nu, renL_id, reduceIte, Nat.reduceEqDiff]; rfl)) (le_trans (le_ren 14 51 (by decide) (by decide) (by simp [nm, ng, renL_id, -List.map_append, -List.map_take, -List.map_drop]) (by simp [nm, ng, renL_id, onames, -List.map_append, -List.map_take, -List.map_drop]) (by simp only [ng, nm, nu, renL_id, reduceIte, Nat.reduceEqDiff]; rfl) (by simp only [ng, nm, nu, renL_id, reduceIte, Nat.reduceEqDiff]; rfl)) (le_perm [26, 51] rfl rfl))) ?_
  refine w_loopm (ι := Nat) (fun q => [(10, RVn q), (9, RVn (mxb B (l.take q) 0)), (7, .ref 26 0 (putNs (l.take q) []).length), (13, .any)]) (fun q => [(26, 1, (putNs (l.take q) []).map RVn), (51, 1, []), (901, 1, B.map RVn), (900, 2, N.map RNd), (1000000000000, 2, [.agg [.ref 900 0 N.length, .ref 901 0 B.length]])]) (fun q => q ≤ l.length) (fun q => l.length - q) 0 (h0 := ?_) (hs := ?_) (round := ?_)
  · omega
  · refine le_eq (by (repeat' first | exact .nil | refine .keep ?_ | refine .any ?_); first | done | fail) rfl rfl
  · intro q hq
    by_cases hql : q < l.length
    · have hx := hlx _ (List.getElem_mem hql)
      have e1 := putNs_snoc (l.take q) l[q] []
      have e2 := mxb_snoc B (l.take q) 0 l[q]
      rw [← take_next hql, hbg _ (by omega)] at e2
      rw [← take_next hql] at e1
      have hb1 := hbb l[q] (by omega)
      have hP := l1PutN_ok (putNs (l.take q) []) l[q] (by have := putNs_len (l.take q) []; simp at this; omega)
      have hM := l1Most_ok (mxb B (l.take q) 0) (B[l[q]]'(by omega) + 1)
      rw [← e2] at hM
      rw [← e1] at hP
      repeat' first
        | refine w_seq ?_
        | refine w_block ?_
        | refine rb_n ?_
        | refine rb_ret ?_
        | refine rb_eq ?_
        | refine rb_ne (by rfl) ?_
        | refine w_exit ?_
        | refine rt_exit ?_
        | refine w_region ?_
        | refine l_nil ?_
        | refine rt_n ?_
        | refine w_ret ?_
        | refine rt_ret ?_
        | refine w_skip ?_
        | refine w_cond_t rfl ?_
        | refine w_cond_f rfl ?_
        | refine w_cnd rfl (fun hc => ?_) (fun hc => ?_)
        | refine w_cd rfl (fun hc => ?_) (fun hc => ?_)
        | refine w_cn rfl (fun hc => ?_) (fun hc => ?_)
        | refine w_cond rfl (fun hc => ?_) (fun hc => ?_)
        | (exfalso; omega)
        | (refine l_o ?_; first | refine l_eqnil rfl (by kernel_rfl) (by intro b; simp only [nz]; rfl) (fun b hb => ?_) | refine l_op rfl (by first | (apply k_callf; first | exact ops_callG (d := 26) [26] [26] ([]) (hfc := hP) | exact ops_callf (d := 39) (hfc := hM) | fail) | fail) (hk := ?_) | refine l_op (hk := ?_) | (refine l_g ?_; first | refine l_y rfl rfl rfl ?_ | refine l_n rfl rfl rfl rfl (hk := ?_) | refine l_n' rfl rfl rfl (hk := ?_) | refine l_spnd rfl rfl rfl (h1 := fun hc => ?_) (h2 := fun hc => ?_) | refine l_spd rfl rfl rfl (h1 := fun hc => ?_) (h2 := fun hc => ?_) | refine l_spn rfl rfl rfl (h1 := fun hc => ?_) (h2 := fun hc => ?_) | refine l_sp rfl rfl rfl (h1 := fun hc => ?_) (h2 := fun hc => ?_)))
        | refine e_nil ?_
        | (refine e_o ?_; first | refine e_fl (hk := ?_) | refine e_ef rfl (by first | exact .callG (d := 26) [26] ([]) (hfc := hP) | exact .callf (d := 39) (hfc := hM) | exact .callfY (d := 39) (hfc := hM) | fail) (hk := ?_) | refine e_ef (hk := ?_) | (refine e_g ?_; first | refine e_spnd rfl rfl rfl (h1 := fun hc => ?_) (h2 := fun hc => ?_) | refine e_spd rfl rfl rfl (h1 := fun hc => ?_) (h2 := fun hc => ?_) | refine e_spn rfl rfl rfl (h1 := fun hc => ?_) (h2 := fun hc => ?_) | refine e_sp rfl rfl rfl (h1 := fun hc => ?_) (h2 := fun hc => ?_)))
        | (refine w_o ?_; first | refine w_drawS (id := 7) (rdP [(2,1000000000000),(3,1000000000000),(4,1000000000000),(9,901),(10,901)]) (fun k => [12].contains k) [[]] (by kernel_rfl) rfl (by kernel_rfl) (by simp [nm, nset, -List.map_take, -List.map_drop]) ?_ | refine w_drawS (id := 12) (rdP []) (fun k => [12].contains k) [[]] (by kernel_rfl) rfl (by kernel_rfl) (by simp [nm, nset, -List.map_take, -List.map_drop]) ?_)
      -- DBG
      refine rn_mk (q + 1) ?_ (by first | omega | (dsimp only; omega)) (le_eq (by (repeat' first | exact .nil | refine .keep ?_ | refine .any ?_); first | done | fail) rfl rfl)
      omega
    · obtain rfl : q = l.length := by omega
      simp only [List.take_length]
      repeat' first
        | refine w_seq ?_
        | refine w_block ?_
        | refine rb_n ?_
        | refine rb_ret ?_
        | refine rb_eq ?_
        | refine rb_ne (by rfl) ?_
        | refine w_exit ?_
        | refine rt_exit ?_
        | refine w_region ?_
        | refine l_nil ?_
        | refine rt_n ?_
        | refine w_ret ?_
        | refine rt_ret ?_
        | refine w_skip ?_
        | refine w_cond_t rfl ?_
        | refine w_cond_f rfl ?_
        | refine w_cnd rfl (fun hc => ?_) (fun hc => ?_)
        | refine w_cd rfl (fun hc => ?_) (fun hc => ?_)
        | refine w_cn rfl (fun hc => ?_) (fun hc => ?_)
        | refine w_cond rfl (fun hc => ?_) (fun hc => ?_)
        | (exfalso; omega)
        | (refine l_o ?_; first | refine l_eqnil rfl (by kernel_rfl) (by intro b; simp only [nz]; rfl) (fun b hb => ?_) | refine l_op (hk := ?_) | (refine l_g ?_; first | refine l_y rfl rfl rfl ?_ | refine l_n rfl rfl rfl rfl (hk := ?_) | refine l_n' rfl rfl rfl (hk := ?_) | refine l_spnd rfl rfl rfl (h1 := fun hc => ?_) (h2 := fun hc => ?_) | refine l_spd rfl rfl rfl (h1 := fun hc => ?_) (h2 := fun hc => ?_) | refine l_spn rfl rfl rfl (h1 := fun hc => ?_) (h2 := fun hc => ?_) | refine l_sp rfl rfl rfl (h1 := fun hc => ?_) (h2 := fun hc => ?_)))
        | refine d_nil ?_
        | (refine d_o ?_; first | refine d_fl (hk := ?_) | refine d_ef (hk := ?_) | (refine d_g ?_; first | refine d_spnd rfl rfl rfl (h1 := fun hc => ?_) (h2 := fun hc => ?_) | refine d_spd rfl rfl rfl (h1 := fun hc => ?_) (h2 := fun hc => ?_) | refine d_spn rfl rfl rfl (h1 := fun hc => ?_) (h2 := fun hc => ?_) | refine d_sp rfl rfl rfl (h1 := fun hc => ?_) (h2 := fun hc => ?_)))
        | (refine w_o ?_; first | refine w_draw (id := 7) (fun _ => true) (fun k => [12].contains k) [[]] 64 (by kernel_rfl) rfl (by kernel_rfl) (by simp [nm, nset, -List.map_take, -List.map_drop]) ?_ | refine w_draw (id := 12) (fun _ => true) (fun k => [12].contains k) [[]] 64 (by kernel_rfl) rfl (by kernel_rfl) (by simp [nm, nset, -List.map_take, -List.map_drop]) ?_)
      generalize putNs l [] = L2 at *
      generalize mxb B l 0 = m1 at *
      refine w_le _ (le_perm [51, 26] rfl rfl) ?_
      refine w_loopm (ι := Nat) (fun q => [(11, RVn q), (9, RVn (mxb B (r.take q) m1)), (8, .ref 51 0 (putNs (r.take q) []).length), (14, .any)]) (fun q => [(51, 1, (putNs (r.take q) []).map RVn), (26, 1, L2.map RVn), (901, 1, B.map RVn), (900, 2, N.map RNd), (1000000000000, 2, [.agg [.ref 900 0 N.length, .ref 901 0 B.length]])]) (fun q => q ≤ r.length) (fun q => r.length - q) 0 (h0 := ?_) (hs := ?_) (round := ?_)
      · omega
      · refine le_eq (by (repeat' first | exact .nil | refine .keep ?_ | refine .any ?_); first | done | fail) rfl rfl
      · intro q hq
        by_cases hql : q < r.length
        · have hx := hrx _ (List.getElem_mem hql)
          have e1 := putNs_snoc (r.take q) r[q] []
          have e2 := mxb_snoc B (r.take q) m1 r[q]
          rw [← take_next hql, hbg _ (by omega)] at e2
          rw [← take_next hql] at e1
          have hb1 := hbb r[q] (by omega)
          have hP := l1PutN_ok (putNs (r.take q) []) r[q] (by have := putNs_len (r.take q) []; simp at this; omega)
          have hM := l1Most_ok (mxb B (r.take q) m1) (B[r[q]]'(by omega) + 1)
          rw [← e2] at hM
          rw [← e1] at hP
          repeat' first
            | refine w_seq ?_
            | refine w_block ?_
            | refine rb_n ?_
            | refine rb_ret ?_
            | refine rb_eq ?_
            | refine rb_ne (by rfl) ?_
            | refine w_exit ?_
            | refine rt_exit ?_
            | refine w_region ?_
            | refine l_nil ?_
            | refine rt_n ?_
            | refine w_ret ?_
            | refine rt_ret ?_
            | refine w_skip ?_
            | refine w_cond_t rfl ?_
            | refine w_cond_f rfl ?_
            | refine w_cnd rfl (fun hc => ?_) (fun hc => ?_)
            | refine w_cd rfl (fun hc => ?_) (fun hc => ?_)
            | refine w_cn rfl (fun hc => ?_) (fun hc => ?_)
            | refine w_cond rfl (fun hc => ?_) (fun hc => ?_)
            | (exfalso; omega)
            | (refine l_o ?_; first | refine l_eqnil rfl (by kernel_rfl) (by intro b; simp only [nz]; rfl) (fun b hb => ?_) | refine l_op rfl (by first | (apply k_callf; first | exact ops_callG (d := 51) [51] [51] ([]) (hfc := hP) | exact ops_callf (d := 64) (hfc := hM) | fail) | fail) (hk := ?_) | refine l_op (hk := ?_) | (refine l_g ?_; first | refine l_y rfl rfl rfl ?_ | refine l_n rfl rfl rfl rfl (hk := ?_) | refine l_n' rfl rfl rfl (hk := ?_) | refine l_spnd rfl rfl rfl (h1 := fun hc => ?_) (h2 := fun hc => ?_) | refine l_spd rfl rfl rfl (h1 := fun hc => ?_) (h2 := fun hc => ?_) | refine l_spn rfl rfl rfl (h1 := fun hc => ?_) (h2 := fun hc => ?_) | refine l_sp rfl rfl rfl (h1 := fun hc => ?_) (h2 := fun hc => ?_)))
            | refine e_nil ?_
            | (refine e_o ?_; first | refine e_fl (hk := ?_) | refine e_ef rfl (by first | exact .callG (d := 51) [51] ([]) (hfc := hP) | exact .callf (d := 64) (hfc := hM) | exact .callfY (d := 64) (hfc := hM) | fail) (hk := ?_) | refine e_ef (hk := ?_) | (refine e_g ?_; first | refine e_spnd rfl rfl rfl (h1 := fun hc => ?_) (h2 := fun hc => ?_) | refine e_spd rfl rfl rfl (h1 := fun hc => ?_) (h2 := fun hc => ?_) | refine e_spn rfl rfl rfl (h1 := fun hc => ?_) (h2 := fun hc => ?_) | refine e_sp rfl rfl rfl (h1 := fun hc => ?_) (h2 := fun hc => ?_)))
            | (refine w_o ?_; first | refine w_drawS (id := 7) (rdP []) (fun k => [12].contains k) [[]] (by kernel_rfl) rfl (by kernel_rfl) (by simp [nm, nset, -List.map_take, -List.map_drop]) ?_ | refine w_drawS (id := 12) (rdP [(2,1000000000000),(3,1000000000000),(4,1000000000000),(9,901),(10,901)]) (fun k => [12].contains k) [[]] (by kernel_rfl) rfl (by kernel_rfl) (by simp [nm, nset, -List.map_take, -List.map_drop]) ?_)
          refine rn_mk (q + 1) ?_ (by first | omega | (dsimp only; omega)) (le_eq (by (repeat' first | exact .nil | refine .keep ?_ | refine .any ?_); first | done | fail) rfl rfl)
          omega
        · obtain rfl : q = r.length := by omega
          simp only [List.take_length]
          repeat' first
            | refine w_seq ?_
            | refine w_block ?_
            | refine rb_n ?_
            | refine rb_ret ?_
            | refine rb_eq ?_
            | refine rb_ne (by rfl) ?_
            | refine w_exit ?_
            | refine rt_exit ?_
            | refine w_region ?_
            | refine l_nil ?_
            | refine rt_n ?_
            | refine w_ret ?_
            | refine rt_ret ?_
            | refine w_skip ?_
            | refine w_cond_t rfl ?_
            | refine w_cond_f rfl ?_
            | refine w_cnd rfl (fun hc => ?_) (fun hc => ?_)
            | refine w_cd rfl (fun hc => ?_) (fun hc => ?_)
            | refine w_cn rfl (fun hc => ?_) (fun hc => ?_)
            | refine w_cond rfl (fun hc => ?_) (fun hc => ?_)
            | (exfalso; omega)
            | (refine l_o ?_; first | refine l_eqnil rfl (by kernel_rfl) (by intro b; simp only [nz]; rfl) (fun b hb => ?_) | refine l_op (hk := ?_) | (refine l_g ?_; first | refine l_y rfl rfl rfl ?_ | refine l_n rfl rfl rfl rfl (hk := ?_) | refine l_n' rfl rfl rfl (hk := ?_) | refine l_spnd rfl rfl rfl (h1 := fun hc => ?_) (h2 := fun hc => ?_) | refine l_spd rfl rfl rfl (h1 := fun hc => ?_) (h2 := fun hc => ?_) | refine l_spn rfl rfl rfl (h1 := fun hc => ?_) (h2 := fun hc => ?_) | refine l_sp rfl rfl rfl (h1 := fun hc => ?_) (h2 := fun hc => ?_)))
            | refine d_nil ?_
            | (refine d_o ?_; first | refine d_fl (hk := ?_) | refine d_ef (hk := ?_) | (refine d_g ?_; first | refine d_spnd rfl rfl rfl (h1 := fun hc => ?_) (h2 := fun hc => ?_) | refine d_spd rfl rfl rfl (h1 := fun hc => ?_) (h2 := fun hc => ?_) | refine d_spn rfl rfl rfl (h1 := fun hc => ?_) (h2 := fun hc => ?_) | refine d_sp rfl rfl rfl (h1 := fun hc => ?_) (h2 := fun hc => ?_)))
            | (refine w_o ?_; first | refine w_draw (id := 7) (fun _ => true) (fun k => [12].contains k) [[]] 64 (by kernel_rfl) rfl (by kernel_rfl) (by simp [nm, nset, -List.map_take, -List.map_drop]) ?_ | refine w_draw (id := 12) (fun _ => true) (fun k => [12].contains k) [[]] 64 (by kernel_rfl) rfl (by kernel_rfl) (by simp [nm, nset, -List.map_take, -List.map_drop]) ?_)
          refine w_le _ (le_trans (le_freeze 26 rfl (by simp only [nz, nf, nl, nb, nr, ng, nq, nu, reduceIte, Nat.reduceEqDiff, Nat.reduceAdd]; rfl) (by simp only [nz, nf, nl, nb, nr, ng, nq, nu, reduceIte, Nat.reduceEqDiff, Nat.reduceAdd]; rfl)) (le_freeze 51 rfl (by simp only [nz, nf, nl, nb, nr, ng, nq, nu, reduceIte, Nat.reduceEqDiff, Nat.reduceAdd]; rfl) (by simp only [nz, nf, nl, nb, nr, ng, nq, nu, reduceIte, Nat.reduceEqDiff, Nat.reduceAdd]; rfl))) ?_
          generalize putNs r [] = R2 at *
          generalize mxb B r m1 = m2 at *
          clear hmk hm1 hm2
          refine w_loopm (ι := Nat) (fun q => [(12, RVn q)]) (fun q => [(901, 1, B.map RVn), (900, 2, N.map RNd), (1000000000000, 2, [.agg [.ref 900 0 N.length, .ref 901 0 B.length]])]) (fun q => q ≤ E.length ∧ ∀ j (h : j < E.length), j < q → E[j] ≠ ((L2, R2), m2)) (fun q => E.length - q) 0 (h0 := ?_) (hs := ?_) (round := ?_)
          · exact ⟨by omega, fun j _ h => by omega⟩
          · refine le_eq (by (repeat' first | exact .nil | refine .keep ?_ | refine .any ?_); first | done | fail) rfl rfl
          · intro q ⟨hq, hqn⟩
            by_cases hqE : q < E.length
            · have hqN : q < N.length := by omega
              have hqB : q < B.length := by omega
              have hEq := hEa q hqE hqN hqB
              have hS1 := l1Same_ok N[q].1 L2
              have hS2 := l1Same_ok N[q].2 R2
              by_cases hx : E[q] = ((L2, R2), m2)
              · have hx1 := hx
                rw [hEq] at hx1
                have g1 : N[q].1 = L2 := congrArg (fun z : Nd × Nat => z.1.1) hx1
                have g2 : N[q].2 = R2 := congrArg (fun z : Nd × Nat => z.1.2) hx1
                have g3 : B[q] = m2 := congrArg (fun z : Nd × Nat => z.2) hx1
                rw [decide_eq_true g1] at hS1
                rw [decide_eq_true g2] at hS2
                have hQ := hput q (hf1 q hqE hx fun j hj => hqn j (by omega) hj)
                rw [if_pos hqE] at hQ
                subst hQ
                rw [hBk]
                repeat' first
                  | refine w_seq ?_
                  | refine w_block ?_
                  | refine rb_n ?_
                  | refine rb_ret ?_
                  | refine rb_eq ?_
                  | refine rb_ne (by rfl) ?_
                  | refine w_exit ?_
                  | refine rt_exit ?_
                  | refine w_region ?_
                  | refine l_nil ?_
                  | refine rt_n ?_
                  | refine w_ret ?_
                  | refine rt_ret ?_
                  | refine w_skip ?_
                  | refine w_cond_t rfl ?_
                  | refine w_cond_f rfl ?_
                  | refine w_cnd rfl (fun hc => ?_) (fun hc => ?_)
                  | refine w_cd rfl (fun hc => ?_) (fun hc => ?_)
                  | refine w_cn rfl (fun hc => ?_) (fun hc => ?_)
                  | refine w_cond rfl (fun hc => ?_) (fun hc => ?_)
                  | (exfalso; omega)
                  | (exfalso; exact absurd rfl hc)
                  | (refine l_o ?_; first | refine l_eqnil rfl (by kernel_rfl) (by intro b; simp only [nz]; rfl) (fun b hb => ?_) | refine l_op rfl (by first | (apply k_callf; first | exact ops_callf (d := 93) (hfc := hS1) | exact ops_callf (d := 105) (hfc := hS2) | fail) | fail) (hk := ?_) | refine l_op (hk := ?_) | (refine l_g ?_; first | refine l_y rfl rfl rfl ?_ | refine l_n rfl rfl rfl rfl (hk := ?_) | refine l_n' rfl rfl rfl (hk := ?_) | refine l_spnd rfl rfl rfl (h1 := fun hc => ?_) (h2 := fun hc => ?_) | refine l_spd rfl rfl rfl (h1 := fun hc => ?_) (h2 := fun hc => ?_) | refine l_spn rfl rfl rfl (h1 := fun hc => ?_) (h2 := fun hc => ?_) | refine l_sp rfl rfl rfl (h1 := fun hc => ?_) (h2 := fun hc => ?_)))
                  | refine d_nil ?_
                  | (refine d_o ?_; first | refine d_fl (hk := ?_) | refine d_ef rfl (by first | exact .callf (d := 93) (hfc := hS1) | exact .callf (d := 105) (hfc := hS2) | exact .callfY (d := 93) (hfc := hS1) | exact .callfY (d := 105) (hfc := hS2) | fail) (hk := ?_) | refine d_ef (hk := ?_) | (refine d_g ?_; first | refine d_spnd rfl rfl rfl (h1 := fun hc => ?_) (h2 := fun hc => ?_) | refine d_spd rfl rfl rfl (h1 := fun hc => ?_) (h2 := fun hc => ?_) | refine d_spn rfl rfl rfl (h1 := fun hc => ?_) (h2 := fun hc => ?_) | refine d_sp rfl rfl rfl (h1 := fun hc => ?_) (h2 := fun hc => ?_)))
                  | (refine w_o ?_; first | refine w_draw (id := 7) (fun _ => true) (fun k => [12].contains k) [[]] 64 (by kernel_rfl) rfl (by kernel_rfl) (by simp [nm, nset, -List.map_take, -List.map_drop]) ?_ | refine w_draw (id := 12) (fun _ => true) (fun k => [12].contains k) [[]] 64 (by kernel_rfl) rfl (by kernel_rfl) (by simp [nm, nset, -List.map_take, -List.map_drop]) ?_)
                refine en_le _ (le_trans (le_seal' 1000000000000 0 0 900 rfl rfl rfl rfl (by simp) (by simp [nm]) (by decide) (by simp only [nz, nf, nl, nb, nr, ng, nq, nu, reduceIte, Nat.reduceEqDiff, Nat.reduceAdd]; rfl)) (le_seal' 1000000000000 0 1 901 rfl rfl rfl rfl (by simp) (by simp [nm]) (by decide) (by simp only [nz, nf, nl, nb, nr, ng, nq, nu, reduceIte, Nat.reduceEqDiff, Nat.reduceAdd]; rfl))) ?_
                refine en_endm [] (hf := Try.results163) (hO := ?_) (hr := ?_)
                all_goals rfl
              · have hne : ¬ (N[q].1 = L2 ∧ N[q].2 = R2 ∧ B[q] = m2) := fun ⟨a, b, c⟩ => hx (by rw [hEq, ← a, ← b, ← c])
                by_cases g3 : B[q] = m2
                · by_cases g1 : N[q].1 = L2
                  · have g2 : N[q].2 ≠ R2 := fun g2 => hne ⟨g1, g2, g3⟩
                    rw [decide_eq_true g1] at hS1
                    rw [decide_eq_false g2] at hS2
                    repeat' first
                      | refine w_seq ?_
                      | refine w_block ?_
                      | refine rb_n ?_
                      | refine rb_ret ?_
                      | refine rb_eq ?_
                      | refine rb_ne (by rfl) ?_
                      | refine w_exit ?_
                      | refine rt_exit ?_
                      | refine w_region ?_
                      | refine l_nil ?_
                      | refine rt_n ?_
                      | refine w_ret ?_
                      | refine rt_ret ?_
                      | refine w_skip ?_
                      | refine w_cond_t rfl ?_
                      | refine w_cond_f rfl ?_
                      | refine w_cnd rfl (fun hc => ?_) (fun hc => ?_)
                      | refine w_cd rfl (fun hc => ?_) (fun hc => ?_)
                      | refine w_cn rfl (fun hc => ?_) (fun hc => ?_)
                      | refine w_cond rfl (fun hc => ?_) (fun hc => ?_)
                      | (exfalso; omega)
                      | (exfalso; exact absurd rfl hc)
                      | (refine l_o ?_; first | refine l_eqnil rfl (by kernel_rfl) (by intro b; simp only [nz]; rfl) (fun b hb => ?_) | refine l_op rfl (by first | (apply k_callf; first | exact ops_callf (d := 93) (hfc := hS1) | exact ops_callf (d := 105) (hfc := hS2) | fail) | fail) (hk := ?_) | refine l_op (hk := ?_) | (refine l_g ?_; first | refine l_y rfl rfl rfl ?_ | refine l_n rfl rfl rfl rfl (hk := ?_) | refine l_n' rfl rfl rfl (hk := ?_) | refine l_spnd rfl rfl rfl (h1 := fun hc => ?_) (h2 := fun hc => ?_) | refine l_spd rfl rfl rfl (h1 := fun hc => ?_) (h2 := fun hc => ?_) | refine l_spn rfl rfl rfl (h1 := fun hc => ?_) (h2 := fun hc => ?_) | refine l_sp rfl rfl rfl (h1 := fun hc => ?_) (h2 := fun hc => ?_)))
                      | refine d_nil ?_
                      | (refine d_o ?_; first | refine d_fl (hk := ?_) | refine d_ef rfl (by first | exact .callf (d := 93) (hfc := hS1) | exact .callf (d := 105) (hfc := hS2) | exact .callfY (d := 93) (hfc := hS1) | exact .callfY (d := 105) (hfc := hS2) | fail) (hk := ?_) | refine d_ef (hk := ?_) | (refine d_g ?_; first | refine d_spnd rfl rfl rfl (h1 := fun hc => ?_) (h2 := fun hc => ?_) | refine d_spd rfl rfl rfl (h1 := fun hc => ?_) (h2 := fun hc => ?_) | refine d_spn rfl rfl rfl (h1 := fun hc => ?_) (h2 := fun hc => ?_) | refine d_sp rfl rfl rfl (h1 := fun hc => ?_) (h2 := fun hc => ?_)))
                      | (refine w_o ?_; first | refine w_draw (id := 7) (fun _ => true) (fun k => [12].contains k) [[]] 64 (by kernel_rfl) rfl (by kernel_rfl) (by simp [nm, nset, -List.map_take, -List.map_drop]) ?_ | refine w_draw (id := 12) (fun _ => true) (fun k => [12].contains k) [[]] 64 (by kernel_rfl) rfl (by kernel_rfl) (by simp [nm, nset, -List.map_take, -List.map_drop]) ?_)
                    refine rn_mk (q + 1) ?_ (by first | omega | (dsimp only; omega)) (le_eq (by (repeat' first | exact .nil | refine .keep ?_ | refine .any ?_); first | done | fail) rfl rfl)
                    exact ⟨by omega, fun j h hj => if hjq : j < q then hqn j h hjq else by obtain rfl : j = q := by omega
                                                                                           exact hx⟩
                  · rw [decide_eq_false g1] at hS1
                    repeat' first
                      | refine w_seq ?_
                      | refine w_block ?_
                      | refine rb_n ?_
                      | refine rb_ret ?_
                      | refine rb_eq ?_
                      | refine rb_ne (by rfl) ?_
                      | refine w_exit ?_
                      | refine rt_exit ?_
                      | refine w_region ?_
                      | refine l_nil ?_
                      | refine rt_n ?_
                      | refine w_ret ?_
                      | refine rt_ret ?_
                      | refine w_skip ?_
                      | refine w_cond_t rfl ?_
                      | refine w_cond_f rfl ?_
                      | refine w_cnd rfl (fun hc => ?_) (fun hc => ?_)
                      | refine w_cd rfl (fun hc => ?_) (fun hc => ?_)
                      | refine w_cn rfl (fun hc => ?_) (fun hc => ?_)
                      | refine w_cond rfl (fun hc => ?_) (fun hc => ?_)
                      | (exfalso; omega)
                      | (exfalso; exact absurd rfl hc)
                      | (refine l_o ?_; first | refine l_eqnil rfl (by kernel_rfl) (by intro b; simp only [nz]; rfl) (fun b hb => ?_) | refine l_op rfl (by first | (apply k_callf; first | exact ops_callf (d := 93) (hfc := hS1) | exact ops_callf (d := 105) (hfc := hS2) | fail) | fail) (hk := ?_) | refine l_op (hk := ?_) | (refine l_g ?_; first | refine l_y rfl rfl rfl ?_ | refine l_n rfl rfl rfl rfl (hk := ?_) | refine l_n' rfl rfl rfl (hk := ?_) | refine l_spnd rfl rfl rfl (h1 := fun hc => ?_) (h2 := fun hc => ?_) | refine l_spd rfl rfl rfl (h1 := fun hc => ?_) (h2 := fun hc => ?_) | refine l_spn rfl rfl rfl (h1 := fun hc => ?_) (h2 := fun hc => ?_) | refine l_sp rfl rfl rfl (h1 := fun hc => ?_) (h2 := fun hc => ?_)))
                      | refine d_nil ?_
                      | (refine d_o ?_; first | refine d_fl (hk := ?_) | refine d_ef rfl (by first | exact .callf (d := 93) (hfc := hS1) | exact .callf (d := 105) (hfc := hS2) | exact .callfY (d := 93) (hfc := hS1) | exact .callfY (d := 105) (hfc := hS2) | fail) (hk := ?_) | refine d_ef (hk := ?_) | (refine d_g ?_; first | refine d_spnd rfl rfl rfl (h1 := fun hc => ?_) (h2 := fun hc => ?_) | refine d_spd rfl rfl rfl (h1 := fun hc => ?_) (h2 := fun hc => ?_) | refine d_spn rfl rfl rfl (h1 := fun hc => ?_) (h2 := fun hc => ?_) | refine d_sp rfl rfl rfl (h1 := fun hc => ?_) (h2 := fun hc => ?_)))
                      | (refine w_o ?_; first | refine w_draw (id := 7) (fun _ => true) (fun k => [12].contains k) [[]] 64 (by kernel_rfl) rfl (by kernel_rfl) (by simp [nm, nset, -List.map_take, -List.map_drop]) ?_ | refine w_draw (id := 12) (fun _ => true) (fun k => [12].contains k) [[]] 64 (by kernel_rfl) rfl (by kernel_rfl) (by simp [nm, nset, -List.map_take, -List.map_drop]) ?_)
                    refine rn_mk (q + 1) ?_ (by first | omega | (dsimp only; omega)) (le_eq (by (repeat' first | exact .nil | refine .keep ?_ | refine .any ?_); first | done | fail) rfl rfl)
                    exact ⟨by omega, fun j h hj => if hjq : j < q then hqn j h hjq else by obtain rfl : j = q := by omega
                                                                                           exact hx⟩
                · repeat' first
                    | refine w_seq ?_
                    | refine w_block ?_
                    | refine rb_n ?_
                    | refine rb_ret ?_
                    | refine rb_eq ?_
                    | refine rb_ne (by rfl) ?_
                    | refine w_exit ?_
                    | refine rt_exit ?_
                    | refine w_region ?_
                    | refine l_nil ?_
                    | refine rt_n ?_
                    | refine w_ret ?_
                    | refine rt_ret ?_
                    | refine w_skip ?_
                    | refine w_cond_t rfl ?_
                    | refine w_cond_f rfl ?_
                    | refine w_cnd rfl (fun hc => ?_) (fun hc => ?_)
                    | refine w_cd rfl (fun hc => ?_) (fun hc => ?_)
                    | refine w_cn rfl (fun hc => ?_) (fun hc => ?_)
                    | refine w_cond rfl (fun hc => ?_) (fun hc => ?_)
                    | (exfalso; omega)
                    | (exfalso; exact absurd rfl hc)
                    | (refine l_o ?_; first | refine l_eqnil rfl (by kernel_rfl) (by intro b; simp only [nz]; rfl) (fun b hb => ?_) | refine l_op rfl (by first | (apply k_callf; first | exact ops_callf (d := 93) (hfc := hS1) | exact ops_callf (d := 105) (hfc := hS2) | fail) | fail) (hk := ?_) | refine l_op (hk := ?_) | (refine l_g ?_; first | refine l_y rfl rfl rfl ?_ | refine l_n rfl rfl rfl rfl (hk := ?_) | refine l_n' rfl rfl rfl (hk := ?_) | refine l_spnd rfl rfl rfl (h1 := fun hc => ?_) (h2 := fun hc => ?_) | refine l_spd rfl rfl rfl (h1 := fun hc => ?_) (h2 := fun hc => ?_) | refine l_spn rfl rfl rfl (h1 := fun hc => ?_) (h2 := fun hc => ?_) | refine l_sp rfl rfl rfl (h1 := fun hc => ?_) (h2 := fun hc => ?_)))
                    | refine d_nil ?_
                    | (refine d_o ?_; first | refine d_fl (hk := ?_) | refine d_ef rfl (by first | exact .callf (d := 93) (hfc := hS1) | exact .callf (d := 105) (hfc := hS2) | exact .callfY (d := 93) (hfc := hS1) | exact .callfY (d := 105) (hfc := hS2) | fail) (hk := ?_) | refine d_ef (hk := ?_) | (refine d_g ?_; first | refine d_spnd rfl rfl rfl (h1 := fun hc => ?_) (h2 := fun hc => ?_) | refine d_spd rfl rfl rfl (h1 := fun hc => ?_) (h2 := fun hc => ?_) | refine d_spn rfl rfl rfl (h1 := fun hc => ?_) (h2 := fun hc => ?_) | refine d_sp rfl rfl rfl (h1 := fun hc => ?_) (h2 := fun hc => ?_)))
                    | (refine w_o ?_; first | refine w_draw (id := 7) (fun _ => true) (fun k => [12].contains k) [[]] 64 (by kernel_rfl) rfl (by kernel_rfl) (by simp [nm, nset, -List.map_take, -List.map_drop]) ?_ | refine w_draw (id := 12) (fun _ => true) (fun k => [12].contains k) [[]] 64 (by kernel_rfl) rfl (by kernel_rfl) (by simp [nm, nset, -List.map_take, -List.map_drop]) ?_)
                  refine rn_mk (q + 1) ?_ (by first | omega | (dsimp only; omega)) (le_eq (by (repeat' first | exact .nil | refine .keep ?_ | refine .any ?_); first | done | fail) rfl rfl)
                  exact ⟨by omega, fun j h hj => if hjq : j < q then hqn j h hjq else by obtain rfl : j = q := by omega
                                                                                         exact hx⟩
            · have hQ := hput E.length (hf2 fun j h => hqn j h (by omega))
              rw [if_neg (Nat.lt_irrefl _)] at hQ
              subst hQ
              rw [hBk2]
              have hNs : (N ++ [((L2, R2) : Nd)]).length = E.length + 1 := by simp [hNl]
              repeat' first
                | refine w_seq ?_
                | refine w_block ?_
                | refine rb_n ?_
                | refine rb_ret ?_
                | refine rb_eq ?_
                | refine rb_ne (by rfl) ?_
                | refine w_exit ?_
                | refine rt_exit ?_
                | refine w_region ?_
                | refine l_nil ?_
                | refine rt_n ?_
                | refine w_ret ?_
                | refine rt_ret ?_
                | refine w_skip ?_
                | refine w_cond_t rfl ?_
                | refine w_cond_f rfl ?_
                | refine w_cnd rfl (fun hc => ?_) (fun hc => ?_)
                | refine w_cd rfl (fun hc => ?_) (fun hc => ?_)
                | refine w_cn rfl (fun hc => ?_) (fun hc => ?_)
                | refine w_cond rfl (fun hc => ?_) (fun hc => ?_)
                | (exfalso; omega)
                | (refine l_at_append (d := some 117) ?_; refine l_le _ (le_fg 1000000000000 rfl (.agg (.ref (.keep .nil)) .nil) (by simp only [nz, nf, nl, nb, nr, ng, nq, nu, reduceIte, Nat.reduceEqDiff, Nat.reduceAdd]; rfl)) ?_)
                | (refine l_at_append (d := some 127) ?_; refine l_le _ (le_fg 1000000000000 rfl (.agg (.keep (.ref .nil)) .nil) (by simp only [nz, nf, nl, nb, nr, ng, nq, nu, reduceIte, Nat.reduceEqDiff, Nat.reduceAdd]; rfl)) ?_)
                | (refine l_o ?_; first | refine l_eqnil rfl (by kernel_rfl) (by intro b; simp only [nz]; rfl) (fun b hb => ?_) | refine l_op rfl (by first | (apply k_sub; first | exact ops_sub (m := (((N ++ [((L2, R2) : Nd)]).length : Nat) : Int)) (n := 1) rfl rfl (by omega) (by omega) | fail) | fail) (hk := ?_) | refine l_op (hk := ?_) | (refine l_g ?_; first | refine l_y rfl rfl rfl ?_ | refine l_n rfl rfl rfl rfl (hk := ?_) | refine l_n' rfl rfl rfl (hk := ?_) | refine l_spnd rfl rfl rfl (h1 := fun hc => ?_) (h2 := fun hc => ?_) | refine l_spd rfl rfl rfl (h1 := fun hc => ?_) (h2 := fun hc => ?_) | refine l_spn rfl rfl rfl (h1 := fun hc => ?_) (h2 := fun hc => ?_) | refine l_sp rfl rfl rfl (h1 := fun hc => ?_) (h2 := fun hc => ?_)))
                | refine d_nil ?_
                | (refine d_o ?_; first | refine d_fl rfl (by first | exact .pl (by first | (apply q_sub; first | exact fs_sub (m := (((N ++ [((L2, R2) : Nd)]).length : Nat) : Int)) (n := 1) rfl rfl (by omega) (by omega) | fail) | fail) | exact .ye rfl rfl rfl (by first | (apply q_sub; first | exact fs_sub (m := (((N ++ [((L2, R2) : Nd)]).length : Nat) : Int)) (n := 1) rfl rfl (by omega) (by omega) | fail) | fail) | fail) (hk := ?_) | refine d_fl (hk := ?_) | refine d_ef (hk := ?_) | (refine d_g ?_; first | refine d_spnd rfl rfl rfl (h1 := fun hc => ?_) (h2 := fun hc => ?_) | refine d_spd rfl rfl rfl (h1 := fun hc => ?_) (h2 := fun hc => ?_) | refine d_spn rfl rfl rfl (h1 := fun hc => ?_) (h2 := fun hc => ?_) | refine d_sp rfl rfl rfl (h1 := fun hc => ?_) (h2 := fun hc => ?_)))
                | (refine w_o ?_; first | refine w_draw (id := 7) (fun _ => true) (fun k => [12].contains k) [[]] 64 (by kernel_rfl) rfl (by kernel_rfl) (by simp [nm, nset, -List.map_take, -List.map_drop]) ?_ | refine w_draw (id := 12) (fun _ => true) (fun k => [12].contains k) [[]] 64 (by kernel_rfl) rfl (by kernel_rfl) (by simp [nm, nset, -List.map_take, -List.map_drop]) ?_)
              refine en_le _ (le_trans (le_seal' 1000000000000 0 0 900 rfl rfl rfl rfl (by simp) (by simp [nm]) (by decide) (by simp only [nz, nf, nl, nb, nr, ng, nq, nu, reduceIte, Nat.reduceEqDiff, Nat.reduceAdd]; rfl)) (le_seal' 1000000000000 0 1 901 rfl rfl rfl rfl (by simp) (by simp [nm]) (by decide) (by simp only [nz, nf, nl, nb, nr, ng, nq, nu, reduceIte, Nat.reduceEqDiff, Nat.reduceAdd]; rfl))) ?_
              refine en_endm [] (hf := Try.results163) (hO := ?_) (hr := ?_)
              · rfl
              · have e5 : (((N ++ [((L2, R2) : Nd)]).length : Nat) : Int) - 1 = (E.length : Int) := by omega
                simp only [ne, nf, nl, nr, lget, reduceIte, Nat.reduceEqDiff, e5]
                try rfl
end Go.Proofs.Ytdignmbeiohhiaa
