/- The reference's book of nodes: a form's nodes put into it. For all forms within the bounds that the theorems name. -/
import Derived.Test.YtdignmbeiohhiaaFormT
namespace Go.Proofs.Ytdignmbeiohhiaa
open Eng
attribute [local irreducible] OpS OpG FC FCr Rel Fl Ef DR Fs
attribute [local simp] RV.fzR_names
set_option linter.unusedSimpArgs false
set_option maxHeartbeats 0
set_option maxRecDepth 100000

theorem add_ok (f : List Nd) (ok : OkF f) (hN : f.length ≤ 120) (h24 : ∀ k, (nd f k).1.length ≤ 24 ∧ (nd f k).2.length ≤ 24) : FC Try.prog 136 [.ptr 1000000000000 0 0, .agg [.sh (f.map RNd)]] [(1000000000000, 2, [RBk []])] (fun rv O => rv = ONs (addTo f f.length).2 ∧ O = [(1000000000000, 2, [RBk (addTo f f.length).1])]) := by
  have hA : ∀ k, k < f.length → ∀ l : List Nat, l.length ≤ 24 → (∀ x ∈ l, x < k) → FCr Try.prog 160 [RNs (addTo f k).2, RNs l] (ONs (atM (addTo f k).2 l)) := fun k hk l h1 h2 => l3At_ok _ l (by omega) fun x hx => by rw [(addTo_ok ok k (by omega)).atl]; exact h2 x hx
  have hB : ∀ k, k < f.length → ∀ l r : List Nat, l.length ≤ 24 → r.length ≤ 24 → (∀ x ∈ l, x < k) → (∀ x ∈ r, x < k) → _ := fun k hk l r h1 h2 h3 h4 => put_ok (addTo f k).1 (atM (addTo f k).2 l) (atM (addTo f k).2 r) (by have := (addTo_ok ok k (by omega)).le; omega) (addTo_ok ok k (by omega)).bnb (by simp [atM]; exact h1) (by simp [atM]; exact h2)
    (fun x hx => by
      obtain ⟨y, hy, rfl⟩ := List.mem_map.1 hx
      have ih := addTo_ok ok k (by omega)
      rw [gdp (by rw [ih.atl]; exact h3 y hy)]
      exact ih.atb _ (List.getElem_mem _))
    (fun x hx => by
      obtain ⟨y, hy, rfl⟩ := List.mem_map.1 hx
      have ih := addTo_ok ok k (by omega)
      rw [gdp (by rw [ih.atl]; exact h4 y hy)]
      exact ih.atb _ (List.getElem_mem _))
  have hs : ∀ k, addTo f (k + 1) = ((putB (addTo f k).1 (atM (addTo f k).2 (nd f k).1) (atM (addTo f k).2 (nd f k).2)).1, (addTo f k).2 ++ [(putB (addTo f k).1 (atM (addTo f k).2 (nd f k).1) (atM (addTo f k).2 (nd f k).2)).2]) := fun k => rfl
  have hal := fun k (hk : k ≤ f.length) => (addTo_ok ok k hk).atl
  refine (fc_in Try.func136 rfl (by simp only [Try.ntmps136, anys, List.length_cons, List.length_nil, Nat.reduceAdd, Nat.reduceSub, List.replicate_succ, List.replicate_zero, List.cons_append, List.nil_append] <;> rfl) ?_)
  repeat' first
    | refine w_seq ?_
    | refine w_block ?_
    | refine rb_n ?_
    | refine rb_ret ?_
    | refine rb_eq ?_
    | refine rb_ne (by rfl) ?_
    | refine w_exit ?_
    | refine rt_exit ?_
    | refine w_region ?_
    | refine l_nil ?_
    | refine rt_n ?_
    | refine w_ret ?_
    | refine rt_ret ?_
    | refine w_skip ?_
    | refine w_cond_t rfl ?_
    | refine w_cond_f rfl ?_
    | refine w_cnd rfl (fun hc => ?_) (fun hc => ?_)
    | refine w_cd rfl (fun hc => ?_) (fun hc => ?_)
    | refine w_cn rfl (fun hc => ?_) (fun hc => ?_)
    | refine w_cond rfl (fun hc => ?_) (fun hc => ?_)
    | (refine l_o ?_; first | refine l_op (hk := ?_))
    | refine d_nil ?_
    | (refine d_o ?_; first | refine d_fl (hk := ?_) | refine d_ef (hk := ?_))
    | (refine w_o ?_; first | refine w_draw (id := 5) (fun _ => true) (fun k => [9, 17, 18, 19, 20].contains k) [[], [], [], [], []] 64 (by kernel_rfl) rfl (by kernel_rfl) (by simp [nm, nset, -List.map_take, -List.map_drop]) ?_)
  refine w_le _ (le_trans (le_ren 7 35 (by decide) (by decide) (by simp [nm, ng, renL_id, -List.map_append, -List.map_take, -List.map_drop]) (by simp [nm, ng, renL_id, onames, -List.map_append, -List.map_take, -List.map_drop]) (by simp only [ng, nm, nu, renL_id, reduceIte, Nat.reduceEqDiff]; rfl) (by simp only [ng, nm, nu, renL_id, reduceIte, Nat.reduceEqDiff]; rfl)) (le_perm [35, 1000000000000, 3] rfl rfl)) ?_
  refine w_loopm (ι := Nat) (fun q => [(6, RVn q), (5, .ref 35 0 (addTo f q).2.length), (7, .any)]) (fun q => [(35, 1, (addTo f q).2.map RVn), (1000000000000, 2, [RBk (addTo f q).1]), (3, 1, [.agg [.sh (f.map RNd)]])]) (fun q => q ≤ f.length) (fun q => f.length - q) 0 (h0 := ?_) (hs := ?_) (round := ?_)
  · omega
  · refine le_eq (by (repeat' first | exact .nil | refine .keep ?_ | refine .any ?_); first | done | fail) rfl rfl
  · intro k hk
    by_cases hkl : k < f.length
    · have hnd : nd f k = f[k] := gdp hkl
      have okk := ok k
      have h24k := h24 k
      have hsk := hs k
      rw [hnd] at okk h24k hsk
      have h1 := hA k hkl f[k].1 h24k.1 okk.1.2
      have h2 := hA k hkl f[k].2 h24k.2 okk.2.2
      have h3 := hB k hkl f[k].1 f[k].2 h24k.1 h24k.2 okk.1.2 okk.2.2
      have hl := hal k hk
      have hl2 := hal (k + 1) hkl
      rw [hsk] at hl2
      generalize atM (addTo f k).2 f[k].1 = L1 at *
      generalize atM (addTo f k).2 f[k].2 = L2 at *
      generalize (putB (addTo f k).1 L1 L2) = Q at *
      repeat' first
        | refine w_seq ?_
        | refine w_block ?_
        | refine rb_n ?_
        | refine rb_ret ?_
        | refine rb_eq ?_
        | refine rb_ne (by rfl) ?_
        | refine w_exit ?_
        | refine rt_exit ?_
        | refine w_region ?_
        | refine l_nil ?_
        | refine rt_n ?_
        | refine w_ret ?_
        | refine rt_ret ?_
        | refine w_skip ?_
        | refine w_cond_t rfl ?_
        | refine w_cond_f rfl ?_
        | refine w_cnd rfl (fun hc => ?_) (fun hc => ?_)
        | refine w_cd rfl (fun hc => ?_) (fun hc => ?_)
        | refine w_cn rfl (fun hc => ?_) (fun hc => ?_)
        | refine w_cond rfl (fun hc => ?_) (fun hc => ?_)
        | (exfalso; omega)
        | (refine l_o ?_; first | refine l_op rfl (by first | (apply k_callf; first | exact ops_callP (d := 33) 1000000000000 [RBk Q.1] (hfc := h3) | fail) | fail) (hk := ?_) | refine l_op (hk := ?_))
        | refine e_nil ?_
        | (refine e_o ?_; first | refine e_fl rfl (by first | exact .pl (by first | (apply q_callf; first | exact fs_callz (d := 24) (hfc := h1) | exact fs_callz (d := 32) (hfc := h2) | fail) | fail) | fail) (hk := ?_) | refine e_fl (hk := ?_) | refine e_ef rfl (by first | exact .callP (d := 33) 1000000000000 [RBk Q.1] (hfc := h3) | fail) (hk := ?_) | refine e_ef (hk := ?_))
        | (refine w_o ?_; first | refine w_drawS (id := 5) (rdP [(3,3),(4,3),(6,3),(7,3),(8,3),(9,35),(11,3),(12,3),(14,3),(15,3),(16,3),(17,35)]) (fun k => [18, 20, 21].contains k) [[],[135],[]] (by kernel_rfl) rfl (by kernel_rfl) (by simp [nm, nset, -List.map_take, -List.map_drop]) ?_)
      -- DBG
      refine rn_mk (k + 1) (by omega) (by omega) (le_trans (le_kill 35 (by simp only [nz, nf, nl, nb, nr, ng, nq, nu, reduceIte, Nat.reduceEqDiff, Nat.reduceAdd]; rfl)) (le_trans (le_ren 135 35 (by decide) (by decide) (by simp [nm, ng, renL_id, -List.map_append, -List.map_take, -List.map_drop]) (by simp [nm, ng, renL_id, onames, -List.map_append, -List.map_take, -List.map_drop]) (by simp only [ng, nm, nu, renL_id, reduceIte, Nat.reduceEqDiff]; rfl) (by simp only [ng, nm, nu, renL_id, reduceIte, Nat.reduceEqDiff]; rfl)) ?_))
      rw [hsk]
      refine le_eq (by (repeat' first | exact .nil | refine .keep ?_ | refine .any ?_); first | done | fail) rfl rfl
    · obtain rfl : k = f.length := by omega
      repeat' first
        | refine w_seq ?_
        | refine w_block ?_
        | refine rb_n ?_
        | refine rb_ret ?_
        | refine rb_eq ?_
        | refine rb_ne (by rfl) ?_
        | refine w_exit ?_
        | refine rt_exit ?_
        | refine w_region ?_
        | refine l_nil ?_
        | refine rt_n ?_
        | refine w_ret ?_
        | refine rt_ret ?_
        | refine w_skip ?_
        | refine w_cond_t rfl ?_
        | refine w_cond_f rfl ?_
        | refine w_cnd rfl (fun hc => ?_) (fun hc => ?_)
        | refine w_cd rfl (fun hc => ?_) (fun hc => ?_)
        | refine w_cn rfl (fun hc => ?_) (fun hc => ?_)
        | refine w_cond rfl (fun hc => ?_) (fun hc => ?_)
        | (exfalso; omega)
        | (refine l_o ?_; first | refine l_op (hk := ?_))
        | refine d_nil ?_
        | (refine d_o ?_; first | refine d_fl (hk := ?_) | refine d_ef (hk := ?_))
        | (refine w_o ?_; first | refine w_draw (id := 5) (fun _ => true) (fun k => [9, 17, 18, 19, 20].contains k) [[], [], [], [], []] 64 (by kernel_rfl) rfl (by kernel_rfl) (by simp [nm, nset, -List.map_take, -List.map_drop]) ?_)
      refine en_le _ (le_drop 3 (by simp only [nz, nf, nl, nb, nr, ng, nq, nu, reduceIte, Nat.reduceEqDiff, Nat.reduceAdd]; rfl) (by simp only [nz, nf, nl, nb, nr, ng, nq, nu, reduceIte, Nat.reduceEqDiff, Nat.reduceAdd]; rfl)) ?_
      refine en_endm [] (hf := Try.results136) (hO := ?_) (hr := ?_)
      · rfl
      · rfl
theorem root_ok (f : List Nd) (ok : OkF f) (h0 : 0 < f.length) (hN : f.length ≤ 120) (h24 : ∀ k, (nd f k).1.length ≤ 24 ∧ (nd f k).2.length ≤ 24) : FC Try.prog 97 [.ptr 1000000000000 0 0, .agg [.sh (f.map RNd)]] [(1000000000000, 2, [RBk []])] (fun rv O => rv = RVn ((addTo f f.length).2.getD (f.length - 1) 0) ∧ O = [(1000000000000, 2, [RBk (addTo f f.length).1])]) := by
  have h := add_ok f ok hN h24
  have hl := (addTo_ok ok f.length (Nat.le_refl _)).atl
  generalize addTo f f.length = q at *
  obtain ⟨E, at_⟩ := q
  dsimp only at *
  rw [← hl] at h0 ⊢
  rw [gdp (show at_.length - 1 < at_.length by omega)]
  refine (fc_in Try.func97 rfl (by simp only [Try.ntmps97, anys, List.length_cons, List.length_nil, Nat.reduceAdd, Nat.reduceSub, List.replicate_succ, List.replicate_zero, List.cons_append, List.nil_append] <;> rfl) ?_)
  repeat' first
    | refine w_seq ?_
    | refine w_region ?_
    | refine l_nil ?_
    | refine rt_n ?_
    | refine w_ret ?_
    | refine rt_ret ?_
    | refine w_skip ?_
    | (refine l_o ?_; first | refine l_op rfl (by first | (apply k_sub; first | exact ops_subn (a := at_.length) (b := 1) rfl rfl (by omega) (by omega) | fail) | (apply k_indexAddr; first | exact ops_idx_refm (f := RVn) (l := at_) (i := at_.length - 1) rfl rfl (by omega) rfl (by omega) (by kernel_rfl) (by kernel_rfl) | fail) | (apply k_callf; first | exact ops_callP (d := 8) 1000000000000 [RBk E] (hfc := h) | fail) | fail) (hk := ?_) | refine l_op (hk := ?_))
  refine en_le _ (le_trans (le_drop 8 (by simp only [nz, nf, nl, nb, nr, ng, nq, nu, reduceIte, Nat.reduceEqDiff, Nat.reduceAdd]; rfl) (by simp only [nz, nf, nl, nb, nr, ng, nq, nu, reduceIte, Nat.reduceEqDiff, Nat.reduceAdd]; rfl)) (le_drop 3 (by simp only [nz, nf, nl, nb, nr, ng, nq, nu, reduceIte, Nat.reduceEqDiff, Nat.reduceAdd]; rfl) (by simp only [nz, nf, nl, nb, nr, ng, nq, nu, reduceIte, Nat.reduceEqDiff, Nat.reduceAdd]; rfl))) ?_
  refine en_endm [] (hf := Try.results97) (hO := ?_) (hr := ?_)
  · rfl
  · rfl
end Go.Proofs.Ytdignmbeiohhiaa
