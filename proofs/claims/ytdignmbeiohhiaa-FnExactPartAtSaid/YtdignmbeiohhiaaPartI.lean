/- A part of a form, as the program cuts it out. For all forms within the bounds that the theorems name. -/
import Derived.Test.YtdignmbeiohhiaaFormS
import Derived.Test.YtdignmbeiohhiaaFormU
import Derived.Test.YtdignmbeiohhiaaOpsP
namespace Go.Proofs.Ytdignmbeiohhiaa
open Eng
attribute [local irreducible] OpS OpG FC FCr Rel Fl Ef DR Fs
attribute [local simp] RV.fzR_names
set_option linter.unusedSimpArgs false
set_option maxHeartbeats 0
set_option maxRecDepth 100000

theorem renamed_ok (at_ l : List Nat) (hl : l.length ≤ 1000) (hx : ∀ x ∈ l, x < at_.length) : FCr Try.prog 139 [RNs l, RNs at_] (ONs (atM at_ l)) := by
  have hal : (atM at_ l).length = l.length := by simp [atM]
  have hat : ∀ k (h : k < l.length), at_[l[k]]'(hx _ (List.getElem_mem h)) = (atM at_ l)[k]'(by omega) := fun k h => by simp only [atM, List.getElem_map]; rw [gdp]
  refine (fcr_in Try.func139 rfl (by simp only [Try.ntmps139, anys, List.length_cons, List.length_nil, Nat.reduceAdd, Nat.reduceSub, List.replicate_succ, List.replicate_zero, List.cons_append, List.nil_append] <;> rfl) ?_)
  repeat' first
    | refine w_seq ?_
    | refine w_block ?_
    | refine rb_n ?_
    | refine rb_ret ?_
    | refine rb_eq ?_
    | refine rb_ne (by rfl) ?_
    | refine w_exit ?_
    | refine rt_exit ?_
    | refine w_region ?_
    | refine l_nil ?_
    | refine rt_n ?_
    | refine w_ret ?_
    | refine rt_ret ?_
    | refine w_skip ?_
    | refine w_cond_t rfl ?_
    | refine w_cond_f rfl ?_
    | refine w_cnd rfl (fun hc => ?_) (fun hc => ?_)
    | refine w_cd rfl (fun hc => ?_) (fun hc => ?_)
    | refine w_cn rfl (fun hc => ?_) (fun hc => ?_)
    | refine w_cond rfl (fun hc => ?_) (fun hc => ?_)
    | (refine l_o ?_; first | refine l_op (hk := ?_))
  refine w_loopm (ι := Nat × List Nat) (fun k => [(13, RVn k.1), (5, .ref 10 0 l.length), (10, .ref 10 0 l.length), (6, .any), (7, .any)]) (fun k => [(10, 1, k.2.map RVn)]) (fun k => k.1 ≤ l.length ∧ k.2.length = l.length ∧ k.2.take k.1 = (atM at_ l).take k.1) (fun k => l.length - k.1) (0, List.replicate l.length 0) (h0 := ?_) (hs := ?_) (round := ?_)
  · simp
  · refine le_eq (by (repeat' first | exact .nil | refine .keep ?_ | refine .any ?_); first | done | fail) rfl (by simp)
  · intro ⟨k, m⟩ ⟨hk, hm, hg⟩
    dsimp only at hk hm hg ⊢
    by_cases hkl : k < l.length
    · have hxk := hx _ (List.getElem_mem hkl)
      have e := hat k hkl
      repeat' first
        | refine w_seq ?_
        | refine w_block ?_
        | refine rb_n ?_
        | refine rb_ret ?_
        | refine rb_eq ?_
        | refine rb_ne (by rfl) ?_
        | refine w_exit ?_
        | refine rt_exit ?_
        | refine w_region ?_
        | refine l_nil ?_
        | refine rt_n ?_
        | refine w_ret ?_
        | refine rt_ret ?_
        | refine w_skip ?_
        | refine w_cond_t rfl ?_
        | refine w_cond_f rfl ?_
        | refine w_cnd rfl (fun hc => ?_) (fun hc => ?_)
        | refine w_cd rfl (fun hc => ?_) (fun hc => ?_)
        | refine w_cn rfl (fun hc => ?_) (fun hc => ?_)
        | refine w_cond rfl (fun hc => ?_) (fun hc => ?_)
        | (exfalso; omega)
        | (refine l_o ?_; first | refine l_op (hk := ?_))
      refine rn_mk (k + 1, m.set k at_[l[k]]) ?_ (by first | omega | (dsimp only; omega)) (le_eq (by (repeat' first | exact .nil | refine .keep ?_ | refine .any ?_); first | done | fail) rfl rfl)
      exact ⟨by dsimp only; omega, by simpa using hm, by dsimp only; rw [e]; exact take_set_next hg (by omega) (by omega)⟩
    · repeat' first
        | refine w_seq ?_
        | refine w_block ?_
        | refine rb_n ?_
        | refine rb_ret ?_
        | refine rb_eq ?_
        | refine rb_ne (by rfl) ?_
        | refine w_exit ?_
        | refine rt_exit ?_
        | refine w_region ?_
        | refine l_nil ?_
        | refine rt_n ?_
        | refine w_ret ?_
        | refine rt_ret ?_
        | refine w_skip ?_
        | refine w_cond_t rfl ?_
        | refine w_cond_f rfl ?_
        | refine w_cnd rfl (fun hc => ?_) (fun hc => ?_)
        | refine w_cd rfl (fun hc => ?_) (fun hc => ?_)
        | refine w_cn rfl (fun hc => ?_) (fun hc => ?_)
        | refine w_cond rfl (fun hc => ?_) (fun hc => ?_)
        | (exfalso; omega)
        | (refine l_o ?_; first | refine l_op (hk := ?_))
      refine en_end (hf := Try.results139) (hr := ?_); simp only [ne, nf, nl, nr, lget, reduceIte, Nat.reduceEqDiff]; first | rfl | refine congrArg RVb ?_ | refine congrArg RVi ?_ | skip
      rw [List.take_of_length_le (by omega), List.take_of_length_le (by omega)] at hg
      rw [hg]
/-- The new places of the first i nodes. -/
def atW (need : List Bool) (n i : Nat) : List Nat := (List.range n).map fun k => if k < i ∧ need.getD k false = true then rk need k else 0
theorem atW_len (need : List Bool) (n i : Nat) : (atW need n i).length = n := by simp [atW]
theorem atW_zero (need : List Bool) (n : Nat) : atW need n 0 = List.replicate n 0 := by
  unfold atW
  refine List.ext_getElem (by simp) fun i h1 h2 => ?_
  simp
theorem atW_skip {need : List Bool} {n i : Nat} (h : need.getD i false = false) : atW need n (i + 1) = atW need n i := by
  unfold atW
  refine List.map_congr_left fun k _ => ?_
  by_cases hk : k = i
  · subst hk
    rw [if_neg (by rw [h]; simp), if_neg (by rw [h]; simp)]
  · have : (k < i + 1 ∧ need.getD k false = true) ↔ (k < i ∧ need.getD k false = true) := by constructor <;> intro ⟨a, b⟩ <;> exact ⟨by omega, b⟩
    simp only [this]
theorem atW_next {need : List Bool} {n i : Nat} (h : need.getD i false = true) : (atW need n i).set i (rk need i) = atW need n (i + 1) := by
  refine List.ext_getElem (by simp [atW]) fun k h1 h2 => ?_
  rw [List.getElem_set]
  simp only [atW, List.getElem_map, List.getElem_range]
  by_cases hk : i = k
  · subst hk
    rw [if_pos rfl, if_pos ⟨by omega, h⟩]
  · rw [if_neg hk]
    have : (k < i + 1 ∧ need.getD k false = true) ↔ (k < i ∧ need.getD k false = true) := by constructor <;> intro ⟨a, b⟩ <;> exact ⟨by omega, b⟩
    simp only [this]
theorem atW_at {need : List Bool} {n i k : Nat} (hn : i ≤ n) (hk : k < i) (h : need.getD k false = true) : (atW need n i).getD k 0 = rk need k := by
  rw [gdp (by rw [atW_len]; omega)]
  simp only [atW, List.getElem_map, List.getElem_range]
  rw [if_pos ⟨hk, h⟩]
theorem partF_next {f : List Nd} {need : List Bool} {n : Nat} (h : need.getD n false = true) : partF f need (n + 1) = partF f need n ++ [nodeOf f need n] := by
  unfold partF; rw [ned_succ, if_pos h, List.map_append]; rfl
theorem partF_skip {f : List Nd} {need : List Bool} {n : Nat} (h : need.getD n false = false) : partF f need (n + 1) = partF f need n := by
  unfold partF; rw [ned_succ, if_neg (by rw [h]; simp)]
theorem partF_len (f : List Nd) (need : List Bool) (n : Nat) : (partF f need n).length = rk need n := by unfold partF rk; rw [List.length_map]
theorem rk_le (need : List Bool) (n : Nat) : rk need n ≤ n := by
  unfold rk ned
  have := List.length_filter_le (fun k => need.getD k false) (List.range n)
  rw [List.length_range] at this
  exact this
theorem map_setN (l : List Nat) (i n : Nat) : (l.set i n).map RVn = (l.map RVn).set i (RVn n) := List.map_set
theorem names_setP (l : List Nat) (i n : Nat) : RV.namesL ((l.map RVn).set i (RVn n)) = [] := by
  rw [← map_setN]; exact namesL_map0 _ _ fun _ => rfl
attribute [local simp] names_setP
theorem part_ok (f : List Nd) (ok : OkF f) (at_ : Nat) (hr : at_ < f.length) (hN : f.length ≤ 120) : FCr Try.prog 107 [.agg [.sh (f.map RNd)], RVn at_] (.agg [.ow 2 ((partF f (usdF f at_) (at_ + 1)).map ONd)]) := by
  have hU := used_ok f ok at_ hr hN
  have hcl := usdF_closed ok at_
  have hul := usdF_len (f := f) at_
  have hlong := usd_long (f := f) ok at_ (f.length - at_ - 1)
  rw [show at_ + 1 + (f.length - at_ - 1) = f.length by omega] at hlong
  rw [hlong] at hU
  generalize usdF f at_ = need at *
  clear hlong
  have hgl : (f.take (at_ + 1)).length = at_ + 1 := by rw [List.length_take]; omega
  have hgi : ∀ i (h : i < (f.take (at_ + 1)).length), (f.take (at_ + 1))[i] = nd f i := fun i h => by
    rw [List.getElem_take]; exact (gdp (by omega)).symm
  obtain ⟨IS, hIS⟩ : ∃ IS, IS = need ++ List.replicate (f.length - at_ - 1) false := ⟨_, rfl⟩
  have hIl : IS.length = f.length := by rw [hIS, List.length_append, List.length_replicate]; omega
  have hIi : ∀ i (h : i < IS.length), i ≤ at_ → IS[i] = need.getD i false := fun i h h2 => by
    simp only [hIS]
    rw [List.getElem_append_left (by omega), gdp (by omega)]
  rw [← hIS] at hU
  clear hIS
  refine (fcr_in Try.func107 rfl (by simp only [Try.ntmps107, anys, List.length_cons, List.length_nil, Nat.reduceAdd, Nat.reduceSub, List.replicate_succ, List.replicate_zero, List.cons_append, List.nil_append] <;> rfl) ?_)
  repeat' first
    | refine w_seq ?_
    | refine w_block ?_
    | refine rb_n ?_
    | refine rb_ret ?_
    | refine rb_eq ?_
    | refine rb_ne (by rfl) ?_
    | refine w_exit ?_
    | refine rt_exit ?_
    | refine w_region ?_
    | refine l_nil ?_
    | refine rt_n ?_
    | refine w_ret ?_
    | refine rt_ret ?_
    | refine w_skip ?_
    | refine w_cond_t rfl ?_
    | refine w_cond_f rfl ?_
    | refine w_cnd rfl (fun hc => ?_) (fun hc => ?_)
    | refine w_cd rfl (fun hc => ?_) (fun hc => ?_)
    | refine w_cn rfl (fun hc => ?_) (fun hc => ?_)
    | refine w_cond rfl (fun hc => ?_) (fun hc => ?_)
    | (refine l_o ?_; first | refine l_op rfl (by first | (apply k_slice; first | exact ops_cuthm (kk := 2) rfl rfl (by omega) (by kernel_rfl) (by kernel_rfl) (by decide) (fun _ => rfl) | fail) | (apply k_callf; first | exact ops_callz (d := 13) (hfc := hU) | fail) | fail) (hk := ?_) | refine l_op (hk := ?_))
    | refine d_nil ?_
    | (refine d_o ?_; first | refine d_fl rfl (by first | exact .pl (by first | (apply q_slice; first | exact fs_cuthm (kk := 2) rfl rfl (by omega) (by kernel_rfl) (by kernel_rfl) (by decide) (fun _ => rfl) | fail) | fail) | fail) (hk := ?_) | refine d_fl (hk := ?_) | refine d_ef rfl (by first | exact .callz (d := 13) (hfc := hU) | fail) (hk := ?_) | refine d_ef (hk := ?_))
    | (refine w_o ?_; first | refine w_draw (id := 9) (fun _ => true) (fun k => [4, 8, 10, 11].contains k) [[], [], [], []] 64 (by kernel_rfl) rfl (by kernel_rfl) (by simp [nm, nset, -List.map_take, -List.map_drop]) ?_)
  refine w_loopm (ι := Nat) (fun i => [(25, RVn i), (7, .ref 18 0 (partF f need i).length), (18, .any), (8, .any), (9, .any), (6, .ref 17 0 f.length), (17, .ref 17 0 f.length)]) (fun i => [(18, 2, (partF f need i).map ONd), (17, 1, (atW need f.length i).map RVn), (4, 1, [.agg [.v (.slice none 0 0)]]), (2, 1, [.agg [.sh (f.map RNd)]])]) (fun i => i ≤ at_ + 1) (fun i => at_ + 1 - i) 0 (h0 := ?_) (hs := ?_) (round := ?_)
  · exact Nat.zero_le _
  · refine le_eq (by (repeat' first | exact .nil | refine .keep ?_ | refine .any ?_); first | done | fail) rfl (by rw [atW_zero]; simp [partF, ned])
  · intro i hi
    have hpl := partF_len f need i
    have hrk := rk_le need i
    have haw := atW_len need f.length i
    by_cases hil : i < at_ + 1
    · have hg := hgi i (by omega)
      cases hb : need.getD i false with
      | true =>
        have hb2 : IS[i]'(by omega) = true := (hIi i (by omega) (by omega)).trans hb
        have hoL := (ok i).1.2
        have hoR := (ok i).2.2
        have hlL := sn_len (ok i).1.1 hoL
        have hlR := sn_len (ok i).2.1 hoR
        have hcL := fun x hx => hcl i hil hb x (.inl hx)
        have hcR := fun x hx => hcl i hil hb x (.inr hx)
        have hnx := partF_next (f := f) hb
        have han := atW_next (n := f.length) hb
        rw [← hpl] at han
        have aL : atM (atW need f.length (i + 1)) (nd f i).1 = (nodeOf f need i).1 := List.map_congr_left fun x hx => atW_at (by omega) (by have := hoL x hx; omega) (hcL x hx)
        have aR : atM (atW need f.length (i + 1)) (nd f i).2 = (nodeOf f need i).2 := List.map_congr_left fun x hx => atW_at (by omega) (by have := hoR x hx; omega) (hcR x hx)
        have r1 := renamed_ok (atW need f.length (i + 1)) (nd f i).1 (by omega) (fun x hx => by rw [atW_len]; have := hoL x hx; omega)
        have r2 := renamed_ok (atW need f.length (i + 1)) (nd f i).2 (by omega) (fun x hx => by rw [atW_len]; have := hoR x hx; omega)
        rw [aL] at r1
        rw [aR] at r2
        rw [← han] at r1 r2
        have hs : ∀ x y, ((atW need f.length i).set x y).length = f.length := fun x y => by rw [List.length_set, haw]
        have hs2 := hs i (partF f need i).length
        have hn1 : (nd f i).1.length = (nodeOf f need i).1.length := by simp [nodeOf]
        have hn2 : (nd f i).2.length = (nodeOf f need i).2.length := by simp [nodeOf]
        obtain ⟨M, hM⟩ : ∃ M, M = (atW need f.length i).set i (partF f need i).length := ⟨_, rfl⟩
        rw [← hM] at r1 r2 hs2 han
        have t1 := List.take_of_length_le (l := M.map RVn) (i := f.length) (by rw [List.length_map]; omega)
        repeat' first
          | refine w_seq ?_
          | refine w_block ?_
          | refine rb_n ?_
          | refine rb_ret ?_
          | refine rb_eq ?_
          | refine rb_ne (by rfl) ?_
          | refine w_exit ?_
          | refine rt_exit ?_
          | refine w_region ?_
          | refine l_nil ?_
          | refine rt_n ?_
          | refine w_ret ?_
          | refine rt_ret ?_
          | refine w_skip ?_
          | refine w_cond_t rfl ?_
          | refine w_cond_f rfl ?_
          | refine w_cnd rfl (fun hc => ?_) (fun hc => ?_)
          | refine w_cd rfl (fun hc => ?_) (fun hc => ?_)
          | refine w_cn rfl (fun hc => ?_) (fun hc => ?_)
          | refine w_cond rfl (fun hc => ?_) (fun hc => ?_)
          | (exfalso; omega)
          | (rw [hb2])
          | (simp only [hg])
          | (rw [← hM])
          | (refine w_drawP (id := 9) (roL [9, 17]) (fun k => [10, 11].contains k) [(4, 43), (8, 47), (10, 49), (11, 50)] (by kernel_rfl) rfl (by kernel_rfl) rfl (by decide) (by simp [nm, onames]) ?_)
          | (refine l_o ?_; first | refine l_op (hk := ?_))
          | refine d_nil ?_
          | (refine d_o ?_; first | refine d_fl (hk := ?_) | refine d_ef (hk := ?_))
          | (refine w_o ?_; first | refine w_draw (id := 9) (fun _ => true) (fun k => [4, 8, 10, 11].contains k) [[], [], [], []] 64 (by kernel_rfl) rfl (by kernel_rfl) (by simp [nm, nset, -List.map_take, -List.map_drop]) ?_)
        iterate 4 refine p_fl (hk := ?_)
        refine p_pu (.callv (by simp [view1, viewC, olook, nz, nf, hs2, t1, fz_RNs]) rfl (by simp [nm, nz, St.get, lget, roL]) (by kernel_rfl) r1 (by simp [RV.resOkT, RV.resOk, RV.isAgg, nm]) (by simp [ns]) (by simp [nz, nm]) (by rfl) (by decide)) (hk := ?_)
        iterate 3 refine p_fl (hk := ?_)
        refine p_pu (.callv (by simp [view1, viewC, olook, nz, nf, hs2, t1, fz_RNs]) rfl (by simp [nm, nz, St.get, lget, roL]) (by kernel_rfl) r2 (by simp [RV.resOkT, RV.resOk, RV.isAgg, nm]) (by simp [ns]) (by simp [nz, nm]) (by rfl) (by decide)) (hk := ?_)
        refine p_fl (hk := ?_)
        refine p_ef (.buildSlice (k := 2) rfl rfl rfl (by decide) (by decide) (by kernel_rfl) (by decide +kernel) rfl (by decide) (by simp [nm, onames]) (by simp [nm, nz, St.get, lget])) (hk := ?_)
        refine p_ef (.apNew rfl rfl rfl rfl (by decide) (by simp) (by simp) (by simp) (by decide) (by simp [nm, onames]) ⟨by kernel_rfl, by kernel_rfl, by kernel_rfl, by kernel_rfl⟩ (by simp; omega)) (hk := ?_)
        refine p_fl (hk := ?_)
        refine p_nil ?_
        repeat' first
          | refine w_seq ?_
          | refine w_block ?_
          | refine rb_n ?_
          | refine rb_ret ?_
          | refine rb_eq ?_
          | refine rb_ne (by rfl) ?_
          | refine w_exit ?_
          | refine rt_exit ?_
          | refine w_region ?_
          | refine l_nil ?_
          | refine rt_n ?_
          | refine w_ret ?_
          | refine rt_ret ?_
          | refine w_skip ?_
          | refine w_cond_t rfl ?_
          | refine w_cond_f rfl ?_
          | refine w_cnd rfl (fun hc => ?_) (fun hc => ?_)
          | refine w_cd rfl (fun hc => ?_) (fun hc => ?_)
          | refine w_cn rfl (fun hc => ?_) (fun hc => ?_)
          | refine w_cond rfl (fun hc => ?_) (fun hc => ?_)
          | (refine l_o ?_; first | refine l_op (hk := ?_))
          | refine d_nil ?_
          | (refine d_o ?_; first | refine d_fl (hk := ?_) | refine d_ef (hk := ?_))
          | (refine w_o ?_; first | refine w_draw (id := 9) (fun _ => true) (fun k => [4, 8, 10, 11].contains k) [[], [], [], []] 64 (by kernel_rfl) rfl (by kernel_rfl) (by simp [nm, nset, -List.map_take, -List.map_drop]) ?_)
        refine rn_mk (i + 1) (by omega) (by omega) ?_
        rw [hnx, ← han]
        rw [← hpl] at hrk
        have s1 : ∀ (P : List Nd) (e x : RV), (P.map ONd ++ [e]).set P.length x = P.map ONd ++ [x] := fun P e x => by rw [List.set_append_right _ _ (by simp)]; simp
        have s2 : ∀ (P : List Nd) (e : RV), (P.map ONd ++ [e])[P.length]? = some e := fun P e => by rw [List.getElem?_append_right (by simp)]; simp
        have s3 : ∀ (P : List Nd) (e : RV), (P.map ONd ++ [e]).length = P.length + 1 := fun P e => by simp
        have s4 : ∀ (P : List Nd) (x : Nd), (P ++ [x]).length = P.length + 1 := fun P x => by simp
        simp only [s3, s4]
        refine le_trans (le_seal 50 (partF f need i).length 0 43 rfl (s2 _ _) rfl rfl (by simp) (namesL_map0 _ _ fun _ => rfl) (by decide) rfl (by simp only [oset, oerase, reduceIte, Nat.reduceEqDiff, RV.setCell, s1, List.set_cons_zero]; rfl)) ?_
        refine le_trans (le_seal 50 (partF f need i).length 1 47 rfl (s2 _ _) rfl rfl (by simp) (namesL_map0 _ _ fun _ => rfl) (by decide) rfl (by simp only [oset, oerase, reduceIte, Nat.reduceEqDiff, RV.setCell, s1, List.set_cons_zero, List.set_cons_succ]; rfl)) ?_
        refine le_trans (le_kill 18 (by simp only [nz, nf, nl, nb, nr, ng, nq, nu, reduceIte, Nat.reduceEqDiff, Nat.reduceAdd]; rfl)) (le_trans (le_ren 50 18 (by decide) (by decide) (by simp [nm, ng, renL_id, -List.map_append, -List.map_take, -List.map_drop]) (by simp [nm, ng, renL_id, onames, -List.map_append, -List.map_take, -List.map_drop]) (by simp only [ng, nm, nu, renL_id, reduceIte, Nat.reduceEqDiff]; rfl) (by simp only [ng, nm, nu, renL_id, reduceIte, Nat.reduceEqDiff]; rfl)) ?_)
        refine le_dropd 9 (by simp only [nz]; rfl) (by simp only [nz, reduceIte, Nat.reduceEqDiff] <;> rfl) (le_eq (by (repeat' first | exact .nil | refine .keep ?_ | refine .any ?_); first | done | fail) rfl ?_)
        have s5 : ∀ σ, RV.renL σ (List.map ONd (partF f need i) ++ [RV.agg [RV.ow 1 (List.map RVn (nodeOf f need i).1), RV.ow 1 (List.map RVn (nodeOf f need i).2)]]) = (partF f need i ++ [nodeOf f need i]).map ONd := fun σ => by
          rw [show List.map ONd (partF f need i) ++ [RV.agg [RV.ow 1 (List.map RVn (nodeOf f need i).1), RV.ow 1 (List.map RVn (nodeOf f need i).2)]] = (partF f need i ++ [nodeOf f need i]).map ONd by simp]
          exact renL_id (namesL_map0 _ _ fun _ => by simp [nm])
        rw [s5]
      | false =>
        have hb2 : IS[i]'(by omega) = false := (hIi i (by omega) (by omega)).trans hb
        repeat' first
          | refine w_seq ?_
          | refine w_block ?_
          | refine rb_n ?_
          | refine rb_ret ?_
          | refine rb_eq ?_
          | refine rb_ne (by rfl) ?_
          | refine w_exit ?_
          | refine rt_exit ?_
          | refine w_region ?_
          | refine l_nil ?_
          | refine rt_n ?_
          | refine w_ret ?_
          | refine rt_ret ?_
          | refine w_skip ?_
          | refine w_cond_t rfl ?_
          | refine w_cond_f rfl ?_
          | refine w_cnd rfl (fun hc => ?_) (fun hc => ?_)
          | refine w_cd rfl (fun hc => ?_) (fun hc => ?_)
          | refine w_cn rfl (fun hc => ?_) (fun hc => ?_)
          | refine w_cond rfl (fun hc => ?_) (fun hc => ?_)
          | (exfalso; omega)
          | (rw [hb2])
          | (refine l_o ?_; first | refine l_op (hk := ?_))
          | refine d_nil ?_
          | (refine d_o ?_; first | refine d_fl (hk := ?_) | refine d_ef (hk := ?_))
          | (refine w_o ?_; first | refine w_draw (id := 9) (fun _ => true) (fun k => [4, 8, 10, 11].contains k) [[], [], [], []] 64 (by kernel_rfl) rfl (by kernel_rfl) (by simp [nm, nset, -List.map_take, -List.map_drop]) ?_)
        refine rn_mk (i + 1) (by omega) (by omega) ?_
        rw [partF_skip hb, atW_skip hb]
        exact le_dropd 9 (by simp only [nz]; rfl) (by simp only [nz, reduceIte, Nat.reduceEqDiff] <;> rfl) (le_eq (by (repeat' first | exact .nil | refine .keep ?_ | refine .any ?_); first | done | fail) rfl rfl)
    · obtain rfl : i = at_ + 1 := by omega
      repeat' first
        | refine w_seq ?_
        | refine w_block ?_
        | refine rb_n ?_
        | refine rb_ret ?_
        | refine rb_eq ?_
        | refine rb_ne (by rfl) ?_
        | refine w_exit ?_
        | refine rt_exit ?_
        | refine w_region ?_
        | refine l_nil ?_
        | refine rt_n ?_
        | refine w_ret ?_
        | refine rt_ret ?_
        | refine w_skip ?_
        | refine w_cond_t rfl ?_
        | refine w_cond_f rfl ?_
        | refine w_cnd rfl (fun hc => ?_) (fun hc => ?_)
        | refine w_cd rfl (fun hc => ?_) (fun hc => ?_)
        | refine w_cn rfl (fun hc => ?_) (fun hc => ?_)
        | refine w_cond rfl (fun hc => ?_) (fun hc => ?_)
        | (exfalso; omega)
        | (refine l_o ?_; first | refine l_op (hk := ?_))
        | refine d_nil ?_
        | (refine d_o ?_; first | refine d_fl (hk := ?_) | refine d_ef (hk := ?_))
        | (refine w_o ?_; first | refine w_draw (id := 9) (fun _ => true) (fun k => [4, 8, 10, 11].contains k) [[], [], [], []] 64 (by kernel_rfl) rfl (by kernel_rfl) (by simp [nm, nset, -List.map_take, -List.map_drop]) ?_)
      refine en_end (hf := Try.results107) (hr := ?_); simp only [ne, nf, nl, nr, lget, reduceIte, Nat.reduceEqDiff]; first | rfl | refine congrArg RVb ?_ | refine congrArg RVi ?_ | skip
end Go.Proofs.Ytdignmbeiohhiaa
