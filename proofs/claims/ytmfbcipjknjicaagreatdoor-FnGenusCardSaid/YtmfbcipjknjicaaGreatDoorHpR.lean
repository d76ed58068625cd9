/- Positions behind a move by the program. For all codes and positions of the sizes that the theorems name. -/
import Derived.Test.YtmfbcipjknjicaaGreatDoorHpI
import Derived.Test.YtmfbcipjknjicaaGreatDoorJ20
namespace Go.Proofs.YtmfbcipjknjicaaGreatDoor
set_option linter.unusedSectionVars false
variable [One Bool]
open Eng
attribute [local irreducible] OpS OpG FC FCr Rel Fl Ef DR Fs
attribute [local simp] RV.fzR_names
set_option linter.unusedSimpArgs false
set_option linter.unusedVariables false
set_option maxHeartbeats 0
set_option maxRecDepth 100000

def fillH (h : List Int) : List Int := h.filter fun x => decide (0 < x)
theorem fillH_len (h : List Int) : (fillH h).length ≤ h.length := List.length_filter_le _ _
theorem fillH_pos {h : List Int} : ∀ x ∈ fillH h, 0 < x := fun x hx => by
  have := (List.mem_filter.1 hx).2
  simpa using this
theorem fillH_id {h : List Int} (hp : ∀ x ∈ h, 0 < x) : fillH h = h := List.filter_eq_self.2 fun x hx => by simpa using hp x hx
theorem filled_ok (h : List Int) (hl : h.length ≤ 1048576) : FCr Tryz.prog 52 [RIs h] (OIs (fillH h)) := by
  refine (fcr_in Tryz.func52 rfl (by simp only [Tryz.ntmps52, anys, List.length_cons, List.length_nil, Nat.reduceAdd, Nat.reduceSub, List.replicate_succ, List.replicate_zero, List.cons_append, List.nil_append] <;> rfl) ?_)
  repeat' first | apply w_seq | apply w_block | apply rb_n | apply rb_ret | apply rb_eq | refine rb_ne (by rfl) ?_ | apply w_exit | apply rt_exit | apply w_region | apply l_nil | apply rt_n | apply w_ret | apply rt_ret | apply w_skip | refine w_cond_t rfl ?_ | refine w_cond_f rfl ?_ | ((first | refine w_cnd rfl ?_ ?_ | refine w_cd rfl ?_ ?_ | refine w_cn rfl ?_ ?_ | refine w_cond rfl ?_ ?_) <;> intro hc) | (refine l_o ?_; first | refine l_op (hk := ?_))
  refine w_loopm (ι := Nat × List Int) (fun q => [(9, RVn q.1), (3, .ref 6 0 q.2.length), (6, .any)]) (fun q => [(6, 1, q.2.map RVi)]) (fun q => q.1 ≤ h.length ∧ q.2.length ≤ q.1 ∧ q.2 = fillH (h.take q.1)) (fun q => h.length - q.1) (0, []) (h0 := ?_) (hs := ?_) (round := ?_)
  · exact ⟨Nat.zero_le _, Nat.le_refl _, rfl⟩
  · refine le_eq (by (repeat' first | exact .nil | refine .keep ?_ | refine .any ?_); first | done | fail) rfl rfl
  · intro ⟨k, L⟩ ⟨hk, hLl, hL⟩
    dsimp only at hk hLl hL ⊢
    by_cases hk2 : k < h.length
    · have e : fillH (h.take (k + 1)) = if 0 < h[k] then L ++ [h[k]] else L := by
        rw [List.take_succ_eq_append_getElem hk2, fillH, List.filter_append, hL]
        split
        · rename_i h1; simp [h1, fillH]
        · rename_i h1; simp [h1, fillH]
      by_cases hp : 0 < h[k]
      · rw [if_pos hp] at e
        repeat' first | apply w_seq | apply w_block | apply rb_n | apply rb_ret | apply rb_eq | refine rb_ne (by rfl) ?_ | apply w_exit | apply rt_exit | apply w_region | apply l_nil | apply rt_n | apply w_ret | apply rt_ret | apply w_skip | refine w_cond_t rfl ?_ | refine w_cond_f rfl ?_ | ((first | refine w_cnd rfl ?_ ?_ | refine w_cd rfl ?_ ?_ | refine w_cn rfl ?_ ?_ | refine w_cond rfl ?_ ?_) <;> intro hc) | (exfalso; omega) | (refine l_o ?_; first | refine l_op (hk := ?_))
        refine rn_mk (k + 1, L ++ [h[k]]) ?_ (by first | omega | (dsimp only; omega)) (le_eq (by (repeat' first | exact .nil | refine .keep ?_ | refine .any ?_); first | done | fail) rfl rfl)
        exact ⟨hk2, by dsimp only; simp; omega, e.symm⟩
      · rw [if_neg hp] at e
        repeat' first | apply w_seq | apply w_block | apply rb_n | apply rb_ret | apply rb_eq | refine rb_ne (by rfl) ?_ | apply w_exit | apply rt_exit | apply w_region | apply l_nil | apply rt_n | apply w_ret | apply rt_ret | apply w_skip | refine w_cond_t rfl ?_ | refine w_cond_f rfl ?_ | ((first | refine w_cnd rfl ?_ ?_ | refine w_cd rfl ?_ ?_ | refine w_cn rfl ?_ ?_ | refine w_cond rfl ?_ ?_) <;> intro hc) | (exfalso; omega) | (refine l_o ?_; first | refine l_op (hk := ?_))
        refine rn_mk (k + 1, L) ?_ (by first | omega | (dsimp only; omega)) (le_eq (by (repeat' first | exact .nil | refine .keep ?_ | refine .any ?_); first | done | fail) rfl rfl)
        exact ⟨hk2, by dsimp only; omega, e.symm⟩
    · obtain rfl : k = h.length := by omega
      rw [List.take_length] at hL
      subst hL
      repeat' first | apply w_seq | apply w_block | apply rb_n | apply rb_ret | apply rb_eq | refine rb_ne (by rfl) ?_ | apply w_exit | apply rt_exit | apply w_region | apply l_nil | apply rt_n | apply w_ret | apply rt_ret | apply w_skip | refine w_cond_t rfl ?_ | refine w_cond_f rfl ?_ | ((first | refine w_cnd rfl ?_ ?_ | refine w_cd rfl ?_ ?_ | refine w_cn rfl ?_ ?_ | refine w_cond rfl ?_ ?_) <;> intro hc) | (exfalso; omega) | (refine l_o ?_; first | refine l_op (hk := ?_))
      refine en_end (hf := Tryz.results52) (hr := ?_); simp only [ne, nf, nl, nr, lget, reduceIte, Nat.reduceEqDiff]; first | rfl | refine congrArg RVb ?_ | refine congrArg RVi ?_ | skip
theorem replaced_ok (h : List Int) (i : Nat) (m : List Int) (hi : i < h.length) (hl : h.length ≤ 1048576) (hm : m.length ≤ 1048576) : FCr Tryz.prog 101 [RIs h, RVn i, RIs m] (OIs (aftH h i m)) := by
  have eX : [h.take i, h.drop (i + 1), m].flatten = h.take i ++ h.drop (i + 1) ++ m := by simp
  have hXl : (h.take i ++ h.drop (i + 1) ++ m).length ≤ 2097152 := by simp; omega
  have hC := concat_ok [h.take i, h.drop (i + 1), m] (by simp) (by rw [eX]; omega)
  rw [eX] at hC
  have hS := sortI_ok (h.take i ++ h.drop (i + 1) ++ m) (by omega)
  rw [show srtI (h.take i ++ h.drop (i + 1) ++ m) = aftH h i m from rfl] at hS
  have hlen : (h.take i ++ h.drop (i + 1) ++ m).length = (aftH h i m).length := by rw [aftH, srtI_len]
  generalize h.take i ++ h.drop (i + 1) ++ m = X at *
  generalize aftH h i m = Y at *
  refine (fcr_in Tryz.func101 rfl (by simp only [Tryz.ntmps101, anys, List.length_cons, List.length_nil, Nat.reduceAdd, Nat.reduceSub, List.replicate_succ, List.replicate_zero, List.cons_append, List.nil_append] <;> rfl) ?_)
  repeat' first | apply w_seq | apply w_region | apply l_nil | apply rt_n | apply w_ret | apply rt_ret | apply w_skip | (refine l_o ?_; first | refine l_op rfl (by first | (apply k_callf; first | exact ops_callP (d := 19) 17 (Y.map RVi) (hfc := hS) | exact ops_callv (d := 17) (hfc := hC) | fail) | fail) (hk := ?_) | refine l_op (hk := ?_)) | refine d_nil ?_ | (refine d_o ?_; first | refine d_fl (hk := ?_) | refine d_ef rfl (by first | exact .callP (d := 19) 17 (Y.map RVi) (hfc := hS) | exact .callv (d := 17) (hfc := hC) | fail) (hk := ?_) | refine d_ef (hk := ?_)) | (refine w_o ?_; first | refine w_draw (id := 1) (roL []) (fun k => [9, 10].contains k) [[17],[]] 64 (by kernel_rfl) rfl (by kernel_rfl) (by simp [nm, nset, -List.map_take, -List.map_drop]) ?_)
  rw [hlen]
  refine en_end (hf := Tryz.results101) (hr := ?_); simp only [ne, nf, nl, nr, lget, reduceIte, Nat.reduceEqDiff]; first | rfl | refine congrArg RVb ?_ | refine congrArg RVi ?_ | skip
theorem vis_len {c : List Int} (hc : c.length ≤ 6) : ∀ (h : List Int) (i : Nat), (∀ x ∈ h, x ≤ 300) → i ≤ h.length → (visT c h i).length ≤ 912 * i
  | h, 0, _, _ => by simp [visT]
  | h, i + 1, hx, hi => by
    have h1 := vis_len hc h i hx (by omega)
    rw [visT_succ, List.length_append]
    have h2 : (visAt c h i).length ≤ 912 := by
      unfold visAt
      split
      · simp
      · rw [List.length_map]
        have e : h.getD i 0 = h[i] := by simp [List.getD_eq_getElem?_getD, show i < h.length by omega]
        rw [e]
        exact hms_len (hx _ (List.getElem_mem _)) hc
    omega
def rch (c h : List Int) : List (List Int) := ordH (vis c h)
theorem rch_iff {c h p : List Int} : p ∈ rch c h ↔ p ∈ vis c h := ordH_iff
theorem reached_ok (c h : List Int) (hc0 : gcode c = true) (hl : h.length ≤ 100) (hx : ∀ x ∈ h, x ≤ 300) : FCr Tryz.prog 81 [RIs c, RIs h] (.ow 1 ((rch c (fillH h)).map RIs)) := by
  have hF := filled_ok h (by omega)
  have hfl := fillH_len h
  have hHx : ∀ x ∈ fillH h, 0 < x ∧ x ≤ 300 := fun x hxx => ⟨fillH_pos x hxx, hx x (List.mem_filter.1 hxx).1⟩
  generalize fillH h = H at *
  have hcl := gcode_len hc0
  have hvl := vis_len hcl.2 H H.length (fun x hxx => (hHx x hxx).2) (Nat.le_refl _)
  have hS := sortedHeaps_ok (vis c H) (by unfold vis; omega)
  rw [show ordH (vis c H) = rch c H from rfl] at hS
  refine (fcr_in Tryz.func81 rfl (by simp only [Tryz.ntmps81, anys, List.length_cons, List.length_nil, Nat.reduceAdd, Nat.reduceSub, List.replicate_succ, List.replicate_zero, List.cons_append, List.nil_append] <;> rfl) ?_)
  repeat' first | apply w_seq | apply w_block | apply rb_n | apply rb_ret | apply rb_eq | refine rb_ne (by rfl) ?_ | apply w_exit | apply rt_exit | apply w_region | apply l_nil | apply rt_n | apply w_ret | apply rt_ret | apply w_skip | refine w_cond_t rfl ?_ | refine w_cond_f rfl ?_ | ((first | refine w_cnd rfl ?_ ?_ | refine w_cd rfl ?_ ?_ | refine w_cn rfl ?_ ?_ | refine w_cond rfl ?_ ?_) <;> intro hc) | (refine l_o ?_; first | refine l_eqnil rfl (by kernel_rfl) (by intro b; simp only [nz]; rfl) (fun b hb => ?_) | refine l_op rfl (by first | (apply k_callf; first | exact ops_callf (d := 12) (hfc := hF) | fail) | fail) (hk := ?_) | refine l_op (hk := ?_) | (refine l_g ?_; first | refine l_y rfl rfl rfl ?_ | refine l_n rfl rfl rfl rfl (hk := ?_) | refine l_n' rfl rfl rfl (hk := ?_) | refine l_spnd rfl rfl rfl (h1 := fun hc => ?_) (h2 := fun hc => ?_) | refine l_spd rfl rfl rfl (h1 := fun hc => ?_) (h2 := fun hc => ?_) | refine l_spn rfl rfl rfl (h1 := fun hc => ?_) (h2 := fun hc => ?_) | refine l_sp rfl rfl rfl (h1 := fun hc => ?_) (h2 := fun hc => ?_)))
  refine w_loopm (ι := Nat × List (List Int)) (fun q => [(15, RVn q.1), (5, .ref 10 0 q.2.length), (10, .any)]) (fun q => [(10, 1, q.2.map RIs)]) (fun q => q.1 ≤ H.length ∧ q.2 = visT c H q.1) (fun q => H.length - q.1) (0, []) (h0 := ?_) (hs := ?_) (round := ?_)
  · exact ⟨Nat.zero_le _, rfl⟩
  · refine le_eq (by (repeat' first | exact .nil | refine .keep ?_ | refine .any ?_); first | done | fail) rfl rfl
  · intro ⟨k, L⟩ ⟨hk, hL⟩
    dsimp only at hk hL ⊢
    have hLl := vis_len hcl.2 H k (fun x hxx => (hHx x hxx).2) hk
    rw [← hL] at hLl
    by_cases hk2 : k < H.length
    · have hsucc := visT_succ c H k
      have ek : H.getD k 0 = H[k] := by simp [List.getD_eq_getElem?_getD, hk2]
      have hHk := hHx _ (List.getElem_mem hk2)
      by_cases hsame : 0 < k ∧ H[k] = H[k - 1]'(by omega)
      · have ek1 : H.getD (k - 1) 0 = H[k - 1]'(by omega) := by simp [List.getD_eq_getElem?_getD, show k - 1 < H.length by omega]
        rw [visAt, ek, ek1, if_pos hsame, List.append_nil, ← hL] at hsucc
        obtain ⟨h0, heq⟩ := hsame
        repeat' first | apply w_seq | apply w_block | apply rb_n | apply rb_ret | apply rb_eq | refine rb_ne (by rfl) ?_ | apply w_exit | apply rt_exit | apply w_region | apply l_nil | apply rt_n | apply w_ret | apply rt_ret | apply w_skip | refine w_cond_t rfl ?_ | refine w_cond_f rfl ?_ | ((first | refine w_cnd rfl ?_ ?_ | refine w_cd rfl ?_ ?_ | refine w_cn rfl ?_ ?_ | refine w_cond rfl ?_ ?_) <;> intro hc) | (exfalso; omega) | (refine l_o ?_; first | refine l_eqnil rfl (by kernel_rfl) (by intro b; simp only [nz]; rfl) (fun b hb => ?_) | refine l_op rfl (by first | (apply k_sub; first | exact ops_subn (a := k) (b := 1) rfl rfl (by omega) (by omega) | fail) | fail) (hk := ?_) | refine l_op (hk := ?_) | (refine l_g ?_; first | refine l_y rfl rfl rfl ?_ | refine l_n rfl rfl rfl rfl (hk := ?_) | refine l_n' rfl rfl rfl (hk := ?_) | refine l_spnd rfl rfl rfl (h1 := fun hc => ?_) (h2 := fun hc => ?_) | refine l_spd rfl rfl rfl (h1 := fun hc => ?_) (h2 := fun hc => ?_) | refine l_spn rfl rfl rfl (h1 := fun hc => ?_) (h2 := fun hc => ?_) | refine l_sp rfl rfl rfl (h1 := fun hc => ?_) (h2 := fun hc => ?_)))
        refine rn_mk (k + 1, L) ?_ (by first | omega | (dsimp only; omega)) (le_eq (by (repeat' first | exact .nil | refine .keep ?_ | refine .any ?_); first | done | fail) rfl rfl)
        exact ⟨hk2, hsucc.symm⟩
      · have hM := heapMoves_ok c H[k] hc0 hHk.2 (by omega)
        have hMl := hms_len (c := c) hHk.2 hcl.2
        have hvis : visAt c H k = (hms c H[k]).map (aftH H k) := by
          rw [visAt, ek, if_neg]
          rintro ⟨h0, h1⟩
          have ek1 : H.getD (k - 1) 0 = H[k - 1]'(by omega) := by simp [List.getD_eq_getElem?_getD, show k - 1 < H.length by omega]
          rw [ek1] at h1
          exact hsame ⟨h0, h1⟩
        rw [hvis, ← hL] at hsucc
        have hml : ∀ m ∈ hms c H[k], m.length ≤ 2 := fun m hm => (hms_mem hm).2.2.2
        generalize hms c H[k] = M at *
        repeat' first | apply w_seq | apply w_block | apply rb_n | apply rb_ret | apply rb_eq | refine rb_ne (by rfl) ?_ | apply w_exit | apply rt_exit | apply w_region | apply l_nil | apply rt_n | apply w_ret | apply rt_ret | apply w_skip | refine w_cond_t rfl ?_ | refine w_cond_f rfl ?_ | ((first | refine w_cnd rfl ?_ ?_ | refine w_cd rfl ?_ ?_ | refine w_cn rfl ?_ ?_ | refine w_cond rfl ?_ ?_) <;> intro hc) | (exfalso; omega) | (refine l_o ?_; first | refine l_eqnil rfl (by kernel_rfl) (by intro b; simp only [nz]; rfl) (fun b hb => ?_) | refine l_op rfl (by first | (apply k_sub; first | exact ops_subn (a := k) (b := 1) rfl rfl (by omega) (by omega) | fail) | (apply k_callf; first | exact ops_callf (d := 33) (hfc := hM) | fail) | fail) (hk := ?_) | refine l_op (hk := ?_) | (refine l_g ?_; first | refine l_y rfl rfl rfl ?_ | refine l_n rfl rfl rfl rfl (hk := ?_) | refine l_n' rfl rfl rfl (hk := ?_) | refine l_spnd rfl rfl rfl (h1 := fun hc => ?_) (h2 := fun hc => ?_) | refine l_spd rfl rfl rfl (h1 := fun hc => ?_) (h2 := fun hc => ?_) | refine l_spn rfl rfl rfl (h1 := fun hc => ?_) (h2 := fun hc => ?_) | refine l_sp rfl rfl rfl (h1 := fun hc => ?_) (h2 := fun hc => ?_)))
        all_goals
          refine w_loopm (ι := Nat × List (List Int)) (fun q => [(35, RVn q.1), (5, .ref 10 0 q.2.length)]) (fun q => [(10, 1, q.2.map RIs)]) (fun q => q.1 ≤ M.length ∧ q.2.length = L.length + q.1 ∧ q.2 = L ++ (M.take q.1).map (aftH H k)) (fun q => M.length - q.1) (0, L) (h0 := ?_) (hs := ?_) (round := ?_)
          · exact ⟨Nat.zero_le _, rfl, by simp⟩
          · refine le_eq (by (repeat' first | exact .nil | refine .keep ?_ | refine .any ?_); first | done | fail) rfl rfl
          · intro ⟨j, L2⟩ ⟨hj, hl2, hL2⟩
            dsimp only at hj hl2 hL2 ⊢
            by_cases hj2 : j < M.length
            · have hR := replaced_ok H k M[j] hk2 (by omega) (by have := hml _ (List.getElem_mem hj2); omega)
              generalize haf : aftH H k M[j] = Y at *
              repeat' first | apply w_seq | apply w_block | apply rb_n | apply rb_ret | apply rb_eq | refine rb_ne (by rfl) ?_ | apply w_exit | apply rt_exit | apply w_region | apply l_nil | apply rt_n | apply w_ret | apply rt_ret | apply w_skip | refine w_cond_t rfl ?_ | refine w_cond_f rfl ?_ | ((first | refine w_cnd rfl ?_ ?_ | refine w_cd rfl ?_ ?_ | refine w_cn rfl ?_ ?_ | refine w_cond rfl ?_ ?_) <;> intro hc) | (exfalso; omega) | (refine l_o ?_; first | refine l_eqnil rfl (by kernel_rfl) (by intro b; simp only [nz]; rfl) (fun b hb => ?_) | refine l_op rfl (by first | (apply k_callf; first | exact ops_callf (d := 43) (hfc := hR) | fail) | fail) (hk := ?_) | refine l_op (hk := ?_) | (refine l_g ?_; first | refine l_y rfl rfl rfl ?_ | refine l_n rfl rfl rfl rfl (hk := ?_) | refine l_n' rfl rfl rfl (hk := ?_) | refine l_spnd rfl rfl rfl (h1 := fun hc => ?_) (h2 := fun hc => ?_) | refine l_spd rfl rfl rfl (h1 := fun hc => ?_) (h2 := fun hc => ?_) | refine l_spn rfl rfl rfl (h1 := fun hc => ?_) (h2 := fun hc => ?_) | refine l_sp rfl rfl rfl (h1 := fun hc => ?_) (h2 := fun hc => ?_)))
              refine rn_mk (j + 1, L2 ++ [Y]) ?_ (by first | omega | (dsimp only; omega)) (le_eq (by (repeat' first | exact .nil | refine .keep ?_ | refine .any ?_); first | done | fail) rfl rfl)
              refine ⟨hj2, by dsimp only; simp; omega, ?_⟩
              dsimp only
              rw [hL2, List.take_succ_eq_append_getElem hj2, List.map_append, ← haf, List.append_assoc]
              rfl
            · obtain rfl : j = M.length := by omega
              rw [List.take_length, ← hsucc] at hL2
              repeat' first | apply w_seq | apply w_block | apply rb_n | apply rb_ret | apply rb_eq | refine rb_ne (by rfl) ?_ | apply w_exit | apply rt_exit | apply w_region | apply l_nil | apply rt_n | apply w_ret | apply rt_ret | apply w_skip | refine w_cond_t rfl ?_ | refine w_cond_f rfl ?_ | ((first | refine w_cnd rfl ?_ ?_ | refine w_cd rfl ?_ ?_ | refine w_cn rfl ?_ ?_ | refine w_cond rfl ?_ ?_) <;> intro hc) | (exfalso; omega) | (refine l_o ?_; first | refine l_eqnil rfl (by kernel_rfl) (by intro b; simp only [nz]; rfl) (fun b hb => ?_) | refine l_op (hk := ?_) | (refine l_g ?_; first | refine l_y rfl rfl rfl ?_ | refine l_n rfl rfl rfl rfl (hk := ?_) | refine l_n' rfl rfl rfl (hk := ?_) | refine l_spnd rfl rfl rfl (h1 := fun hc => ?_) (h2 := fun hc => ?_) | refine l_spd rfl rfl rfl (h1 := fun hc => ?_) (h2 := fun hc => ?_) | refine l_spn rfl rfl rfl (h1 := fun hc => ?_) (h2 := fun hc => ?_) | refine l_sp rfl rfl rfl (h1 := fun hc => ?_) (h2 := fun hc => ?_)))
              refine rn_mk (k + 1, L2) ?_ (by first | omega | (dsimp only; omega)) (le_eq (by (repeat' first | exact .nil | refine .keep ?_ | refine .any ?_); first | done | fail) rfl rfl)
              exact ⟨hk2, hL2⟩
    · obtain rfl : k = H.length := by omega
      rw [show visT c H H.length = vis c H from rfl] at hL
      subst hL
      repeat' first | apply w_seq | apply w_block | apply rb_n | apply rb_ret | apply rb_eq | refine rb_ne (by rfl) ?_ | apply w_exit | apply rt_exit | apply w_region | apply l_nil | apply rt_n | apply w_ret | apply rt_ret | apply w_skip | refine w_cond_t rfl ?_ | refine w_cond_f rfl ?_ | ((first | refine w_cnd rfl ?_ ?_ | refine w_cd rfl ?_ ?_ | refine w_cn rfl ?_ ?_ | refine w_cond rfl ?_ ?_) <;> intro hc) | (exfalso; omega) | (refine l_o ?_; first | refine l_eqnil rfl (by kernel_rfl) (by intro b; simp only [nz]; rfl) (fun b hb => ?_) | refine l_op rfl (by first | (apply k_callf; first | exact ops_callG (d := 49) [10] [10] ([]) (hfc := hS) | fail) | fail) (hk := ?_) | refine l_op (hk := ?_) | (refine l_g ?_; first | refine l_y rfl rfl rfl ?_ | refine l_n rfl rfl rfl rfl (hk := ?_) | refine l_n' rfl rfl rfl (hk := ?_) | refine l_spnd rfl rfl rfl (h1 := fun hc => ?_) (h2 := fun hc => ?_) | refine l_spd rfl rfl rfl (h1 := fun hc => ?_) (h2 := fun hc => ?_) | refine l_spn rfl rfl rfl (h1 := fun hc => ?_) (h2 := fun hc => ?_) | refine l_sp rfl rfl rfl (h1 := fun hc => ?_) (h2 := fun hc => ?_)))
      refine en_end (hf := Tryz.results81) (hr := ?_); simp only [ne, nf, nl, nr, lget, reduceIte, Nat.reduceEqDiff]; first | rfl | refine congrArg RVb ?_ | refine congrArg RVi ?_ | skip
end Go.Proofs.YtmfbcipjknjicaaGreatDoor
