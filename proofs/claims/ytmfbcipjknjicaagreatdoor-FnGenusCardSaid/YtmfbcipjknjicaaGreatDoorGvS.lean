/- The reference's values of heaps. For all codes and heaps of the sizes that the theorems name. -/
import Derived.Test.YtmfbcipjknjicaaGreatDoorOctV
import Derived.Test.YtmfbcipjknjicaaGreatDoorSpM
namespace Go.Proofs.YtmfbcipjknjicaaGreatDoor
set_option linter.unusedSectionVars false
variable [One Bool]
open Eng
attribute [local irreducible] OpS OpG FC FCr Rel Fl Ef DR Fs
attribute [local simp] RV.fzR_names
set_option linter.unusedSimpArgs false
set_option linter.unusedVariables false
set_option maxHeartbeats 0
set_option maxRecDepth 100000

def SNL (L : Nat) (S : List Bool) (l : List (List Int)) (v : List Nat) : Prop := S.length = L ∧ ∀ x : Nat, S.getD x false = true ↔ ∃ m ∈ l, xorV v m = x
theorem getB_setL (S : List Bool) (i j : Nat) (hi : i < S.length) : (S.set i true).getD j false = if i = j then true else S.getD j false := by
  simp only [List.getD_eq_getElem?_getD, List.getElem?_set]
  split
  · rename_i e; subst e; simp [hi]
  · rfl
theorem SNL_new (L : Nat) (v : List Nat) : SNL L (List.replicate L false) [] v := by
  refine ⟨List.length_replicate, fun x => ?_⟩
  constructor
  · intro h
    rw [List.getD_eq_getElem?_getD] at h
    cases hx : (List.replicate L false)[x]? with
    | none => rw [hx] at h; cases h
    | some b => rw [hx] at h; have := List.eq_of_mem_replicate (List.mem_of_getElem? hx); rw [this] at h; cases h
  · rintro ⟨m, hm, _⟩
    cases hm
theorem SNL_snoc {L S l v m} (h : SNL L S l v) (hx : xorV v m < L) : SNL L (S.set (xorV v m) true) (l ++ [m]) v := by
  refine ⟨by rw [List.length_set]; exact h.1, fun x => ?_⟩
  rw [getB_setL _ _ _ (by rw [h.1]; exact hx)]
  constructor
  · intro h1
    by_cases e : xorV v m = x
    · exact ⟨m, by simp, e⟩
    · rw [if_neg e] at h1
      obtain ⟨m2, h2, h3⟩ := (h.2 x).1 h1
      exact ⟨m2, by simp [h2], h3⟩
  · rintro ⟨m2, h2, h3⟩
    rcases List.mem_append.1 h2 with h2 | h2
    · split
      · rfl
      · exact (h.2 x).2 ⟨m2, h2, h3⟩
    · rw [List.mem_singleton.1 h2] at h3
      rw [if_pos h3]
theorem SNL_mex {L S l v} (h : SNL L S l v) {n : Nat} (h1 : ∀ j, j < n → S.getD j false = true) (h2 : S.getD n false = false) : mexL (l.map fun m => ((xorV v m : Nat) : Int)) = n := by
  refine mexL_eq ?_ fun j hj => ?_
  · intro hm
    obtain ⟨m, hm, e⟩ := List.mem_map.1 hm
    have := (h.2 n).2 ⟨m, hm, by omega⟩
    rw [h2] at this; cases this
  · obtain ⟨m, hm, e⟩ := (h.2 j).1 (h1 j hj)
    exact List.mem_map.2 ⟨m, hm, by omega⟩
theorem xorV_oneS (v : List Nat) (x : Int) : xorV v [x] = v.getD x.toNat 0 := by simp [xorV]
theorem xorV_twoS (v : List Nat) (x y : Int) : xorV v [x, y] = v.getD x.toNat 0 ^^^ v.getD y.toNat 0 := by simp [xorV]
theorem gvL_le (c : List Int) {i j : Nat} (h : j < (gvL c i).length) : (gvL c i)[j] ≤ j := by
  have e := gvL_at c (i := j) (n := i) (by rw [gvL_len] at h; exact h)
  rw [List.getD_eq_getElem?_getD, List.getElem?_eq_getElem h, Option.getD_some] at e
  rw [e]; exact gv_le c j
theorem xorV_raw {c : List Int} {n k : Nat} {m : List Int} (h : m ∈ rawT c n k) : xorV (gvL c n) m < n := by
  have h1 := raw_lt h
  have h2 := rawT_mem h
  rw [xorV_G h1]
  rcases raw_cases h with rfl | ⟨r, rfl, hr⟩ | ⟨a, b, rfl, hab⟩
  · simp at h2; simp [xorG]; omega
  · rw [xorG_one]; have := gv_le c r; omega
  · rw [xorG_two]
    have := xor_le_add _ (gv c a) (gv c b) (Nat.le_refl _)
    have := gv_le c a
    have := gv_le c b
    omega
theorem l17Values_ok (c : List Int) (n : Nat) (hc0 : gcode c = true) (hn : n ≤ 300) : FCr Tryz.prog 84 [RIs c, RVn n] (.ow 1 ((gvL c (n + 1)).map RVn)) := by
  have hcl := gcode_len hc0
  refine (fcr_in Tryz.func84 rfl (by simp only [Tryz.ntmps84, anys, List.length_cons, List.length_nil, Nat.reduceAdd, Nat.reduceSub, List.replicate_succ, List.replicate_zero, List.cons_append, List.nil_append] <;> rfl) ?_)
  repeat' first | apply w_seq | apply w_block | apply rb_n | apply rb_ret | apply rb_eq | refine rb_ne (by rfl) ?_ | apply w_exit | apply rt_exit | apply w_region | apply l_nil | apply rt_n | apply w_ret | apply rt_ret | apply w_skip | refine w_cond_t rfl ?_ | refine w_cond_f rfl ?_ | ((first | refine w_cnd rfl ?_ ?_ | refine w_cd rfl ?_ ?_ | refine w_cn rfl ?_ ?_ | refine w_cond rfl ?_ ?_) <;> intro hc) | (refine l_o ?_; first | refine l_eqnil rfl (by kernel_rfl) (by intro b; simp only [nz]; rfl) (fun b hb => ?_) | refine l_op (hk := ?_) | (refine l_g ?_; first | refine l_y rfl rfl rfl ?_ | refine l_n rfl rfl rfl rfl (hk := ?_) | refine l_n' rfl rfl rfl (hk := ?_) | refine l_spnd rfl rfl rfl (h1 := fun hc => ?_) (h2 := fun hc => ?_) | refine l_spd rfl rfl rfl (h1 := fun hc => ?_) (h2 := fun hc => ?_) | refine l_spn rfl rfl rfl (h1 := fun hc => ?_) (h2 := fun hc => ?_) | refine l_sp rfl rfl rfl (h1 := fun hc => ?_) (h2 := fun hc => ?_))) | refine d_nil ?_ | (refine d_o ?_; first | refine d_fl (hk := ?_) | refine d_ef (hk := ?_) | (refine d_g ?_; first | refine d_spnd rfl rfl rfl (h1 := fun hc => ?_) (h2 := fun hc => ?_) | refine d_spd rfl rfl rfl (h1 := fun hc => ?_) (h2 := fun hc => ?_) | refine d_spn rfl rfl rfl (h1 := fun hc => ?_) (h2 := fun hc => ?_) | refine d_sp rfl rfl rfl (h1 := fun hc => ?_) (h2 := fun hc => ?_))) | (refine w_o ?_; first | refine w_draw (id := 18) (fun _ => true) (fun k => [].contains k) [] 64 (by kernel_rfl) rfl (by kernel_rfl) (by simp [nm, nset, -List.map_take, -List.map_drop]) ?_)
  refine w_loopm (ι := Nat) (fun i => [(6, RVn i), (5, .ref 14 0 (gvL c i).length), (14, .any), (7, .any), (8, .any), (9, .any), (10, .any), (11, .any), (12, .any), (13, .any)]) (fun i => [(14, 1, (gvL c i).map RVn)]) (fun i => i ≤ n + 1) (fun i => n + 1 - i) 0 (h0 := ?_) (hs := ?_) (round := ?_)
  · exact Nat.zero_le _
  · refine le_eq (by (repeat' first | exact .nil | refine .keep ?_ | refine .any ?_); first | done | fail) rfl rfl
  · intro i hi
    have hVl := gvL_len c i
    by_cases hi2 : i < n + 1
    · have hle : ∀ j, (h : j < (gvL c i).length) → (gvL c i)[j] ≤ j := fun j h => gvL_le c h
      have hsuc : gvL c (i + 1) = gvL c i ++ [mexL ((rawT c i c.length).map fun m => ((xorV (gvL c i) m : Nat) : Int))] := rfl
      have hraw : ∀ k m, m ∈ rawT c i k → xorV (gvL c i) m < i := fun k m h => xorV_raw h
      generalize gvL c i = V at *
      have hL0 : (2 * i + 3 : Nat) ≤ 1000 := by omega
      repeat' first | apply w_seq | apply w_block | apply rb_n | apply rb_ret | apply rb_eq | refine rb_ne (by rfl) ?_ | apply w_exit | apply rt_exit | apply w_region | apply l_nil | apply rt_n | apply w_ret | apply rt_ret | apply w_skip | refine w_cond_t rfl ?_ | refine w_cond_f rfl ?_ | ((first | refine w_cnd rfl ?_ ?_ | refine w_cd rfl ?_ ?_ | refine w_cn rfl ?_ ?_ | refine w_cond rfl ?_ ?_) <;> intro hc) | (exfalso; omega) | (refine l_o ?_; first | refine l_eqnil rfl (by kernel_rfl) (by intro b; simp only [nz]; rfl) (fun b hb => ?_) | refine l_op rfl (by first | (apply k_mul; first | exact ops_muln (m := 2) (n := i) rfl rfl (by omega) | fail) | (apply k_add; first | exact ops_addn (a := 2 * i) (b := 3) rfl rfl (by omega) | fail) | fail) (hk := ?_) | refine l_op (hk := ?_) | (refine l_g ?_; first | refine l_y rfl rfl rfl ?_ | refine l_n rfl rfl rfl rfl (hk := ?_) | refine l_n' rfl rfl rfl (hk := ?_) | refine l_spnd rfl rfl rfl (h1 := fun hc => ?_) (h2 := fun hc => ?_) | refine l_spd rfl rfl rfl (h1 := fun hc => ?_) (h2 := fun hc => ?_) | refine l_spn rfl rfl rfl (h1 := fun hc => ?_) (h2 := fun hc => ?_) | refine l_sp rfl rfl rfl (h1 := fun hc => ?_) (h2 := fun hc => ?_))) | refine d_nil ?_ | (refine d_o ?_; first | refine d_fl rfl (by first | exact .pl (by first | (apply q_mul; first | exact fs_muln (m := 2) (n := i) rfl rfl (by omega) | fail) | (apply q_add; first | exact fs_addn (a := 2 * i) (b := 3) rfl rfl (by omega) | fail) | fail) | exact .ye rfl rfl rfl (by first | (apply q_mul; first | exact fs_muln (m := 2) (n := i) rfl rfl (by omega) | fail) | (apply q_add; first | exact fs_addn (a := 2 * i) (b := 3) rfl rfl (by omega) | fail) | fail) | fail) (hk := ?_) | refine d_fl (hk := ?_) | refine d_ef (hk := ?_) | (refine d_g ?_; first | refine d_spnd rfl rfl rfl (h1 := fun hc => ?_) (h2 := fun hc => ?_) | refine d_spd rfl rfl rfl (h1 := fun hc => ?_) (h2 := fun hc => ?_) | refine d_spn rfl rfl rfl (h1 := fun hc => ?_) (h2 := fun hc => ?_) | refine d_sp rfl rfl rfl (h1 := fun hc => ?_) (h2 := fun hc => ?_))) | (refine w_o ?_; first | refine w_draw (id := 18) (fun _ => true) (fun k => [].contains k) [] 64 (by kernel_rfl) rfl (by kernel_rfl) (by simp [nm, nset, -List.map_take, -List.map_drop]) ?_)
      refine w_loopm (ι := Nat × List Bool) (fun q => [(8, RVn (q.1 + 1)), (9, .any), (10, .any), (11, .any), (12, .any)]) (fun q => [(23, 1, q.2.map RVb), (14, 1, V.map RVn)]) (fun q => q.1 ≤ c.length ∧ SNL (2 * i + 3) q.2 (rawT c i q.1) V) (fun q => c.length - q.1) (0, List.replicate (2 * i + 3) false) (h0 := ?_) (hs := ?_) (round := ?_)
      · exact ⟨Nat.zero_le _, SNL_new _ _⟩
      · refine le_eq (by (repeat' first | exact .nil | refine .keep ?_ | refine .any ?_); first | done | fail) rfl rfl
      · intro ⟨k, S⟩ ⟨hk, hS⟩
        dsimp only at hk hS ⊢
        have hSl := hS.1
        by_cases hk2 : k < c.length ∧ ¬ (i : Int) - k - 1 < 0
        · obtain ⟨hk2, hr⟩ := hk2
          have hd := gcode_at hc0 (List.getElem_mem hk2)
          have b1 := bit1_ok hd
          have b2 := bit2_ok hd
          have b4 := bit4_ok hd
          have hms := mvAt_split (c := c) hr
          have hre : (i : Int) - k - 1 = ((i : Int) - ((k + 1 : Nat) : Int)) := by omega
          have hcd : c.getD k 0 = c[k] := by simp [List.getD_eq_getElem?_getD, hk2]
          rw [hcd] at hms
          have hrw := rawT_succ c i k
          rw [hms] at hrw
          rw [hre] at hrw hr
          clear hms
          have hA : ∀ a : Nat, (c[k] / 4 % 2 = 1 ∧ 2 * ((a : Int) + 1) ≤ ((i : Int) - ((k + 1 : Nat) : Int))) ↔ a < (if c[k] / 4 % 2 = 1 then (((i : Int) - ((k + 1 : Nat) : Int)) / 2).toNat else 0) := by
            intro a
            split
            · rename_i h; simp only [h, true_and]; omega
            · rename_i h; simp [h]
          have hTl : (if c[k] / 4 % 2 = 1 then (((i : Int) - ((k + 1 : Nat) : Int)) / 2).toNat else 0) ≤ 150 := by split <;> omega
          generalize (if c[k] / 4 % 2 = 1 then (((i : Int) - ((k + 1 : Nat) : Int)) / 2).toNat else 0) = T at *
          by_cases h0 : ((i : Int) - ((k + 1 : Nat) : Int)) = 0
          · repeat' first | apply w_seq | apply w_block | apply rb_n | apply rb_ret | apply rb_eq | refine rb_ne (by rfl) ?_ | apply w_exit | apply rt_exit | apply w_region | apply l_nil | apply rt_n | apply w_ret | apply rt_ret | apply w_skip | refine w_cond_t rfl ?_ | refine w_cond_f rfl ?_ | ((first | refine w_cnd rfl ?_ ?_ | refine w_cd rfl ?_ ?_ | refine w_cn rfl ?_ ?_ | refine w_cond rfl ?_ ?_) <;> intro hc) | (exfalso; omega) | (refine l_o ?_; first | refine l_eqnil rfl (by kernel_rfl) (by intro b; simp only [nz]; rfl) (fun b hb => ?_) | refine l_op rfl (by first | (apply k_sub; first | exact ops_pred (a := k) rfl (by omega) | fail) | (apply k_indexAddr; first | exact ops_idx_refm (i := 0) rfl rfl (by omega) rfl (by omega) (by kernel_rfl) (by kernel_rfl) | fail) | (apply k_callf; first | exact ops_callf (d := 44) (hfc := b1) | exact ops_callf (d := 52) (hfc := b2) | fail) | fail) (hk := ?_) | refine l_op (hk := ?_) | (refine l_g ?_; first | refine l_y rfl rfl rfl ?_ | refine l_n rfl rfl rfl rfl (hk := ?_) | refine l_n' rfl rfl rfl (hk := ?_) | refine l_spnd rfl rfl rfl (h1 := fun hc => ?_) (h2 := fun hc => ?_) | refine l_spd rfl rfl rfl (h1 := fun hc => ?_) (h2 := fun hc => ?_) | refine l_spn rfl rfl rfl (h1 := fun hc => ?_) (h2 := fun hc => ?_) | refine l_sp rfl rfl rfl (h1 := fun hc => ?_) (h2 := fun hc => ?_))) | refine d_nil ?_ | (refine d_o ?_; first | refine d_fl rfl (by first | exact .pl (by first | (apply q_sub; first | exact fs_pred (a := k) rfl (by omega) | fail) | (apply q_indexAddr; first | exact fs_idx_refm (i := 0) rfl rfl (by omega) rfl rfl (by omega) (by kernel_rfl) (by kernel_rfl) | fail) | fail) | exact .ye rfl rfl rfl (by first | (apply q_sub; first | exact fs_pred (a := k) rfl (by omega) | fail) | (apply q_indexAddr; first | exact fs_idx_refm (i := 0) rfl rfl (by omega) rfl rfl (by omega) (by kernel_rfl) (by kernel_rfl) | fail) | fail) | fail) (hk := ?_) | refine d_fl (hk := ?_) | refine d_ef rfl (by first | exact .callf (d := 44) (hfc := b1) | exact .callf (d := 52) (hfc := b2) | exact .callfY (d := 44) (hfc := b1) | exact .callfY (d := 52) (hfc := b2) | fail) (hk := ?_) | refine d_ef (hk := ?_) | (refine d_g ?_; first | refine d_spnd rfl rfl rfl (h1 := fun hc => ?_) (h2 := fun hc => ?_) | refine d_spd rfl rfl rfl (h1 := fun hc => ?_) (h2 := fun hc => ?_) | refine d_spn rfl rfl rfl (h1 := fun hc => ?_) (h2 := fun hc => ?_) | refine d_sp rfl rfl rfl (h1 := fun hc => ?_) (h2 := fun hc => ?_))) | (refine w_o ?_; first | refine w_draw (id := 18) (fun _ => true) (fun k => [].contains k) [] 64 (by kernel_rfl) rfl (by kernel_rfl) (by simp [nm, nset, -List.map_take, -List.map_drop]) ?_)
            all_goals first
              | (have hS1 : SNL (2 * i + 3) (S.set 0 true) (rawT c i k ++ mvB c[k] ((i : Int) - ((k + 1 : Nat) : Int))) V := by
                   have e : mvB c[k] ((i : Int) - ((k + 1 : Nat) : Int)) = [[]] := by unfold mvB; rw [if_pos (by omega), if_neg (by omega)]; rfl
                   rw [e]
                   exact SNL_snoc (m := []) hS (by show (0 : Nat) < _; omega)
                 generalize S.set 0 true = S1 at *)
              | (have hS1 : SNL (2 * i + 3) S (rawT c i k ++ mvB c[k] ((i : Int) - ((k + 1 : Nat) : Int))) V := by
                   have e : mvB c[k] ((i : Int) - ((k + 1 : Nat) : Int)) = [] := by first | (unfold mvB; rw [if_neg (by omega), if_neg (by omega)]; rfl) | fail
                   rw [e, List.append_nil]
                   exact hS
                 clear hS
                 generalize S = S1 at *)
            all_goals
              refine w_loopm (ι := Nat × List Bool) (fun q => [(11, RVn (q.1 + 1)), (12, .any)]) (fun q => [(23, 1, q.2.map RVb), (14, 1, V.map RVn)]) (fun q => q.1 ≤ T ∧ SNL (2 * i + 3) q.2 ((rawT c i k ++ mvB c[k] ((i : Int) - ((k + 1 : Nat) : Int))) ++ splT ((i : Int) - ((k + 1 : Nat) : Int)) q.1) V) (fun q => T - q.1) (0, S1) (h0 := ?_) (hs := ?_) (round := ?_)
              · exact ⟨Nat.zero_le _, by simpa [splT] using hS1⟩
              · refine le_eq (by (repeat' first | exact .nil | refine .keep ?_ | refine .any ?_); first | done | fail) rfl rfl
              · intro ⟨a, S2⟩ ⟨ha, hS2⟩
                dsimp only at ha hS2 ⊢
                have hAa := hA a
                have hSl2 := hS2.1
                by_cases ha2 : a < T
                · have hb := hAa.2 ha2
                  have hi1 : a + 1 < V.length := by omega
                  have hi3 : (((i : Int) - ((k + 1 : Nat) : Int)) - ((a + 1 : Nat) : Int)).toNat < V.length := by omega
                  have hx1 := hle _ hi1
                  have hx2 := hle _ hi3
                  have e2 : xorV V [(a : Int) + 1, ((i : Int) - ((k + 1 : Nat) : Int)) - ((a : Int) + 1)] = V[a + 1] ^^^ V[(((i : Int) - ((k + 1 : Nat) : Int)) - ((a + 1 : Nat) : Int)).toNat] := by
                    rw [xorV_twoS]
                    have q1 : ((a : Int) + 1).toNat = a + 1 := by omega
                    have q2 : ((i : Int) - ((k + 1 : Nat) : Int)) - ((a : Int) + 1) = ((i : Int) - ((k + 1 : Nat) : Int)) - ((a + 1 : Nat) : Int) := by omega
                    have q3 : V.getD (a + 1) 0 = V[a + 1] := by rw [List.getD_eq_getElem?_getD, List.getElem?_eq_getElem hi1]; rfl
                    have q4 : V.getD (((i : Int) - ((k + 1 : Nat) : Int)) - ((a + 1 : Nat) : Int)).toNat 0 = V[(((i : Int) - ((k + 1 : Nat) : Int)) - ((a + 1 : Nat) : Int)).toNat] := by rw [List.getD_eq_getElem?_getD, List.getElem?_eq_getElem hi3]; rfl
                    rw [q1, q2, q3, q4]
                  have hx3 : V[a + 1] ^^^ V[(((i : Int) - ((k + 1 : Nat) : Int)) - ((a + 1 : Nat) : Int)).toNat] < 2 * i + 3 := by
                    have := xor_le_add _ V[a + 1] V[(((i : Int) - ((k + 1 : Nat) : Int)) - ((a + 1 : Nat) : Int)).toNat] (Nat.le_refl _)
                    omega
                  have hS3 : SNL (2 * i + 3) (S2.set (V[a + 1] ^^^ V[(((i : Int) - ((k + 1 : Nat) : Int)) - ((a + 1 : Nat) : Int)).toNat]) true) ((rawT c i k ++ mvB c[k] ((i : Int) - ((k + 1 : Nat) : Int))) ++ splT ((i : Int) - ((k + 1 : Nat) : Int)) (a + 1)) V := by
                    rw [splT_succ, ← List.append_assoc, ← e2]
                    exact SNL_snoc hS2 (by rw [e2]; exact hx3)
                  have hxx : V[a + 1] ^^^ V[(((i : Int) - ((k + 1 : Nat) : Int)) - ((a + 1 : Nat) : Int)).toNat] < S2.length := by rw [hSl2]; exact hx3
                  repeat' first | apply w_seq | apply w_block | apply rb_n | apply rb_ret | apply rb_eq | refine rb_ne (by rfl) ?_ | apply w_exit | apply rt_exit | apply w_region | apply l_nil | apply rt_n | apply w_ret | apply rt_ret | apply w_skip | refine w_cond_t rfl ?_ | refine w_cond_f rfl ?_ | ((first | refine w_cnd rfl ?_ ?_ | refine w_cd rfl ?_ ?_ | refine w_cn rfl ?_ ?_ | refine w_cond rfl ?_ ?_) <;> intro hc) | (exfalso; omega) | (refine l_o ?_; first | refine l_eqnil rfl (by kernel_rfl) (by intro b; simp only [nz]; rfl) (fun b hb => ?_) | refine l_op rfl (by first | (apply k_mul; first | exact ops_muln (m := 2) (n := a + 1) rfl rfl (by omega) | fail) | (apply k_callf; first | exact ops_callf (d := 73) (hfc := b4) | fail) | fail) (hk := ?_) | refine l_op (hk := ?_) | (refine l_g ?_; first | refine l_y rfl rfl rfl ?_ | refine l_n rfl rfl rfl rfl (hk := ?_) | refine l_n' rfl rfl rfl (hk := ?_) | refine l_spnd rfl rfl rfl (h1 := fun hc => ?_) (h2 := fun hc => ?_) | refine l_spd rfl rfl rfl (h1 := fun hc => ?_) (h2 := fun hc => ?_) | refine l_spn rfl rfl rfl (h1 := fun hc => ?_) (h2 := fun hc => ?_) | refine l_sp rfl rfl rfl (h1 := fun hc => ?_) (h2 := fun hc => ?_))) | refine d_nil ?_ | (refine d_o ?_; first | refine d_fl rfl (by first | exact .pl (by first | (apply q_mul; first | exact fs_muln (m := 2) (n := a + 1) rfl rfl (by omega) | fail) | fail) | exact .ye rfl rfl rfl (by first | (apply q_mul; first | exact fs_muln (m := 2) (n := a + 1) rfl rfl (by omega) | fail) | fail) | fail) (hk := ?_) | refine d_fl (hk := ?_) | refine d_ef rfl (by first | exact .callf (d := 73) (hfc := b4) | exact .callfY (d := 73) (hfc := b4) | fail) (hk := ?_) | refine d_ef (hk := ?_) | (refine d_g ?_; first | refine d_spnd rfl rfl rfl (h1 := fun hc => ?_) (h2 := fun hc => ?_) | refine d_spd rfl rfl rfl (h1 := fun hc => ?_) (h2 := fun hc => ?_) | refine d_spn rfl rfl rfl (h1 := fun hc => ?_) (h2 := fun hc => ?_) | refine d_sp rfl rfl rfl (h1 := fun hc => ?_) (h2 := fun hc => ?_))) | (refine w_o ?_; first | refine w_draw (id := 18) (fun _ => true) (fun k => [].contains k) [] 64 (by kernel_rfl) rfl (by kernel_rfl) (by simp [nm, nset, -List.map_take, -List.map_drop]) ?_)
                  all_goals
                    refine rn_mk (a + 1, S2.set (V[a + 1] ^^^ V[(((i : Int) - ((k + 1 : Nat) : Int)) - ((a + 1 : Nat) : Int)).toNat]) true) ?_ (by first | omega | (dsimp only; omega)) (le_eq (by (repeat' first | exact .nil | refine .keep ?_ | refine .any ?_); first | done | fail) rfl rfl)
                    exact ⟨ha2, hS3⟩
                · have hb : ¬ (c[k] / 4 % 2 = 1 ∧ 2 * ((a : Int) + 1) ≤ ((i : Int) - ((k + 1 : Nat) : Int))) := fun h => ha2 (hAa.1 h)
                  obtain rfl : a = T := by omega
                  repeat' first | apply w_seq | apply w_block | apply rb_n | apply rb_ret | apply rb_eq | refine rb_ne (by rfl) ?_ | apply w_exit | apply rt_exit | apply w_region | apply l_nil | apply rt_n | apply w_ret | apply rt_ret | apply w_skip | refine w_cond_t rfl ?_ | refine w_cond_f rfl ?_ | ((first | refine w_cnd rfl ?_ ?_ | refine w_cd rfl ?_ ?_ | refine w_cn rfl ?_ ?_ | refine w_cond rfl ?_ ?_) <;> intro hc) | (exfalso; omega) | (refine l_o ?_; first | refine l_eqnil rfl (by kernel_rfl) (by intro b; simp only [nz]; rfl) (fun b hb => ?_) | refine l_op rfl (by first | (apply k_mul; first | exact ops_muln (m := 2) (n := a + 1) rfl rfl (by omega) | fail) | (apply k_callf; first | exact ops_callf (d := 73) (hfc := b4) | fail) | fail) (hk := ?_) | refine l_op (hk := ?_) | (refine l_g ?_; first | refine l_y rfl rfl rfl ?_ | refine l_n rfl rfl rfl rfl (hk := ?_) | refine l_n' rfl rfl rfl (hk := ?_) | refine l_spnd rfl rfl rfl (h1 := fun hc => ?_) (h2 := fun hc => ?_) | refine l_spd rfl rfl rfl (h1 := fun hc => ?_) (h2 := fun hc => ?_) | refine l_spn rfl rfl rfl (h1 := fun hc => ?_) (h2 := fun hc => ?_) | refine l_sp rfl rfl rfl (h1 := fun hc => ?_) (h2 := fun hc => ?_))) | refine d_nil ?_ | (refine d_o ?_; first | refine d_fl rfl (by first | exact .pl (by first | (apply q_mul; first | exact fs_muln (m := 2) (n := a + 1) rfl rfl (by omega) | fail) | fail) | exact .ye rfl rfl rfl (by first | (apply q_mul; first | exact fs_muln (m := 2) (n := a + 1) rfl rfl (by omega) | fail) | fail) | fail) (hk := ?_) | refine d_fl (hk := ?_) | refine d_ef rfl (by first | exact .callf (d := 73) (hfc := b4) | exact .callfY (d := 73) (hfc := b4) | fail) (hk := ?_) | refine d_ef (hk := ?_) | (refine d_g ?_; first | refine d_spnd rfl rfl rfl (h1 := fun hc => ?_) (h2 := fun hc => ?_) | refine d_spd rfl rfl rfl (h1 := fun hc => ?_) (h2 := fun hc => ?_) | refine d_spn rfl rfl rfl (h1 := fun hc => ?_) (h2 := fun hc => ?_) | refine d_sp rfl rfl rfl (h1 := fun hc => ?_) (h2 := fun hc => ?_))) | (refine w_o ?_; first | refine w_draw (id := 18) (fun _ => true) (fun k => [].contains k) [] 64 (by kernel_rfl) rfl (by kernel_rfl) (by simp [nm, nset, -List.map_take, -List.map_drop]) ?_)
                  all_goals
                    refine rn_mk (k + 1, S2) ?_ (by first | omega | (dsimp only; omega)) (le_eq (by (repeat' first | exact .nil | refine .keep ?_ | refine .any ?_); first | done | fail) rfl rfl)
                    exact ⟨hk2, by rw [hrw, ← List.append_assoc]; exact hS2⟩

          · have hi3 : ((i : Int) - ((k + 1 : Nat) : Int)).toNat < V.length := by omega
            have hx2 := hle _ hi3
            have hxs : V[((i : Int) - ((k + 1 : Nat) : Int)).toNat] < S.length := by omega
            repeat' first | apply w_seq | apply w_block | apply rb_n | apply rb_ret | apply rb_eq | refine rb_ne (by rfl) ?_ | apply w_exit | apply rt_exit | apply w_region | apply l_nil | apply rt_n | apply w_ret | apply rt_ret | apply w_skip | refine w_cond_t rfl ?_ | refine w_cond_f rfl ?_ | ((first | refine w_cnd rfl ?_ ?_ | refine w_cd rfl ?_ ?_ | refine w_cn rfl ?_ ?_ | refine w_cond rfl ?_ ?_) <;> intro hc) | (exfalso; omega) | (refine l_o ?_; first | refine l_eqnil rfl (by kernel_rfl) (by intro b; simp only [nz]; rfl) (fun b hb => ?_) | refine l_op rfl (by first | (apply k_sub; first | exact ops_pred (a := k) rfl (by omega) | fail) | (apply k_callf; first | exact ops_callf (d := 44) (hfc := b1) | exact ops_callf (d := 52) (hfc := b2) | fail) | fail) (hk := ?_) | refine l_op (hk := ?_) | (refine l_g ?_; first | refine l_y rfl rfl rfl ?_ | refine l_n rfl rfl rfl rfl (hk := ?_) | refine l_n' rfl rfl rfl (hk := ?_) | refine l_spnd rfl rfl rfl (h1 := fun hc => ?_) (h2 := fun hc => ?_) | refine l_spd rfl rfl rfl (h1 := fun hc => ?_) (h2 := fun hc => ?_) | refine l_spn rfl rfl rfl (h1 := fun hc => ?_) (h2 := fun hc => ?_) | refine l_sp rfl rfl rfl (h1 := fun hc => ?_) (h2 := fun hc => ?_))) | refine d_nil ?_ | (refine d_o ?_; first | refine d_fl rfl (by first | exact .pl (by first | (apply q_sub; first | exact fs_pred (a := k) rfl (by omega) | fail) | fail) | exact .ye rfl rfl rfl (by first | (apply q_sub; first | exact fs_pred (a := k) rfl (by omega) | fail) | fail) | fail) (hk := ?_) | refine d_fl (hk := ?_) | refine d_ef rfl (by first | exact .callf (d := 44) (hfc := b1) | exact .callf (d := 52) (hfc := b2) | exact .callfY (d := 44) (hfc := b1) | exact .callfY (d := 52) (hfc := b2) | fail) (hk := ?_) | refine d_ef (hk := ?_) | (refine d_g ?_; first | refine d_spnd rfl rfl rfl (h1 := fun hc => ?_) (h2 := fun hc => ?_) | refine d_spd rfl rfl rfl (h1 := fun hc => ?_) (h2 := fun hc => ?_) | refine d_spn rfl rfl rfl (h1 := fun hc => ?_) (h2 := fun hc => ?_) | refine d_sp rfl rfl rfl (h1 := fun hc => ?_) (h2 := fun hc => ?_))) | (refine w_o ?_; first | refine w_draw (id := 18) (fun _ => true) (fun k => [].contains k) [] 64 (by kernel_rfl) rfl (by kernel_rfl) (by simp [nm, nset, -List.map_take, -List.map_drop]) ?_)
            all_goals first
              | (have hS1 : SNL (2 * i + 3) (S.set V[((i : Int) - ((k + 1 : Nat) : Int)).toNat] true) (rawT c i k ++ mvB c[k] ((i : Int) - ((k + 1 : Nat) : Int))) V := by
                   have e : mvB c[k] ((i : Int) - ((k + 1 : Nat) : Int)) = [[((i : Int) - ((k + 1 : Nat) : Int))]] := by unfold mvB; rw [if_neg (by omega), if_pos (by omega)]; rfl
                   have e2 : xorV V [((i : Int) - ((k + 1 : Nat) : Int))] = V[((i : Int) - ((k + 1 : Nat) : Int)).toNat] := by rw [xorV_oneS, List.getD_eq_getElem?_getD, List.getElem?_eq_getElem hi3]; rfl
                   rw [e, ← e2]
                   exact SNL_snoc hS (by omega)
                 generalize S.set V[((i : Int) - ((k + 1 : Nat) : Int)).toNat] true = S1 at *)
              | (have hS1 : SNL (2 * i + 3) S (rawT c i k ++ mvB c[k] ((i : Int) - ((k + 1 : Nat) : Int))) V := by
                   have e : mvB c[k] ((i : Int) - ((k + 1 : Nat) : Int)) = [] := by first | (unfold mvB; rw [if_neg (by omega), if_neg (by omega)]; rfl) | fail
                   rw [e, List.append_nil]
                   exact hS
                 clear hS
                 generalize S = S1 at *)
            all_goals
              refine w_loopm (ι := Nat × List Bool) (fun q => [(11, RVn (q.1 + 1)), (12, .any)]) (fun q => [(23, 1, q.2.map RVb), (14, 1, V.map RVn)]) (fun q => q.1 ≤ T ∧ SNL (2 * i + 3) q.2 ((rawT c i k ++ mvB c[k] ((i : Int) - ((k + 1 : Nat) : Int))) ++ splT ((i : Int) - ((k + 1 : Nat) : Int)) q.1) V) (fun q => T - q.1) (0, S1) (h0 := ?_) (hs := ?_) (round := ?_)
              · exact ⟨Nat.zero_le _, by simpa [splT] using hS1⟩
              · refine le_eq (by (repeat' first | exact .nil | refine .keep ?_ | refine .any ?_); first | done | fail) rfl rfl
              · intro ⟨a, S2⟩ ⟨ha, hS2⟩
                dsimp only at ha hS2 ⊢
                have hAa := hA a
                have hSl2 := hS2.1
                by_cases ha2 : a < T
                · have hb := hAa.2 ha2
                  have hi1 : a + 1 < V.length := by omega
                  have hi3 : (((i : Int) - ((k + 1 : Nat) : Int)) - ((a + 1 : Nat) : Int)).toNat < V.length := by omega
                  have hx1 := hle _ hi1
                  have hx2 := hle _ hi3
                  have e2 : xorV V [(a : Int) + 1, ((i : Int) - ((k + 1 : Nat) : Int)) - ((a : Int) + 1)] = V[a + 1] ^^^ V[(((i : Int) - ((k + 1 : Nat) : Int)) - ((a + 1 : Nat) : Int)).toNat] := by
                    rw [xorV_twoS]
                    have q1 : ((a : Int) + 1).toNat = a + 1 := by omega
                    have q2 : ((i : Int) - ((k + 1 : Nat) : Int)) - ((a : Int) + 1) = ((i : Int) - ((k + 1 : Nat) : Int)) - ((a + 1 : Nat) : Int) := by omega
                    have q3 : V.getD (a + 1) 0 = V[a + 1] := by rw [List.getD_eq_getElem?_getD, List.getElem?_eq_getElem hi1]; rfl
                    have q4 : V.getD (((i : Int) - ((k + 1 : Nat) : Int)) - ((a + 1 : Nat) : Int)).toNat 0 = V[(((i : Int) - ((k + 1 : Nat) : Int)) - ((a + 1 : Nat) : Int)).toNat] := by rw [List.getD_eq_getElem?_getD, List.getElem?_eq_getElem hi3]; rfl
                    rw [q1, q2, q3, q4]
                  have hx3 : V[a + 1] ^^^ V[(((i : Int) - ((k + 1 : Nat) : Int)) - ((a + 1 : Nat) : Int)).toNat] < 2 * i + 3 := by
                    have := xor_le_add _ V[a + 1] V[(((i : Int) - ((k + 1 : Nat) : Int)) - ((a + 1 : Nat) : Int)).toNat] (Nat.le_refl _)
                    omega
                  have hS3 : SNL (2 * i + 3) (S2.set (V[a + 1] ^^^ V[(((i : Int) - ((k + 1 : Nat) : Int)) - ((a + 1 : Nat) : Int)).toNat]) true) ((rawT c i k ++ mvB c[k] ((i : Int) - ((k + 1 : Nat) : Int))) ++ splT ((i : Int) - ((k + 1 : Nat) : Int)) (a + 1)) V := by
                    rw [splT_succ, ← List.append_assoc, ← e2]
                    exact SNL_snoc hS2 (by rw [e2]; exact hx3)
                  have hxx : V[a + 1] ^^^ V[(((i : Int) - ((k + 1 : Nat) : Int)) - ((a + 1 : Nat) : Int)).toNat] < S2.length := by rw [hSl2]; exact hx3
                  repeat' first | apply w_seq | apply w_block | apply rb_n | apply rb_ret | apply rb_eq | refine rb_ne (by rfl) ?_ | apply w_exit | apply rt_exit | apply w_region | apply l_nil | apply rt_n | apply w_ret | apply rt_ret | apply w_skip | refine w_cond_t rfl ?_ | refine w_cond_f rfl ?_ | ((first | refine w_cnd rfl ?_ ?_ | refine w_cd rfl ?_ ?_ | refine w_cn rfl ?_ ?_ | refine w_cond rfl ?_ ?_) <;> intro hc) | (exfalso; omega) | (refine l_o ?_; first | refine l_eqnil rfl (by kernel_rfl) (by intro b; simp only [nz]; rfl) (fun b hb => ?_) | refine l_op rfl (by first | (apply k_mul; first | exact ops_muln (m := 2) (n := a + 1) rfl rfl (by omega) | fail) | (apply k_callf; first | exact ops_callf (d := 73) (hfc := b4) | fail) | fail) (hk := ?_) | refine l_op (hk := ?_) | (refine l_g ?_; first | refine l_y rfl rfl rfl ?_ | refine l_n rfl rfl rfl rfl (hk := ?_) | refine l_n' rfl rfl rfl (hk := ?_) | refine l_spnd rfl rfl rfl (h1 := fun hc => ?_) (h2 := fun hc => ?_) | refine l_spd rfl rfl rfl (h1 := fun hc => ?_) (h2 := fun hc => ?_) | refine l_spn rfl rfl rfl (h1 := fun hc => ?_) (h2 := fun hc => ?_) | refine l_sp rfl rfl rfl (h1 := fun hc => ?_) (h2 := fun hc => ?_))) | refine d_nil ?_ | (refine d_o ?_; first | refine d_fl rfl (by first | exact .pl (by first | (apply q_mul; first | exact fs_muln (m := 2) (n := a + 1) rfl rfl (by omega) | fail) | fail) | exact .ye rfl rfl rfl (by first | (apply q_mul; first | exact fs_muln (m := 2) (n := a + 1) rfl rfl (by omega) | fail) | fail) | fail) (hk := ?_) | refine d_fl (hk := ?_) | refine d_ef rfl (by first | exact .callf (d := 73) (hfc := b4) | exact .callfY (d := 73) (hfc := b4) | fail) (hk := ?_) | refine d_ef (hk := ?_) | (refine d_g ?_; first | refine d_spnd rfl rfl rfl (h1 := fun hc => ?_) (h2 := fun hc => ?_) | refine d_spd rfl rfl rfl (h1 := fun hc => ?_) (h2 := fun hc => ?_) | refine d_spn rfl rfl rfl (h1 := fun hc => ?_) (h2 := fun hc => ?_) | refine d_sp rfl rfl rfl (h1 := fun hc => ?_) (h2 := fun hc => ?_))) | (refine w_o ?_; first | refine w_draw (id := 18) (fun _ => true) (fun k => [].contains k) [] 64 (by kernel_rfl) rfl (by kernel_rfl) (by simp [nm, nset, -List.map_take, -List.map_drop]) ?_)
                  all_goals
                    refine rn_mk (a + 1, S2.set (V[a + 1] ^^^ V[(((i : Int) - ((k + 1 : Nat) : Int)) - ((a + 1 : Nat) : Int)).toNat]) true) ?_ (by first | omega | (dsimp only; omega)) (le_eq (by (repeat' first | exact .nil | refine .keep ?_ | refine .any ?_); first | done | fail) rfl rfl)
                    exact ⟨ha2, hS3⟩
                · have hb : ¬ (c[k] / 4 % 2 = 1 ∧ 2 * ((a : Int) + 1) ≤ ((i : Int) - ((k + 1 : Nat) : Int))) := fun h => ha2 (hAa.1 h)
                  obtain rfl : a = T := by omega
                  repeat' first | apply w_seq | apply w_block | apply rb_n | apply rb_ret | apply rb_eq | refine rb_ne (by rfl) ?_ | apply w_exit | apply rt_exit | apply w_region | apply l_nil | apply rt_n | apply w_ret | apply rt_ret | apply w_skip | refine w_cond_t rfl ?_ | refine w_cond_f rfl ?_ | ((first | refine w_cnd rfl ?_ ?_ | refine w_cd rfl ?_ ?_ | refine w_cn rfl ?_ ?_ | refine w_cond rfl ?_ ?_) <;> intro hc) | (exfalso; omega) | (refine l_o ?_; first | refine l_eqnil rfl (by kernel_rfl) (by intro b; simp only [nz]; rfl) (fun b hb => ?_) | refine l_op rfl (by first | (apply k_mul; first | exact ops_muln (m := 2) (n := a + 1) rfl rfl (by omega) | fail) | (apply k_callf; first | exact ops_callf (d := 73) (hfc := b4) | fail) | fail) (hk := ?_) | refine l_op (hk := ?_) | (refine l_g ?_; first | refine l_y rfl rfl rfl ?_ | refine l_n rfl rfl rfl rfl (hk := ?_) | refine l_n' rfl rfl rfl (hk := ?_) | refine l_spnd rfl rfl rfl (h1 := fun hc => ?_) (h2 := fun hc => ?_) | refine l_spd rfl rfl rfl (h1 := fun hc => ?_) (h2 := fun hc => ?_) | refine l_spn rfl rfl rfl (h1 := fun hc => ?_) (h2 := fun hc => ?_) | refine l_sp rfl rfl rfl (h1 := fun hc => ?_) (h2 := fun hc => ?_))) | refine d_nil ?_ | (refine d_o ?_; first | refine d_fl rfl (by first | exact .pl (by first | (apply q_mul; first | exact fs_muln (m := 2) (n := a + 1) rfl rfl (by omega) | fail) | fail) | exact .ye rfl rfl rfl (by first | (apply q_mul; first | exact fs_muln (m := 2) (n := a + 1) rfl rfl (by omega) | fail) | fail) | fail) (hk := ?_) | refine d_fl (hk := ?_) | refine d_ef rfl (by first | exact .callf (d := 73) (hfc := b4) | exact .callfY (d := 73) (hfc := b4) | fail) (hk := ?_) | refine d_ef (hk := ?_) | (refine d_g ?_; first | refine d_spnd rfl rfl rfl (h1 := fun hc => ?_) (h2 := fun hc => ?_) | refine d_spd rfl rfl rfl (h1 := fun hc => ?_) (h2 := fun hc => ?_) | refine d_spn rfl rfl rfl (h1 := fun hc => ?_) (h2 := fun hc => ?_) | refine d_sp rfl rfl rfl (h1 := fun hc => ?_) (h2 := fun hc => ?_))) | (refine w_o ?_; first | refine w_draw (id := 18) (fun _ => true) (fun k => [].contains k) [] 64 (by kernel_rfl) rfl (by kernel_rfl) (by simp [nm, nset, -List.map_take, -List.map_drop]) ?_)
                  all_goals
                    refine rn_mk (k + 1, S2) ?_ (by first | omega | (dsimp only; omega)) (le_eq (by (repeat' first | exact .nil | refine .keep ?_ | refine .any ?_); first | done | fail) rfl rfl)
                    exact ⟨hk2, by rw [hrw, ← List.append_assoc]; exact hS2⟩

        · have hst : rawT c i c.length = rawT c i k := by
            by_cases h : k < c.length
            · exact rawT_stop (by omega) _ hk
            · rw [show k = c.length by omega]
          rw [← hst] at hS
          repeat' first | apply w_seq | apply w_block | apply rb_n | apply rb_ret | apply rb_eq | refine rb_ne (by rfl) ?_ | apply w_exit | apply rt_exit | apply w_region | apply l_nil | apply rt_n | apply w_ret | apply rt_ret | apply w_skip | refine w_cond_t rfl ?_ | refine w_cond_f rfl ?_ | ((first | refine w_cnd rfl ?_ ?_ | refine w_cd rfl ?_ ?_ | refine w_cn rfl ?_ ?_ | refine w_cond rfl ?_ ?_) <;> intro hc) | (exfalso; omega) | (refine l_o ?_; first | refine l_eqnil rfl (by kernel_rfl) (by intro b; simp only [nz]; rfl) (fun b hb => ?_) | refine l_op (hk := ?_) | (refine l_g ?_; first | refine l_y rfl rfl rfl ?_ | refine l_n rfl rfl rfl rfl (hk := ?_) | refine l_n' rfl rfl rfl (hk := ?_) | refine l_spnd rfl rfl rfl (h1 := fun hc => ?_) (h2 := fun hc => ?_) | refine l_spd rfl rfl rfl (h1 := fun hc => ?_) (h2 := fun hc => ?_) | refine l_spn rfl rfl rfl (h1 := fun hc => ?_) (h2 := fun hc => ?_) | refine l_sp rfl rfl rfl (h1 := fun hc => ?_) (h2 := fun hc => ?_))) | refine d_nil ?_ | (refine d_o ?_; first | refine d_fl (hk := ?_) | refine d_ef (hk := ?_) | (refine d_g ?_; first | refine d_spnd rfl rfl rfl (h1 := fun hc => ?_) (h2 := fun hc => ?_) | refine d_spd rfl rfl rfl (h1 := fun hc => ?_) (h2 := fun hc => ?_) | refine d_spn rfl rfl rfl (h1 := fun hc => ?_) (h2 := fun hc => ?_) | refine d_sp rfl rfl rfl (h1 := fun hc => ?_) (h2 := fun hc => ?_))) | (refine w_o ?_; first | refine w_draw (id := 18) (fun _ => true) (fun k => [].contains k) [] 64 (by kernel_rfl) rfl (by kernel_rfl) (by simp [nm, nset, -List.map_take, -List.map_drop]) ?_)
          all_goals
            refine w_loopm (ι := Nat) (fun v => [(13, RVn v)]) (fun v => [(23, 1, S.map RVb), (14, 1, V.map RVn)]) (fun v => v ≤ i ∧ ∀ j, j < v → S.getD j false = true) (fun v => i - v) 0 (h0 := ?_) (hs := ?_) (round := ?_)
            · exact ⟨Nat.zero_le _, fun j hj => by omega⟩
            · refine le_eq (by (repeat' first | exact .nil | refine .keep ?_ | refine .any ?_); first | done | fail) rfl rfl
            · intro v ⟨hv, hb⟩
              have hvl : v < S.length := by omega
              have hSv : S.getD v false = S[v] := by rw [List.getD_eq_getElem?_getD, List.getElem?_eq_getElem hvl]; rfl
              cases hSb : S[v] with
              | true =>
                rw [hSb] at hSv
                have hvi : v < i := by
                  obtain ⟨m, hm, e⟩ := (hS.2 v).1 hSv
                  have := hraw _ _ hm
                  omega
                repeat' first | apply w_seq | apply w_block | apply rb_n | apply rb_ret | apply rb_eq | refine rb_ne (by rfl) ?_ | apply w_exit | apply rt_exit | apply w_region | apply l_nil | apply rt_n | apply w_ret | apply rt_ret | apply w_skip | refine w_cond_t rfl ?_ | refine w_cond_f rfl ?_ | ((first | refine w_cnd rfl ?_ ?_ | refine w_cd rfl ?_ ?_ | refine w_cn rfl ?_ ?_ | refine w_cond rfl ?_ ?_) <;> intro hc) | (exfalso; omega) | (exfalso; rw [hSb] at hc; exact absurd hc (by decide)) | (refine l_o ?_; first | refine l_eqnil rfl (by kernel_rfl) (by intro b; simp only [nz]; rfl) (fun b hb => ?_) | refine l_op (hk := ?_) | (refine l_g ?_; first | refine l_y rfl rfl rfl ?_ | refine l_n rfl rfl rfl rfl (hk := ?_) | refine l_n' rfl rfl rfl (hk := ?_) | refine l_spnd rfl rfl rfl (h1 := fun hc => ?_) (h2 := fun hc => ?_) | refine l_spd rfl rfl rfl (h1 := fun hc => ?_) (h2 := fun hc => ?_) | refine l_spn rfl rfl rfl (h1 := fun hc => ?_) (h2 := fun hc => ?_) | refine l_sp rfl rfl rfl (h1 := fun hc => ?_) (h2 := fun hc => ?_))) | refine d_nil ?_ | (refine d_o ?_; first | refine d_fl (hk := ?_) | refine d_ef (hk := ?_) | (refine d_g ?_; first | refine d_spnd rfl rfl rfl (h1 := fun hc => ?_) (h2 := fun hc => ?_) | refine d_spd rfl rfl rfl (h1 := fun hc => ?_) (h2 := fun hc => ?_) | refine d_spn rfl rfl rfl (h1 := fun hc => ?_) (h2 := fun hc => ?_) | refine d_sp rfl rfl rfl (h1 := fun hc => ?_) (h2 := fun hc => ?_))) | (refine w_o ?_; first | refine w_draw (id := 18) (fun _ => true) (fun k => [].contains k) [] 64 (by kernel_rfl) rfl (by kernel_rfl) (by simp [nm, nset, -List.map_take, -List.map_drop]) ?_)
                refine rn_mk (v + 1) ?_ (by first | omega | (dsimp only; omega)) (le_eq (by (repeat' first | exact .nil | refine .keep ?_ | refine .any ?_); first | done | fail) rfl rfl)
                refine ⟨hvi, fun j hj => ?_⟩
                rcases Nat.lt_or_ge j v with h | h
                · exact hb j h
                · obtain rfl : j = v := by omega
                  exact hSv
              | false =>
                rw [hSb] at hSv
                have hmx := SNL_mex hS hb hSv
                rw [hmx] at hsuc
                repeat' first | apply w_seq | apply w_block | apply rb_n | apply rb_ret | apply rb_eq | refine rb_ne (by rfl) ?_ | apply w_exit | apply rt_exit | apply w_region | apply l_nil | apply rt_n | apply w_ret | apply rt_ret | apply w_skip | refine w_cond_t rfl ?_ | refine w_cond_f rfl ?_ | ((first | refine w_cnd rfl ?_ ?_ | refine w_cd rfl ?_ ?_ | refine w_cn rfl ?_ ?_ | refine w_cond rfl ?_ ?_) <;> intro hc) | (exfalso; omega) | (exfalso; rw [hSb] at hc; exact absurd hc (by decide)) | (refine l_o ?_; first | refine l_eqnil rfl (by kernel_rfl) (by intro b; simp only [nz]; rfl) (fun b hb => ?_) | refine l_op (hk := ?_) | (refine l_g ?_; first | refine l_y rfl rfl rfl ?_ | refine l_n rfl rfl rfl rfl (hk := ?_) | refine l_n' rfl rfl rfl (hk := ?_) | refine l_spnd rfl rfl rfl (h1 := fun hc => ?_) (h2 := fun hc => ?_) | refine l_spd rfl rfl rfl (h1 := fun hc => ?_) (h2 := fun hc => ?_) | refine l_spn rfl rfl rfl (h1 := fun hc => ?_) (h2 := fun hc => ?_) | refine l_sp rfl rfl rfl (h1 := fun hc => ?_) (h2 := fun hc => ?_))) | refine d_nil ?_ | (refine d_o ?_; first | refine d_fl (hk := ?_) | refine d_ef (hk := ?_) | (refine d_g ?_; first | refine d_spnd rfl rfl rfl (h1 := fun hc => ?_) (h2 := fun hc => ?_) | refine d_spd rfl rfl rfl (h1 := fun hc => ?_) (h2 := fun hc => ?_) | refine d_spn rfl rfl rfl (h1 := fun hc => ?_) (h2 := fun hc => ?_) | refine d_sp rfl rfl rfl (h1 := fun hc => ?_) (h2 := fun hc => ?_))) | (refine w_o ?_; first | refine w_draw (id := 18) (fun _ => true) (fun k => [].contains k) [] 64 (by kernel_rfl) rfl (by kernel_rfl) (by simp [nm, nset, -List.map_take, -List.map_drop]) ?_)
                rw [← hsuc]
                refine rn_mk (i + 1) ?_ (by first | omega | (dsimp only; omega)) (le_dropd 23 (by simp only [nz]; rfl) (by simp only [nz, reduceIte, Nat.reduceEqDiff] <;> rfl) (le_eq (by (repeat' first | exact .nil | refine .keep ?_ | refine .any ?_); first | done | fail) rfl rfl))
                exact hi2

    · obtain rfl : i = n + 1 := by omega
      repeat' first | apply w_seq | apply w_block | apply rb_n | apply rb_ret | apply rb_eq | refine rb_ne (by rfl) ?_ | apply w_exit | apply rt_exit | apply w_region | apply l_nil | apply rt_n | apply w_ret | apply rt_ret | apply w_skip | refine w_cond_t rfl ?_ | refine w_cond_f rfl ?_ | ((first | refine w_cnd rfl ?_ ?_ | refine w_cd rfl ?_ ?_ | refine w_cn rfl ?_ ?_ | refine w_cond rfl ?_ ?_) <;> intro hc) | (exfalso; omega) | (refine l_o ?_; first | refine l_eqnil rfl (by kernel_rfl) (by intro b; simp only [nz]; rfl) (fun b hb => ?_) | refine l_op (hk := ?_) | (refine l_g ?_; first | refine l_y rfl rfl rfl ?_ | refine l_n rfl rfl rfl rfl (hk := ?_) | refine l_n' rfl rfl rfl (hk := ?_) | refine l_spnd rfl rfl rfl (h1 := fun hc => ?_) (h2 := fun hc => ?_) | refine l_spd rfl rfl rfl (h1 := fun hc => ?_) (h2 := fun hc => ?_) | refine l_spn rfl rfl rfl (h1 := fun hc => ?_) (h2 := fun hc => ?_) | refine l_sp rfl rfl rfl (h1 := fun hc => ?_) (h2 := fun hc => ?_))) | refine d_nil ?_ | (refine d_o ?_; first | refine d_fl (hk := ?_) | refine d_ef (hk := ?_) | (refine d_g ?_; first | refine d_spnd rfl rfl rfl (h1 := fun hc => ?_) (h2 := fun hc => ?_) | refine d_spd rfl rfl rfl (h1 := fun hc => ?_) (h2 := fun hc => ?_) | refine d_spn rfl rfl rfl (h1 := fun hc => ?_) (h2 := fun hc => ?_) | refine d_sp rfl rfl rfl (h1 := fun hc => ?_) (h2 := fun hc => ?_))) | (refine w_o ?_; first | refine w_draw (id := 18) (fun _ => true) (fun k => [].contains k) [] 64 (by kernel_rfl) rfl (by kernel_rfl) (by simp [nm, nset, -List.map_take, -List.map_drop]) ?_)
      refine en_end (hf := Tryz.results84) (hr := ?_); simp only [ne, nf, nl, nr, lget, reduceIte, Nat.reduceEqDiff]; first | rfl | refine congrArg RVb ?_ | refine congrArg RVi ?_ | skip
end Go.Proofs.YtmfbcipjknjicaaGreatDoor
