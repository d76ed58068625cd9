/- The program's values of heaps. For all codes and heaps of the sizes that the theorems name. -/
import Derived.Test.YtmfbcipjknjicaaGreatDoorHpI
import Derived.Test.YtmfbcipjknjicaaGreatDoorJ38
import Derived.Test.YtmfbcipjknjicaaGreatDoorOctV
namespace Go.Proofs.YtmfbcipjknjicaaGreatDoor
set_option linter.unusedSectionVars false
variable [One Bool]
open Eng
attribute [local irreducible] OpS OpG FC FCr Rel Fl Ef DR Fs
attribute [local simp] RV.fzR_names
set_option linter.unusedSimpArgs false
set_option linter.unusedVariables false
set_option maxHeartbeats 0
set_option maxRecDepth 100000

def SN (S : List Bool) (l : List (List Int)) (v : List Nat) : Prop := S.length = 512 ∧ ∀ x : Nat, S.getD x false = true ↔ ∃ m ∈ l, xorV v m = x
theorem getB_set (S : List Bool) (i j : Nat) (hi : i < S.length) : (S.set i true).getD j false = if i = j then true else S.getD j false := by
  simp only [List.getD_eq_getElem?_getD, List.getElem?_set]
  split
  · rename_i e; subst e; simp [hi]
  · rfl
theorem SN_snoc {S l v m} (h : SN S l v) (hx : xorV v m < 512) : SN (S.set (xorV v m) true) (l ++ [m]) v := by
  refine ⟨by rw [List.length_set]; exact h.1, fun x => ?_⟩
  rw [getB_set _ _ _ (by rw [h.1]; exact hx)]
  constructor
  · intro h1
    by_cases e : xorV v m = x
    · exact ⟨m, by simp, e⟩
    · rw [if_neg e] at h1
      obtain ⟨m2, h2, h3⟩ := (h.2 x).1 h1
      exact ⟨m2, by simp [h2], h3⟩
  · rintro ⟨m2, h2, h3⟩
    rcases List.mem_append.1 h2 with h2 | h2
    · split
      · rfl
      · exact (h.2 x).2 ⟨m2, h2, h3⟩
    · rw [List.mem_singleton.1 h2] at h3
      rw [if_pos h3]
theorem xorV_lt {v : List Nat} (hv : ∀ x ∈ v, x < 256) (m : List Int) : xorV v m < 256 := by
  unfold xorV
  have key : ∀ z, z < 256 → m.foldl (fun x h => x ^^^ v.getD h.toNat 0) z < 256 := by
    induction m with
    | nil => intro z hz; exact hz
    | cons x xs ih =>
      intro z hz
      rw [List.foldl_cons]
      refine ih _ ?_
      have h1 : v.getD x.toNat 0 < 256 := by
        rw [List.getD_eq_getElem?_getD]
        cases hx : v[x.toNat]? with
        | none => simp
        | some y => exact hv y (List.mem_of_getElem? hx)
      exact Nat.xor_lt_two_pow (n := 8) hz h1
  exact key 0 (by omega)
theorem SN_low {S l v} (h : SN S l v) (hv : ∀ x ∈ v, x < 256) : S.getD 256 false = false := by
  cases hb : S.getD 256 false with
  | false => rfl
  | true =>
    obtain ⟨m, _, e⟩ := (h.2 256).1 hb
    have := xorV_lt hv m
    omega
theorem SN_mex {S l v} (h : SN S l v) {n : Nat} (h1 : ∀ j, j < n → S.getD j false = true) (h2 : S.getD n false = false) : mexL (l.map fun m => ((xorV v m : Nat) : Int)) = n := by
  refine mexL_eq ?_ fun j hj => ?_
  · intro hm
    obtain ⟨m, hm, e⟩ := List.mem_map.1 hm
    have := (h.2 n).2 ⟨m, hm, by omega⟩
    rw [h2] at this; cases this
  · obtain ⟨m, hm, e⟩ := (h.2 j).1 (h1 j hj)
    exact List.mem_map.2 ⟨m, hm, by omega⟩
theorem xorV_nil (v : List Nat) : xorV v [] = 0 := rfl
theorem xorV_one (v : List Nat) (x : Int) : xorV v [x] = v.getD x.toNat 0 := by simp [xorV]
theorem xorV_two (v : List Nat) (x y : Int) : xorV v [x, y] = v.getD x.toNat 0 ^^^ v.getD y.toNat 0 := by simp [xorV]
theorem gvL_lt {c : List Int} {n : Nat} (hB : ∀ k, k ≤ n → gv c k ≤ 255) {i : Nat} (hi : i ≤ n + 1) : ∀ x ∈ gvL c i, x < 256 := by
  intro x hx
  obtain ⟨j, hj, rfl⟩ := List.mem_iff_getElem.1 hx
  rw [gvL_len] at hj
  have e := gvL_at c (i := j) (n := i) hj
  rw [List.getD_eq_getElem?_getD, List.getElem?_eq_getElem (by rw [gvL_len]; exact hj), Option.getD_some] at e
  rw [e]
  have := hB j (by omega)
  omega
theorem values_ok (c : List Int) (n : Nat) (hc0 : gcode c = true) (hn : n ≤ 300) (hB : ∀ k, k ≤ n → gv c k ≤ 255) : FCr Tryz.prog 60 [RIs c, RVn n] (.tup [.ow 1 ((gvL c (n + 1)).map RVn), RVb true]) := by
  have hcl := gcode_len hc0
  obtain ⟨N, hN⟩ : ∃ N : Nat, N = 512 := ⟨_, rfl⟩
  have hZl : (List.replicate N (Value.bool false)).length = N := List.length_replicate
  have hZ1 : (List.replicate N (Value.bool false)).all Value.oneCell' = true := by simp [Value.oneCell']
  have hZe : (List.replicate N (Value.bool false)).map RV.v = (List.replicate N false).map RVb := by simp
  refine (fcr_in Tryz.func60 rfl (by simp only [Tryz.ntmps60, anys, List.length_cons, List.length_nil, Nat.reduceAdd, Nat.reduceSub, List.replicate_succ, List.replicate_zero, List.cons_append, List.nil_append] <;> rfl) ?_)
  repeat' first | apply w_seq | apply w_block | apply rb_n | apply rb_ret | apply rb_eq | refine rb_ne (by rfl) ?_ | apply w_exit | apply rt_exit | apply w_region | apply l_nil | apply rt_n | apply w_ret | apply rt_ret | apply w_skip | refine w_cond_t rfl ?_ | refine w_cond_f rfl ?_ | ((first | refine w_cnd rfl ?_ ?_ | refine w_cd rfl ?_ ?_ | refine w_cn rfl ?_ ?_ | refine w_cond rfl ?_ ?_) <;> intro hc) | (refine l_o ?_; first | refine l_eqnil rfl (by kernel_rfl) (by intro b; simp only [nz]; rfl) (fun b hb => ?_) | refine l_op (hk := ?_) | (refine l_g ?_; first | refine l_y rfl rfl rfl ?_ | refine l_n rfl rfl rfl rfl (hk := ?_) | refine l_n' rfl rfl rfl (hk := ?_) | refine l_spnd rfl rfl rfl (h1 := fun hc => ?_) (h2 := fun hc => ?_) | refine l_spd rfl rfl rfl (h1 := fun hc => ?_) (h2 := fun hc => ?_) | refine l_spn rfl rfl rfl (h1 := fun hc => ?_) (h2 := fun hc => ?_) | refine l_sp rfl rfl rfl (h1 := fun hc => ?_) (h2 := fun hc => ?_))) | refine d_nil ?_ | (refine d_o ?_; first | refine d_fl (hk := ?_) | refine d_ef (hk := ?_) | (refine d_g ?_; first | refine d_spnd rfl rfl rfl (h1 := fun hc => ?_) (h2 := fun hc => ?_) | refine d_spd rfl rfl rfl (h1 := fun hc => ?_) (h2 := fun hc => ?_) | refine d_spn rfl rfl rfl (h1 := fun hc => ?_) (h2 := fun hc => ?_) | refine d_sp rfl rfl rfl (h1 := fun hc => ?_) (h2 := fun hc => ?_))) | (refine w_o ?_; first | refine w_draw (id := 18) (fun _ => true) (fun k => [12].contains k) [[]] 64 (by kernel_rfl) rfl (by kernel_rfl) (by simp [nm, nset, -List.map_take, -List.map_drop]) ?_)
  refine w_loopm (ι := Nat) (fun i => [(17, RVn i), (6, .ref 14 0 (gvL c i).length), (14, .any), (7, .any), (8, .any), (9, .any), (10, .any), (11, .any), (12, .any), (13, .any), (23, .any)]) (fun i => [(14, 1, (gvL c i).map RVn)]) (fun i => i ≤ n + 1) (fun i => n + 1 - i) 0 (h0 := ?_) (hs := ?_) (round := ?_)
  · exact Nat.zero_le _
  · refine le_eq (by (repeat' first | exact .nil | refine .keep ?_ | refine .any ?_); first | done | fail) rfl rfl
  · intro i hi
    have hVl := gvL_len c i
    by_cases hi2 : i < n + 1
    · have hlt := gvL_lt hB hi
      have hsuc : gvL c (i + 1) = gvL c i ++ [mexL ((rawT c i c.length).map fun m => ((xorV (gvL c i) m : Nat) : Int))] := rfl
      have hgi : mexL ((rawT c i c.length).map fun m => ((xorV (gvL c i) m : Nat) : Int)) ≤ 255 := by
        have := hB i (by omega)
        unfold gv at this
        rw [hsuc, List.getD_eq_getElem?_getD, List.getElem?_append_right (by omega), hVl] at this
        simpa using this
      generalize gvL c i = V at *
      repeat' first | apply w_seq | apply w_block | apply rb_n | apply rb_ret | apply rb_eq | refine rb_ne (by rfl) ?_ | apply w_exit | apply rt_exit | apply w_region | apply l_nil | apply rt_n | apply w_ret | apply rt_ret | apply w_skip | refine w_cond_t rfl ?_ | refine w_cond_f rfl ?_ | ((first | refine w_cnd rfl ?_ ?_ | refine w_cd rfl ?_ ?_ | refine w_cn rfl ?_ ?_ | refine w_cond rfl ?_ ?_) <;> intro hc) | (exfalso; omega) | (refine l_o ?_; first | refine l_eqnil rfl (by kernel_rfl) (by intro b; simp only [nz]; rfl) (fun b hb => ?_) | refine l_op rfl (by first | (apply k_build; first | exact ops_build_arr (zs := List.replicate N (Value.bool false)) (by subst hN; kernel_rfl) rfl (by kernel_rfl) | fail) | (apply k_alloc; first | exact ops_alloc_arr (zs := List.replicate N (Value.bool false)) (by subst hN; kernel_rfl) hZ1 (by omega) (by simp [nm, nset, -List.map_take, -List.map_drop]) (by simp [nm, nset, -List.map_take, -List.map_drop]) | fail) | (apply k_store; first | exact ops_store_arr (zs := List.replicate N (Value.bool false)) rfl rfl rfl (by simp) (by omega) hZ1 (by subst hN; kernel_rfl) | fail) | fail) (hk := ?_) | refine l_op (hk := ?_) | (refine l_g ?_; first | refine l_y rfl rfl rfl ?_ | refine l_n rfl rfl rfl rfl (hk := ?_) | refine l_n' rfl rfl rfl (hk := ?_) | refine l_spnd rfl rfl rfl (h1 := fun hc => ?_) (h2 := fun hc => ?_) | refine l_spd rfl rfl rfl (h1 := fun hc => ?_) (h2 := fun hc => ?_) | refine l_spn rfl rfl rfl (h1 := fun hc => ?_) (h2 := fun hc => ?_) | refine l_sp rfl rfl rfl (h1 := fun hc => ?_) (h2 := fun hc => ?_))) | refine d_nil ?_ | (refine d_o ?_; first | refine d_fl rfl (by first | exact .pl (by first | (apply q_build; first | exact fs_build_arr (zs := List.replicate N (Value.bool false)) (by subst hN; kernel_rfl) rfl (by kernel_rfl) | fail) | fail) | exact .ye rfl rfl rfl (by first | (apply q_build; first | exact fs_build_arr (zs := List.replicate N (Value.bool false)) (by subst hN; kernel_rfl) rfl (by kernel_rfl) | fail) | fail) | fail) (hk := ?_) | refine d_fl (hk := ?_) | refine d_ef (hk := ?_) | (refine d_g ?_; first | refine d_spnd rfl rfl rfl (h1 := fun hc => ?_) (h2 := fun hc => ?_) | refine d_spd rfl rfl rfl (h1 := fun hc => ?_) (h2 := fun hc => ?_) | refine d_spn rfl rfl rfl (h1 := fun hc => ?_) (h2 := fun hc => ?_) | refine d_sp rfl rfl rfl (h1 := fun hc => ?_) (h2 := fun hc => ?_))) | (refine w_o ?_; first | refine w_draw (id := 18) (fun _ => true) (fun k => [12].contains k) [[]] 64 (by kernel_rfl) rfl (by kernel_rfl) (by simp [nm, nset, -List.map_take, -List.map_drop]) ?_)
      rw [hZe]
      refine w_loopm (ι := Nat × List Bool) (fun q => [(23, RVn q.1), (9, .any), (10, .any), (11, .any), (12, .any)]) (fun q => [(8, 1, q.2.map RVb), (14, 1, V.map RVn)]) (fun q => q.1 ≤ c.length ∧ SN q.2 (rawT c i q.1) V) (fun q => c.length - q.1) (0, List.replicate N false) (h0 := ?_) (hs := ?_) (round := ?_)
      · refine ⟨Nat.zero_le _, by simp [hN], fun x => ?_⟩
        constructor
        · intro h
          rw [List.getD_eq_getElem?_getD] at h
          cases hx : (List.replicate N false)[x]? with
          | none => rw [hx] at h; cases h
          | some b => rw [hx] at h; have := List.eq_of_mem_replicate (List.mem_of_getElem? hx); rw [this] at h; cases h
        · rintro ⟨m, hm, _⟩
          simp [rawT] at hm
      · refine le_eq (by (repeat' first | exact .nil | refine .keep ?_ | refine .any ?_); first | done | fail) rfl rfl
      · intro ⟨k, S⟩ ⟨hk, hS⟩
        dsimp only at hk hS ⊢
        have hSl := hS.1
        have hSne : S.map RVb ≠ [] := fun h => by have := congrArg List.length h; rw [List.length_map, hSl] at this; cases this
        by_cases hk2 : k < c.length
        · have hd := gcode_at hc0 (List.getElem_mem hk2)
          have e1 := and1 hd
          have e2 := and2 hd
          have e4 := and4 hd
          by_cases hr : (i : Int) - k - 1 < 0
          · have hst := rawT_stop (c := c) hr c.length hk
            rw [← hst] at hS
            repeat' first | apply w_seq | apply w_block | apply rb_n | apply rb_ret | apply rb_eq | refine rb_ne (by rfl) ?_ | apply w_exit | apply rt_exit | apply w_region | apply l_nil | apply rt_n | apply w_ret | apply rt_ret | apply w_skip | refine w_cond_t rfl ?_ | refine w_cond_f rfl ?_ | ((first | refine w_cnd rfl ?_ ?_ | refine w_cd rfl ?_ ?_ | refine w_cn rfl ?_ ?_ | refine w_cond rfl ?_ ?_) <;> intro hc) | (exfalso; omega) | (refine l_o ?_; first | refine l_eqnil rfl (by kernel_rfl) (by intro b; simp only [nz]; rfl) (fun b hb => ?_) | refine l_op (hk := ?_) | (refine l_g ?_; first | refine l_y rfl rfl rfl ?_ | refine l_n rfl rfl rfl rfl (hk := ?_) | refine l_n' rfl rfl rfl (hk := ?_) | refine l_spnd rfl rfl rfl (h1 := fun hc => ?_) (h2 := fun hc => ?_) | refine l_spd rfl rfl rfl (h1 := fun hc => ?_) (h2 := fun hc => ?_) | refine l_spn rfl rfl rfl (h1 := fun hc => ?_) (h2 := fun hc => ?_) | refine l_sp rfl rfl rfl (h1 := fun hc => ?_) (h2 := fun hc => ?_))) | refine d_nil ?_ | (refine d_o ?_; first | refine d_fl (hk := ?_) | refine d_ef (hk := ?_) | (refine d_g ?_; first | refine d_spnd rfl rfl rfl (h1 := fun hc => ?_) (h2 := fun hc => ?_) | refine d_spd rfl rfl rfl (h1 := fun hc => ?_) (h2 := fun hc => ?_) | refine d_spn rfl rfl rfl (h1 := fun hc => ?_) (h2 := fun hc => ?_) | refine d_sp rfl rfl rfl (h1 := fun hc => ?_) (h2 := fun hc => ?_))) | (refine w_o ?_; first | refine w_draw (id := 18) (fun _ => true) (fun k => [12].contains k) [[]] 64 (by kernel_rfl) rfl (by kernel_rfl) (by simp [nm, nset, -List.map_take, -List.map_drop]) ?_)
            refine w_loopm (ι := Nat) (fun v => [(13, RVn v)]) (fun v => [(8, 1, S.map RVb), (14, 1, V.map RVn)]) (fun v => v ≤ 256 ∧ ∀ j, j < v → S.getD j false = true) (fun v => 256 - v) 0 (h0 := ?_) (hs := ?_) (round := ?_)
            · exact ⟨Nat.zero_le _, fun j hj => by omega⟩
            · refine le_eq (by (repeat' first | exact .nil | refine .keep ?_ | refine .any ?_); first | done | fail) rfl rfl
            · intro v ⟨hv, hb⟩
              have hSv : S.getD v false = S[v]'(by omega) := by simp [List.getD_eq_getElem?_getD, show v < S.length by omega]
              have hlow := SN_low hS hlt
              cases hSb : S[v]'(by omega) with
              | true =>
                rw [hSb] at hSv
                have hne : v ≠ 256 := fun e => by rw [e, hlow] at hSv; cases hSv
                repeat' first | apply w_seq | apply w_block | apply rb_n | apply rb_ret | apply rb_eq | refine rb_ne (by rfl) ?_ | apply w_exit | apply rt_exit | apply w_region | apply l_nil | apply rt_n | apply w_ret | apply rt_ret | apply w_skip | refine w_cond_t rfl ?_ | refine w_cond_f rfl ?_ | ((first | refine w_cnd rfl ?_ ?_ | refine w_cd rfl ?_ ?_ | refine w_cn rfl ?_ ?_ | refine w_cond rfl ?_ ?_) <;> intro hc) | (exfalso; omega) | (exfalso; rw [hSb] at hc; exact absurd hc (by decide)) | (refine l_o ?_; first | refine l_eqnil rfl (by kernel_rfl) (by intro b; simp only [nz]; rfl) (fun b hb => ?_) | refine l_op rfl (by first | (apply k_indexAddr; first | exact ops_idx_arr (len := 512) rfl rfl rfl hSne (by first | omega | exact Nat.lt_trans (hlt _ (List.getElem_mem _)) (by decide)) rfl (by kernel_rfl) | fail) | fail) (hk := ?_) | refine l_op (hk := ?_) | (refine l_g ?_; first | refine l_y rfl rfl rfl ?_ | refine l_n rfl rfl rfl rfl (hk := ?_) | refine l_n' rfl rfl rfl (hk := ?_) | refine l_spnd rfl rfl rfl (h1 := fun hc => ?_) (h2 := fun hc => ?_) | refine l_spd rfl rfl rfl (h1 := fun hc => ?_) (h2 := fun hc => ?_) | refine l_spn rfl rfl rfl (h1 := fun hc => ?_) (h2 := fun hc => ?_) | refine l_sp rfl rfl rfl (h1 := fun hc => ?_) (h2 := fun hc => ?_))) | refine d_nil ?_ | (refine d_o ?_; first | refine d_fl rfl (by first | exact .pl (by first | (apply q_indexAddr; first | exact fs_idx_arr (len := 512) rfl rfl rfl rfl hSne (by first | omega | exact Nat.lt_trans (hlt _ (List.getElem_mem _)) (by decide)) rfl (by kernel_rfl) | fail) | fail) | exact .ye rfl rfl rfl (by first | (apply q_indexAddr; first | exact fs_idx_arr (len := 512) rfl rfl rfl rfl hSne (by first | omega | exact Nat.lt_trans (hlt _ (List.getElem_mem _)) (by decide)) rfl (by kernel_rfl) | fail) | fail) | fail) (hk := ?_) | refine d_fl (hk := ?_) | refine d_ef (hk := ?_) | (refine d_g ?_; first | refine d_spnd rfl rfl rfl (h1 := fun hc => ?_) (h2 := fun hc => ?_) | refine d_spd rfl rfl rfl (h1 := fun hc => ?_) (h2 := fun hc => ?_) | refine d_spn rfl rfl rfl (h1 := fun hc => ?_) (h2 := fun hc => ?_) | refine d_sp rfl rfl rfl (h1 := fun hc => ?_) (h2 := fun hc => ?_))) | (refine w_o ?_; first | refine w_draw (id := 18) (fun _ => true) (fun k => [12].contains k) [[]] 64 (by kernel_rfl) rfl (by kernel_rfl) (by simp [nm, nset, -List.map_take, -List.map_drop]) ?_)
                refine rn_mk (v + 1) ?_ (by first | omega | (dsimp only; omega)) (le_eq (by (repeat' first | exact .nil | refine .keep ?_ | refine .any ?_); first | done | fail) rfl rfl)
                refine ⟨by omega, fun j hj => ?_⟩
                rcases Nat.lt_or_ge j v with h | h
                · exact hb j h
                · obtain rfl : j = v := by omega
                  exact hSv
              | false =>
                rw [hSb] at hSv
                have hmx := SN_mex hS hb hSv
                rw [hmx] at hsuc hgi
                repeat' first | apply w_seq | apply w_block | apply rb_n | apply rb_ret | apply rb_eq | refine rb_ne (by rfl) ?_ | apply w_exit | apply rt_exit | apply w_region | apply l_nil | apply rt_n | apply w_ret | apply rt_ret | apply w_skip | refine w_cond_t rfl ?_ | refine w_cond_f rfl ?_ | ((first | refine w_cnd rfl ?_ ?_ | refine w_cd rfl ?_ ?_ | refine w_cn rfl ?_ ?_ | refine w_cond rfl ?_ ?_) <;> intro hc) | (exfalso; omega) | (exfalso; rw [hSb] at hc; exact absurd hc (by decide)) | (refine l_o ?_; first | refine l_eqnil rfl (by kernel_rfl) (by intro b; simp only [nz]; rfl) (fun b hb => ?_) | refine l_op rfl (by first | (apply k_indexAddr; first | exact ops_idx_arr (len := 512) rfl rfl rfl hSne (by first | omega | exact Nat.lt_trans (hlt _ (List.getElem_mem _)) (by decide)) rfl (by kernel_rfl) | fail) | fail) (hk := ?_) | refine l_op (hk := ?_) | (refine l_g ?_; first | refine l_y rfl rfl rfl ?_ | refine l_n rfl rfl rfl rfl (hk := ?_) | refine l_n' rfl rfl rfl (hk := ?_) | refine l_spnd rfl rfl rfl (h1 := fun hc => ?_) (h2 := fun hc => ?_) | refine l_spd rfl rfl rfl (h1 := fun hc => ?_) (h2 := fun hc => ?_) | refine l_spn rfl rfl rfl (h1 := fun hc => ?_) (h2 := fun hc => ?_) | refine l_sp rfl rfl rfl (h1 := fun hc => ?_) (h2 := fun hc => ?_))) | refine d_nil ?_ | (refine d_o ?_; first | refine d_fl rfl (by first | exact .pl (by first | (apply q_indexAddr; first | exact fs_idx_arr (len := 512) rfl rfl rfl rfl hSne (by first | omega | exact Nat.lt_trans (hlt _ (List.getElem_mem _)) (by decide)) rfl (by kernel_rfl) | fail) | fail) | exact .ye rfl rfl rfl (by first | (apply q_indexAddr; first | exact fs_idx_arr (len := 512) rfl rfl rfl rfl hSne (by first | omega | exact Nat.lt_trans (hlt _ (List.getElem_mem _)) (by decide)) rfl (by kernel_rfl) | fail) | fail) | fail) (hk := ?_) | refine d_fl (hk := ?_) | refine d_ef (hk := ?_) | (refine d_g ?_; first | refine d_spnd rfl rfl rfl (h1 := fun hc => ?_) (h2 := fun hc => ?_) | refine d_spd rfl rfl rfl (h1 := fun hc => ?_) (h2 := fun hc => ?_) | refine d_spn rfl rfl rfl (h1 := fun hc => ?_) (h2 := fun hc => ?_) | refine d_sp rfl rfl rfl (h1 := fun hc => ?_) (h2 := fun hc => ?_))) | (refine w_o ?_; first | refine w_draw (id := 18) (fun _ => true) (fun k => [12].contains k) [[]] 64 (by kernel_rfl) rfl (by kernel_rfl) (by simp [nm, nset, -List.map_take, -List.map_drop]) ?_)
                rw [← hsuc]
                refine rn_mk (i + 1) ?_ (by first | omega | (dsimp only; omega)) (le_dropd 8 (by simp only [nz]; rfl) (by simp only [nz, reduceIte, Nat.reduceEqDiff] <;> rfl) (le_eq (by (repeat' first | exact .nil | refine .keep ?_ | refine .any ?_); first | done | fail) rfl rfl))
                exact hi2

          · have hms := mvAt_split (c := c) hr
            have hcd : c.getD k 0 = c[k] := by simp [List.getD_eq_getElem?_getD, hk2]
            rw [hcd] at hms
            have hrw := rawT_succ c i k
            rw [hms] at hrw
            have hA : ∀ a : Nat, (c[k] / 4 % 2 = 1 ∧ 2 * ((a : Int) + 1) ≤ (i : Int) - k - 1) ↔ a < (if c[k] / 4 % 2 = 1 then (((i : Int) - k - 1) / 2).toNat else 0) := by
              intro a
              split
              · rename_i h; simp only [h, true_and]; omega
              · rename_i h; simp [h]
            have hTl : (if c[k] / 4 % 2 = 1 then (((i : Int) - k - 1) / 2).toNat else 0) ≤ 150 := by split <;> omega
            generalize (if c[k] / 4 % 2 = 1 then (((i : Int) - k - 1) / 2).toNat else 0) = T at *
            have hv1 : (c[k] % 2 = 1 ∧ (if c[k] % 2 = 1 then 1 else 0 : Nat) = 1) ∨ (¬ c[k] % 2 = 1 ∧ (if c[k] % 2 = 1 then 1 else 0 : Nat) = 0) := by split <;> simp [*]
            have hv2 : (c[k] / 2 % 2 = 1 ∧ (if c[k] / 2 % 2 = 1 then 2 else 0 : Nat) = 2) ∨ (¬ c[k] / 2 % 2 = 1 ∧ (if c[k] / 2 % 2 = 1 then 2 else 0 : Nat) = 0) := by split <;> simp [*]
            have hv4 : (c[k] / 4 % 2 = 1 ∧ (if c[k] / 4 % 2 = 1 then 4 else 0 : Nat) = 4) ∨ (¬ c[k] / 4 % 2 = 1 ∧ (if c[k] / 4 % 2 = 1 then 4 else 0 : Nat) = 0) := by split <;> simp [*]
            generalize (if c[k] % 2 = 1 then 1 else 0 : Nat) = V1 at *
            generalize (if c[k] / 2 % 2 = 1 then 2 else 0 : Nat) = V2 at *
            generalize (if c[k] / 4 % 2 = 1 then 4 else 0 : Nat) = V4 at *
            repeat' first | apply w_seq | apply w_block | apply rb_n | apply rb_ret | apply rb_eq | refine rb_ne (by rfl) ?_ | apply w_exit | apply rt_exit | apply w_region | apply l_nil | apply rt_n | apply w_ret | apply rt_ret | apply w_skip | refine w_cond_t rfl ?_ | refine w_cond_f rfl ?_ | ((first | refine w_cnd rfl ?_ ?_ | refine w_cd rfl ?_ ?_ | refine w_cn rfl ?_ ?_ | refine w_cond rfl ?_ ?_) <;> intro hc) | (exfalso; omega) | (refine l_o ?_; first | refine l_eqnil rfl (by kernel_rfl) (by intro b; simp only [nz]; rfl) (fun b hb => ?_) | refine l_op rfl (by first | (apply k_and; first | exact ops_andv (n := 1) rfl rfl hd (by omega) e1 | exact ops_andv (n := 2) rfl rfl hd (by omega) e2 | fail) | (apply k_indexAddr; first | exact ops_idx_arr (i := 0) (len := 512) rfl rfl rfl hSne (by first | omega | exact Nat.lt_trans (hlt _ (List.getElem_mem _)) (by decide)) rfl (by kernel_rfl) | exact ops_idx_arr (len := 512) rfl rfl rfl hSne (by first | omega | exact Nat.lt_trans (hlt _ (List.getElem_mem _)) (by decide)) rfl (by kernel_rfl) | fail) | (apply k_store; first | exact ops_store_map rfl rfl rfl (by first | omega | (rw [hSl]; exact Nat.lt_trans (hlt _ (List.getElem_mem _)) (by decide))) rfl rfl (by kernel_rfl) | fail) | fail) (hk := ?_) | refine l_op (hk := ?_) | (refine l_g ?_; first | refine l_y rfl rfl rfl ?_ | refine l_n rfl rfl rfl rfl (hk := ?_) | refine l_n' rfl rfl rfl (hk := ?_) | refine l_spnd rfl rfl rfl (h1 := fun hc => ?_) (h2 := fun hc => ?_) | refine l_spd rfl rfl rfl (h1 := fun hc => ?_) (h2 := fun hc => ?_) | refine l_spn rfl rfl rfl (h1 := fun hc => ?_) (h2 := fun hc => ?_) | refine l_sp rfl rfl rfl (h1 := fun hc => ?_) (h2 := fun hc => ?_))) | refine d_nil ?_ | (refine d_o ?_; first | refine d_fl rfl (by first | exact .pl (by first | (apply q_and; first | exact fs_andv (n := 1) rfl rfl hd (by omega) e1 | exact fs_andv (n := 2) rfl rfl hd (by omega) e2 | fail) | (apply q_indexAddr; first | exact fs_idx_arr (i := 0) (len := 512) rfl rfl rfl rfl hSne (by first | omega | exact Nat.lt_trans (hlt _ (List.getElem_mem _)) (by decide)) rfl (by kernel_rfl) | exact fs_idx_arr (len := 512) rfl rfl rfl rfl hSne (by first | omega | exact Nat.lt_trans (hlt _ (List.getElem_mem _)) (by decide)) rfl (by kernel_rfl) | fail) | fail) | exact .ye rfl rfl rfl (by first | (apply q_and; first | exact fs_andv (n := 1) rfl rfl hd (by omega) e1 | exact fs_andv (n := 2) rfl rfl hd (by omega) e2 | fail) | (apply q_indexAddr; first | exact fs_idx_arr (i := 0) (len := 512) rfl rfl rfl rfl hSne (by first | omega | exact Nat.lt_trans (hlt _ (List.getElem_mem _)) (by decide)) rfl (by kernel_rfl) | exact fs_idx_arr (len := 512) rfl rfl rfl rfl hSne (by first | omega | exact Nat.lt_trans (hlt _ (List.getElem_mem _)) (by decide)) rfl (by kernel_rfl) | fail) | fail) | fail) (hk := ?_) | refine d_fl (hk := ?_) | refine d_ef (hk := ?_) | (refine d_g ?_; first | refine d_spnd rfl rfl rfl (h1 := fun hc => ?_) (h2 := fun hc => ?_) | refine d_spd rfl rfl rfl (h1 := fun hc => ?_) (h2 := fun hc => ?_) | refine d_spn rfl rfl rfl (h1 := fun hc => ?_) (h2 := fun hc => ?_) | refine d_sp rfl rfl rfl (h1 := fun hc => ?_) (h2 := fun hc => ?_))) | (refine w_o ?_; first | refine w_draw (id := 18) (fun _ => true) (fun k => [12].contains k) [[]] 64 (by kernel_rfl) rfl (by kernel_rfl) (by simp [nm, nset, -List.map_take, -List.map_drop]) ?_)
            all_goals first
              | (have hS1 : SN (S.set 0 true) (rawT c i k ++ mvB c[k] ((i : Int) - k - 1)) V := by
                   have e : mvB c[k] ((i : Int) - k - 1) = [[]] := by unfold mvB; rw [if_pos (by omega), if_neg (by omega)]; rfl
                   rw [e]
                   exact SN_snoc (m := []) hS (by rw [xorV_nil]; omega)
                 generalize S.set 0 true = S1 at *)
              | (have hS1 : SN (S.set (V[((i : Int) - k - 1).toNat]'(by omega)) true) (rawT c i k ++ mvB c[k] ((i : Int) - k - 1)) V := by
                   have e : mvB c[k] ((i : Int) - k - 1) = [[(i : Int) - k - 1]] := by unfold mvB; rw [if_neg (by omega), if_pos (by omega)]; rfl
                   have e2 : xorV V [(i : Int) - k - 1] = V[((i : Int) - k - 1).toNat]'(by omega) := by rw [xorV_one, List.getD_eq_getElem?_getD, List.getElem?_eq_getElem (show ((i : Int) - k - 1).toNat < V.length by omega)]; rfl
                   rw [e, ← e2]
                   exact SN_snoc hS (by have := xorV_lt hlt [(i : Int) - k - 1]; omega)
                 generalize S.set (V[((i : Int) - k - 1).toNat]'(by omega)) true = S1 at *)
              | (have hS1 : SN S (rawT c i k ++ mvB c[k] ((i : Int) - k - 1)) V := by
                   have e : mvB c[k] ((i : Int) - k - 1) = [] := by first | (unfold mvB; rw [if_neg (by omega), if_neg (by omega)]; rfl) | fail
                   rw [e, List.append_nil]
                   exact hS
                 clear hS
                 generalize S = S1 at *)
            all_goals
              refine w_loopm (ι := Nat × List Bool) (fun q => [(12, RVn (q.1 + 1))]) (fun q => [(8, 1, q.2.map RVb), (14, 1, V.map RVn)]) (fun q => q.1 ≤ T ∧ SN q.2 ((rawT c i k ++ mvB c[k] ((i : Int) - k - 1)) ++ splT ((i : Int) - k - 1) q.1) V) (fun q => T - q.1) (0, S1) (h0 := ?_) (hs := ?_) (round := ?_)
              · exact ⟨Nat.zero_le _, by simpa [splT] using hS1⟩
              · refine le_eq (by (repeat' first | exact .nil | refine .keep ?_ | refine .any ?_); first | done | fail) rfl rfl
              · intro ⟨a, S2⟩ ⟨ha, hS2⟩
                dsimp only at ha hS2 ⊢
                have hAa := hA a
                have hSl2 := hS2.1
                have hSne2 : S2.map RVb ≠ [] := fun h => by have := congrArg List.length h; rw [List.length_map, hSl2] at this; cases this
                by_cases ha2 : a < T
                · have hb := hAa.2 ha2
                  have hi1 : a + 1 < V.length := by omega
                  have hi3 : (((i : Int) - k - 1) - ((a + 1 : Nat) : Int)).toNat < V.length := by omega
                  have hx1 := hlt _ (List.getElem_mem hi1)
                  have hx2 := hlt _ (List.getElem_mem hi3)
                  have e2 : xorV V [(a : Int) + 1, ((i : Int) - k - 1) - ((a : Int) + 1)] = V[a + 1] ^^^ V[(((i : Int) - k - 1) - ((a + 1 : Nat) : Int)).toNat] := by
                    rw [xorV_two]
                    have q1 : ((a : Int) + 1).toNat = a + 1 := by omega
                    have q2 : ((i : Int) - k - 1) - ((a : Int) + 1) = ((i : Int) - k - 1) - ((a + 1 : Nat) : Int) := by omega
                    have q3 : V.getD (a + 1) 0 = V[a + 1] := by rw [List.getD_eq_getElem?_getD, List.getElem?_eq_getElem hi1]; rfl
                    have q4 : V.getD (((i : Int) - k - 1) - ((a + 1 : Nat) : Int)).toNat 0 = V[(((i : Int) - k - 1) - ((a + 1 : Nat) : Int)).toNat] := by rw [List.getD_eq_getElem?_getD, List.getElem?_eq_getElem hi3]; rfl
                    rw [q1, q2, q3, q4]
                  have hx3 : V[a + 1] ^^^ V[(((i : Int) - k - 1) - ((a + 1 : Nat) : Int)).toNat] < 512 := by
                    have := xorV_lt hlt [(a : Int) + 1, ((i : Int) - k - 1) - ((a : Int) + 1)]
                    rw [e2] at this; omega
                  have hS3 : SN (S2.set (V[a + 1] ^^^ V[(((i : Int) - k - 1) - ((a + 1 : Nat) : Int)).toNat]) true) ((rawT c i k ++ mvB c[k] ((i : Int) - k - 1)) ++ splT ((i : Int) - k - 1) (a + 1)) V := by
                    rw [splT_succ, ← List.append_assoc, ← e2]
                    exact SN_snoc hS2 (by rw [e2]; exact hx3)
                  repeat' first | apply w_seq | apply w_block | apply rb_n | apply rb_ret | apply rb_eq | refine rb_ne (by rfl) ?_ | apply w_exit | apply rt_exit | apply w_region | apply l_nil | apply rt_n | apply w_ret | apply rt_ret | apply w_skip | refine w_cond_t rfl ?_ | refine w_cond_f rfl ?_ | ((first | refine w_cnd rfl ?_ ?_ | refine w_cd rfl ?_ ?_ | refine w_cn rfl ?_ ?_ | refine w_cond rfl ?_ ?_) <;> intro hc) | (exfalso; omega) | (refine l_o ?_; first | refine l_eqnil rfl (by kernel_rfl) (by intro b; simp only [nz]; rfl) (fun b hb => ?_) | refine l_op rfl (by first | (apply k_and; first | exact ops_andv (n := 4) rfl rfl hd (by omega) e4 | fail) | (apply k_mul; first | exact ops_muln (m := 2) (n := a + 1) rfl rfl (by omega) | fail) | (apply k_indexAddr; first | exact ops_idx_arr (len := 512) rfl rfl rfl hSne2 (by first | omega | exact hx3) rfl (by kernel_rfl) | fail) | fail) (hk := ?_) | refine l_op (hk := ?_) | (refine l_g ?_; first | refine l_y rfl rfl rfl ?_ | refine l_n rfl rfl rfl rfl (hk := ?_) | refine l_n' rfl rfl rfl (hk := ?_) | refine l_spnd rfl rfl rfl (h1 := fun hc => ?_) (h2 := fun hc => ?_) | refine l_spd rfl rfl rfl (h1 := fun hc => ?_) (h2 := fun hc => ?_) | refine l_spn rfl rfl rfl (h1 := fun hc => ?_) (h2 := fun hc => ?_) | refine l_sp rfl rfl rfl (h1 := fun hc => ?_) (h2 := fun hc => ?_))) | refine e_nil ?_ | (refine e_o ?_; first | refine e_fl rfl (by first | exact .pl (by first | (apply q_and; first | exact fs_andv (n := 4) rfl rfl hd (by omega) e4 | fail) | (apply q_mul; first | exact fs_muln (m := 2) (n := a + 1) rfl rfl (by omega) | fail) | (apply q_indexAddr; first | exact fs_idx_arr (len := 512) rfl rfl rfl rfl hSne2 (by first | omega | exact hx3) rfl (by kernel_rfl) | fail) | fail) | exact .ye rfl rfl rfl (by first | (apply q_and; first | exact fs_andv (n := 4) rfl rfl hd (by omega) e4 | fail) | (apply q_mul; first | exact fs_muln (m := 2) (n := a + 1) rfl rfl (by omega) | fail) | (apply q_indexAddr; first | exact fs_idx_arr (len := 512) rfl rfl rfl rfl hSne2 (by first | omega | exact hx3) rfl (by kernel_rfl) | fail) | fail) | fail) (hk := ?_) | refine e_fl (hk := ?_) | refine e_ef (hk := ?_) | (refine e_g ?_; first | refine e_spnd rfl rfl rfl (h1 := fun hc => ?_) (h2 := fun hc => ?_) | refine e_spd rfl rfl rfl (h1 := fun hc => ?_) (h2 := fun hc => ?_) | refine e_spn rfl rfl rfl (h1 := fun hc => ?_) (h2 := fun hc => ?_) | refine e_sp rfl rfl rfl (h1 := fun hc => ?_) (h2 := fun hc => ?_))) | (refine w_o ?_; first | refine w_drawS (id := 18) (rdP [(2, 14), (3, 14), (8, 14), (9, 14), (11, 8)]) (fun k => [12].contains k) [[]] (by kernel_rfl) rfl (by kernel_rfl) (by simp [nm, nset, -List.map_take, -List.map_drop]) ?_)
                  all_goals
                    refine rn_mk (a + 1, S2.set (V[a + 1] ^^^ V[(((i : Int) - k - 1) - ((a + 1 : Nat) : Int)).toNat]) true) ?_ (by first | omega | (dsimp only; omega)) (le_eq (by (repeat' first | exact .nil | refine .keep ?_ | refine .any ?_); first | done | fail) rfl rfl)
                    exact ⟨ha2, hS3⟩
                · have hb : ¬ (c[k] / 4 % 2 = 1 ∧ 2 * ((a : Int) + 1) ≤ ((i : Int) - k - 1)) := fun h => ha2 (hAa.1 h)
                  obtain rfl : a = T := by omega
                  repeat' first | apply w_seq | apply w_block | apply rb_n | apply rb_ret | apply rb_eq | refine rb_ne (by rfl) ?_ | apply w_exit | apply rt_exit | apply w_region | apply l_nil | apply rt_n | apply w_ret | apply rt_ret | apply w_skip | refine w_cond_t rfl ?_ | refine w_cond_f rfl ?_ | ((first | refine w_cnd rfl ?_ ?_ | refine w_cd rfl ?_ ?_ | refine w_cn rfl ?_ ?_ | refine w_cond rfl ?_ ?_) <;> intro hc) | (exfalso; omega) | (refine l_o ?_; first | refine l_eqnil rfl (by kernel_rfl) (by intro b; simp only [nz]; rfl) (fun b hb => ?_) | refine l_op rfl (by first | (apply k_and; first | exact ops_andv (n := 4) rfl rfl hd (by omega) e4 | fail) | (apply k_mul; first | exact ops_muln (m := 2) (n := a + 1) rfl rfl (by omega) | fail) | fail) (hk := ?_) | refine l_op (hk := ?_) | (refine l_g ?_; first | refine l_y rfl rfl rfl ?_ | refine l_n rfl rfl rfl rfl (hk := ?_) | refine l_n' rfl rfl rfl (hk := ?_) | refine l_spnd rfl rfl rfl (h1 := fun hc => ?_) (h2 := fun hc => ?_) | refine l_spd rfl rfl rfl (h1 := fun hc => ?_) (h2 := fun hc => ?_) | refine l_spn rfl rfl rfl (h1 := fun hc => ?_) (h2 := fun hc => ?_) | refine l_sp rfl rfl rfl (h1 := fun hc => ?_) (h2 := fun hc => ?_))) | refine d_nil ?_ | (refine d_o ?_; first | refine d_fl rfl (by first | exact .pl (by first | (apply q_and; first | exact fs_andv (n := 4) rfl rfl hd (by omega) e4 | fail) | (apply q_mul; first | exact fs_muln (m := 2) (n := a + 1) rfl rfl (by omega) | fail) | fail) | exact .ye rfl rfl rfl (by first | (apply q_and; first | exact fs_andv (n := 4) rfl rfl hd (by omega) e4 | fail) | (apply q_mul; first | exact fs_muln (m := 2) (n := a + 1) rfl rfl (by omega) | fail) | fail) | fail) (hk := ?_) | refine d_fl (hk := ?_) | refine d_ef (hk := ?_) | (refine d_g ?_; first | refine d_spnd rfl rfl rfl (h1 := fun hc => ?_) (h2 := fun hc => ?_) | refine d_spd rfl rfl rfl (h1 := fun hc => ?_) (h2 := fun hc => ?_) | refine d_spn rfl rfl rfl (h1 := fun hc => ?_) (h2 := fun hc => ?_) | refine d_sp rfl rfl rfl (h1 := fun hc => ?_) (h2 := fun hc => ?_))) | (refine w_o ?_; first | refine w_draw (id := 18) (fun _ => true) (fun k => [12].contains k) [[]] 64 (by kernel_rfl) rfl (by kernel_rfl) (by simp [nm, nset, -List.map_take, -List.map_drop]) ?_)
                  all_goals
                    refine rn_mk (k + 1, S2) ?_ (by first | omega | (dsimp only; omega)) (le_eq (by (repeat' first | exact .nil | refine .keep ?_ | refine .any ?_); first | done | fail) rfl rfl)
                    exact ⟨hk2, by rw [hrw, ← List.append_assoc]; exact hS2⟩
        · obtain rfl : k = c.length := by omega
          repeat' first | apply w_seq | apply w_block | apply rb_n | apply rb_ret | apply rb_eq | refine rb_ne (by rfl) ?_ | apply w_exit | apply rt_exit | apply w_region | apply l_nil | apply rt_n | apply w_ret | apply rt_ret | apply w_skip | refine w_cond_t rfl ?_ | refine w_cond_f rfl ?_ | ((first | refine w_cnd rfl ?_ ?_ | refine w_cd rfl ?_ ?_ | refine w_cn rfl ?_ ?_ | refine w_cond rfl ?_ ?_) <;> intro hc) | (exfalso; omega) | (refine l_o ?_; first | refine l_eqnil rfl (by kernel_rfl) (by intro b; simp only [nz]; rfl) (fun b hb => ?_) | refine l_op (hk := ?_) | (refine l_g ?_; first | refine l_y rfl rfl rfl ?_ | refine l_n rfl rfl rfl rfl (hk := ?_) | refine l_n' rfl rfl rfl (hk := ?_) | refine l_spnd rfl rfl rfl (h1 := fun hc => ?_) (h2 := fun hc => ?_) | refine l_spd rfl rfl rfl (h1 := fun hc => ?_) (h2 := fun hc => ?_) | refine l_spn rfl rfl rfl (h1 := fun hc => ?_) (h2 := fun hc => ?_) | refine l_sp rfl rfl rfl (h1 := fun hc => ?_) (h2 := fun hc => ?_))) | refine d_nil ?_ | (refine d_o ?_; first | refine d_fl (hk := ?_) | refine d_ef (hk := ?_) | (refine d_g ?_; first | refine d_spnd rfl rfl rfl (h1 := fun hc => ?_) (h2 := fun hc => ?_) | refine d_spd rfl rfl rfl (h1 := fun hc => ?_) (h2 := fun hc => ?_) | refine d_spn rfl rfl rfl (h1 := fun hc => ?_) (h2 := fun hc => ?_) | refine d_sp rfl rfl rfl (h1 := fun hc => ?_) (h2 := fun hc => ?_))) | (refine w_o ?_; first | refine w_draw (id := 18) (fun _ => true) (fun k => [12].contains k) [[]] 64 (by kernel_rfl) rfl (by kernel_rfl) (by simp [nm, nset, -List.map_take, -List.map_drop]) ?_)
          refine w_loopm (ι := Nat) (fun v => [(13, RVn v)]) (fun v => [(8, 1, S.map RVb), (14, 1, V.map RVn)]) (fun v => v ≤ 256 ∧ ∀ j, j < v → S.getD j false = true) (fun v => 256 - v) 0 (h0 := ?_) (hs := ?_) (round := ?_)
          · exact ⟨Nat.zero_le _, fun j hj => by omega⟩
          · refine le_eq (by (repeat' first | exact .nil | refine .keep ?_ | refine .any ?_); first | done | fail) rfl rfl
          · intro v ⟨hv, hb⟩
            have hSv : S.getD v false = S[v]'(by omega) := by simp [List.getD_eq_getElem?_getD, show v < S.length by omega]
            have hlow := SN_low hS hlt
            cases hSb : S[v]'(by omega) with
            | true =>
              rw [hSb] at hSv
              have hne : v ≠ 256 := fun e => by rw [e, hlow] at hSv; cases hSv
              repeat' first | apply w_seq | apply w_block | apply rb_n | apply rb_ret | apply rb_eq | refine rb_ne (by rfl) ?_ | apply w_exit | apply rt_exit | apply w_region | apply l_nil | apply rt_n | apply w_ret | apply rt_ret | apply w_skip | refine w_cond_t rfl ?_ | refine w_cond_f rfl ?_ | ((first | refine w_cnd rfl ?_ ?_ | refine w_cd rfl ?_ ?_ | refine w_cn rfl ?_ ?_ | refine w_cond rfl ?_ ?_) <;> intro hc) | (exfalso; omega) | (exfalso; rw [hSb] at hc; exact absurd hc (by decide)) | (refine l_o ?_; first | refine l_eqnil rfl (by kernel_rfl) (by intro b; simp only [nz]; rfl) (fun b hb => ?_) | refine l_op rfl (by first | (apply k_indexAddr; first | exact ops_idx_arr (len := 512) rfl rfl rfl hSne (by first | omega | exact Nat.lt_trans (hlt _ (List.getElem_mem _)) (by decide)) rfl (by kernel_rfl) | fail) | fail) (hk := ?_) | refine l_op (hk := ?_) | (refine l_g ?_; first | refine l_y rfl rfl rfl ?_ | refine l_n rfl rfl rfl rfl (hk := ?_) | refine l_n' rfl rfl rfl (hk := ?_) | refine l_spnd rfl rfl rfl (h1 := fun hc => ?_) (h2 := fun hc => ?_) | refine l_spd rfl rfl rfl (h1 := fun hc => ?_) (h2 := fun hc => ?_) | refine l_spn rfl rfl rfl (h1 := fun hc => ?_) (h2 := fun hc => ?_) | refine l_sp rfl rfl rfl (h1 := fun hc => ?_) (h2 := fun hc => ?_))) | refine d_nil ?_ | (refine d_o ?_; first | refine d_fl rfl (by first | exact .pl (by first | (apply q_indexAddr; first | exact fs_idx_arr (len := 512) rfl rfl rfl rfl hSne (by first | omega | exact Nat.lt_trans (hlt _ (List.getElem_mem _)) (by decide)) rfl (by kernel_rfl) | fail) | fail) | exact .ye rfl rfl rfl (by first | (apply q_indexAddr; first | exact fs_idx_arr (len := 512) rfl rfl rfl rfl hSne (by first | omega | exact Nat.lt_trans (hlt _ (List.getElem_mem _)) (by decide)) rfl (by kernel_rfl) | fail) | fail) | fail) (hk := ?_) | refine d_fl (hk := ?_) | refine d_ef (hk := ?_) | (refine d_g ?_; first | refine d_spnd rfl rfl rfl (h1 := fun hc => ?_) (h2 := fun hc => ?_) | refine d_spd rfl rfl rfl (h1 := fun hc => ?_) (h2 := fun hc => ?_) | refine d_spn rfl rfl rfl (h1 := fun hc => ?_) (h2 := fun hc => ?_) | refine d_sp rfl rfl rfl (h1 := fun hc => ?_) (h2 := fun hc => ?_))) | (refine w_o ?_; first | refine w_draw (id := 18) (fun _ => true) (fun k => [12].contains k) [[]] 64 (by kernel_rfl) rfl (by kernel_rfl) (by simp [nm, nset, -List.map_take, -List.map_drop]) ?_)
              refine rn_mk (v + 1) ?_ (by first | omega | (dsimp only; omega)) (le_eq (by (repeat' first | exact .nil | refine .keep ?_ | refine .any ?_); first | done | fail) rfl rfl)
              refine ⟨by omega, fun j hj => ?_⟩
              rcases Nat.lt_or_ge j v with h | h
              · exact hb j h
              · obtain rfl : j = v := by omega
                exact hSv
            | false =>
              rw [hSb] at hSv
              have hmx := SN_mex hS hb hSv
              rw [hmx] at hsuc hgi
              repeat' first | apply w_seq | apply w_block | apply rb_n | apply rb_ret | apply rb_eq | refine rb_ne (by rfl) ?_ | apply w_exit | apply rt_exit | apply w_region | apply l_nil | apply rt_n | apply w_ret | apply rt_ret | apply w_skip | refine w_cond_t rfl ?_ | refine w_cond_f rfl ?_ | ((first | refine w_cnd rfl ?_ ?_ | refine w_cd rfl ?_ ?_ | refine w_cn rfl ?_ ?_ | refine w_cond rfl ?_ ?_) <;> intro hc) | (exfalso; omega) | (exfalso; rw [hSb] at hc; exact absurd hc (by decide)) | (refine l_o ?_; first | refine l_eqnil rfl (by kernel_rfl) (by intro b; simp only [nz]; rfl) (fun b hb => ?_) | refine l_op rfl (by first | (apply k_indexAddr; first | exact ops_idx_arr (len := 512) rfl rfl rfl hSne (by first | omega | exact Nat.lt_trans (hlt _ (List.getElem_mem _)) (by decide)) rfl (by kernel_rfl) | fail) | fail) (hk := ?_) | refine l_op (hk := ?_) | (refine l_g ?_; first | refine l_y rfl rfl rfl ?_ | refine l_n rfl rfl rfl rfl (hk := ?_) | refine l_n' rfl rfl rfl (hk := ?_) | refine l_spnd rfl rfl rfl (h1 := fun hc => ?_) (h2 := fun hc => ?_) | refine l_spd rfl rfl rfl (h1 := fun hc => ?_) (h2 := fun hc => ?_) | refine l_spn rfl rfl rfl (h1 := fun hc => ?_) (h2 := fun hc => ?_) | refine l_sp rfl rfl rfl (h1 := fun hc => ?_) (h2 := fun hc => ?_))) | refine d_nil ?_ | (refine d_o ?_; first | refine d_fl rfl (by first | exact .pl (by first | (apply q_indexAddr; first | exact fs_idx_arr (len := 512) rfl rfl rfl rfl hSne (by first | omega | exact Nat.lt_trans (hlt _ (List.getElem_mem _)) (by decide)) rfl (by kernel_rfl) | fail) | fail) | exact .ye rfl rfl rfl (by first | (apply q_indexAddr; first | exact fs_idx_arr (len := 512) rfl rfl rfl rfl hSne (by first | omega | exact Nat.lt_trans (hlt _ (List.getElem_mem _)) (by decide)) rfl (by kernel_rfl) | fail) | fail) | fail) (hk := ?_) | refine d_fl (hk := ?_) | refine d_ef (hk := ?_) | (refine d_g ?_; first | refine d_spnd rfl rfl rfl (h1 := fun hc => ?_) (h2 := fun hc => ?_) | refine d_spd rfl rfl rfl (h1 := fun hc => ?_) (h2 := fun hc => ?_) | refine d_spn rfl rfl rfl (h1 := fun hc => ?_) (h2 := fun hc => ?_) | refine d_sp rfl rfl rfl (h1 := fun hc => ?_) (h2 := fun hc => ?_))) | (refine w_o ?_; first | refine w_draw (id := 18) (fun _ => true) (fun k => [12].contains k) [[]] 64 (by kernel_rfl) rfl (by kernel_rfl) (by simp [nm, nset, -List.map_take, -List.map_drop]) ?_)
              rw [← hsuc]
              refine rn_mk (i + 1) ?_ (by first | omega | (dsimp only; omega)) (le_dropd 8 (by simp only [nz]; rfl) (by simp only [nz, reduceIte, Nat.reduceEqDiff] <;> rfl) (le_eq (by (repeat' first | exact .nil | refine .keep ?_ | refine .any ?_); first | done | fail) rfl rfl))
              exact hi2

    · obtain rfl : i = n + 1 := by omega
      repeat' first | apply w_seq | apply w_block | apply rb_n | apply rb_ret | apply rb_eq | refine rb_ne (by rfl) ?_ | apply w_exit | apply rt_exit | apply w_region | apply l_nil | apply rt_n | apply w_ret | apply rt_ret | apply w_skip | refine w_cond_t rfl ?_ | refine w_cond_f rfl ?_ | ((first | refine w_cnd rfl ?_ ?_ | refine w_cd rfl ?_ ?_ | refine w_cn rfl ?_ ?_ | refine w_cond rfl ?_ ?_) <;> intro hc) | (exfalso; omega) | (refine l_o ?_; first | refine l_eqnil rfl (by kernel_rfl) (by intro b; simp only [nz]; rfl) (fun b hb => ?_) | refine l_op (hk := ?_) | (refine l_g ?_; first | refine l_y rfl rfl rfl ?_ | refine l_n rfl rfl rfl rfl (hk := ?_) | refine l_n' rfl rfl rfl (hk := ?_) | refine l_spnd rfl rfl rfl (h1 := fun hc => ?_) (h2 := fun hc => ?_) | refine l_spd rfl rfl rfl (h1 := fun hc => ?_) (h2 := fun hc => ?_) | refine l_spn rfl rfl rfl (h1 := fun hc => ?_) (h2 := fun hc => ?_) | refine l_sp rfl rfl rfl (h1 := fun hc => ?_) (h2 := fun hc => ?_))) | refine d_nil ?_ | (refine d_o ?_; first | refine d_fl (hk := ?_) | refine d_ef (hk := ?_) | (refine d_g ?_; first | refine d_spnd rfl rfl rfl (h1 := fun hc => ?_) (h2 := fun hc => ?_) | refine d_spd rfl rfl rfl (h1 := fun hc => ?_) (h2 := fun hc => ?_) | refine d_spn rfl rfl rfl (h1 := fun hc => ?_) (h2 := fun hc => ?_) | refine d_sp rfl rfl rfl (h1 := fun hc => ?_) (h2 := fun hc => ?_))) | (refine w_o ?_; first | refine w_draw (id := 18) (fun _ => true) (fun k => [12].contains k) [[]] 64 (by kernel_rfl) rfl (by kernel_rfl) (by simp [nm, nset, -List.map_take, -List.map_drop]) ?_)
      refine en_end (hf := Tryz.results60) (hr := ?_); simp only [ne, nf, nl, nr, lget, reduceIte, Nat.reduceEqDiff]; first | rfl | refine congrArg RVb ?_ | refine congrArg RVi ?_ | skip
end Go.Proofs.YtmfbcipjknjicaaGreatDoor
