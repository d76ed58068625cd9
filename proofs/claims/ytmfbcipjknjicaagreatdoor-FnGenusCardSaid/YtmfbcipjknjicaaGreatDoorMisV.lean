/- The program's misere values, with what it has kept. For all positions of the sizes that the theorem names. -/
import Derived.Test.YtmfbcipjknjicaaGreatDoorJ35
namespace Go.Proofs.YtmfbcipjknjicaaGreatDoor
set_option linter.unusedSectionVars false
variable [One Bool]
open Eng
attribute [local irreducible] OpS OpG FC FCr Rel Fl Ef DR Fs
attribute [local simp] RV.fzR_names
set_option linter.unusedSimpArgs false
set_option linter.unusedVariables false
set_option maxHeartbeats 0
set_option maxRecDepth 100000

abbrev Mem := List (List UInt8 × Int)
def VC (c : List Int) (h : List Int) (t o : Nat) (m m' : Mem) : Prop := ∀ b : Nat, FC Tryz.prog 51 [.agg [RIs c, .v (.map (some b))], RIs h, RVn t, RVn o] [(1000000000000, 0, MSI b m)] fun rv O => rv = RVi (mv c h t o) ∧ O = [(1000000000000, 0, MSI b m')]
theorem memOk_put {c h : List Int} {t o : Nat} {m : Mem} (hm : memOk c m) (hv : vld h t o) : memOk c (sput2 m (keyT h t o) (mv c h t o)) := by
  refine ⟨once_put hm.1 _ _, fun p hp => ?_⟩
  unfold sput2 at hp
  split at hp
  · obtain ⟨q, hq, e⟩ := List.mem_map.1 hp
    split at e
    · subst e; exact ⟨h, t, o, hv, rfl, rfl⟩
    · subst e; exact hm.2 _ hq
  · rcases List.mem_append.1 hp with hp | hp
    · exact hm.2 _ hp
    · rw [List.mem_singleton.1 hp]; exact ⟨h, t, o, hv, rfl, rfl⟩
theorem value_hit {c h : List Int} {t o : Nat} {m : Mem} {b : Nat} {r : Int} (hv : vld h t o) (hO : Once m) (hr : m.lookup (keyT h t o) = some r) : FC Tryz.prog 51 [.agg [RIs c, .v (.map (some b))], RIs h, RVn t, RVn o] [(1000000000000, 0, MSI b m)] fun rv O => rv = RVi r ∧ O = [(1000000000000, 0, MSI b m)] := by
  obtain ⟨ht, ho, hl, hx⟩ := vld_le hv
  have hK := keyOf_ok h t o (by omega) (by omega) hx hl
  have h1 : (m.lookup (keyT h t o)).getD 0 = r := by rw [hr]; rfl
  have h2 : (m.lookup (keyT h t o)).isSome = true := by rw [hr]; rfl
  generalize keyT h t o = K at *
  refine (fc_in Tryz.func51 rfl (by simp only [Tryz.ntmps51, anys, List.length_cons, List.length_nil, Nat.reduceAdd, Nat.reduceSub, List.replicate_succ, List.replicate_zero, List.cons_append, List.nil_append] <;> rfl) ?_)
  repeat' first | apply w_seq | apply w_block | apply rb_n | apply rb_ret | apply rb_eq | refine rb_ne (by rfl) ?_ | apply w_exit | apply rt_exit | apply w_region | apply l_nil | apply rt_n | apply w_ret | apply rt_ret | apply w_skip | refine w_cond_t rfl ?_ | refine w_cond_f rfl ?_ | ((first | refine w_cnd rfl ?_ ?_ | refine w_cd rfl ?_ ?_ | refine w_cn rfl ?_ ?_ | refine w_cond rfl ?_ ?_) <;> intro hc) | (refine l_o ?_; first | refine l_op rfl (by first | (apply k_lookup; first | exact ops_getSIv (n := 1000000000000) hO rfl rfl rfl Tryz.underlying54 Tryz.underlying9 (by kernel_rfl) h1 h2 | fail) | (apply k_callf; first | exact ops_callf (d := 19) (hfc := hK) | fail) | fail) (hk := ?_) | refine l_op (hk := ?_)) | refine d_nil ?_ | (refine d_o ?_; first | refine d_fl rfl (by first | exact .pl (by first | (apply q_lookup; first | exact fs_getSIv (n := 1000000000000) hO rfl rfl rfl Tryz.underlying54 Tryz.underlying9 (by kernel_rfl) h1 h2 | fail) | fail) | fail) (hk := ?_) | refine d_fl (hk := ?_) | refine d_ef rfl (by first | exact .callf (d := 19) (hfc := hK) | fail) (hk := ?_) | refine d_ef (hk := ?_)) | (refine w_o ?_; first | refine w_draw (id := 12) (fun _ => true) (fun k => [6, 13, 14, 15].contains k) [[], [], [], []] 64 (by kernel_rfl) rfl (by kernel_rfl) (by simp [nm, nset, -List.map_take, -List.map_drop]) ?_)
  exact en_m (junk := [(4, 2, [RV.agg [RIs c, RV.v (Value.map (some b))]])]) (.inl rfl) Tryz.results51 rfl rfl rfl rfl
def memL (nx : List Int → Nat → Nat → Mem → Mem) (t o : Nat) (l : List (List Int)) (m : Mem) : Mem := l.foldl (fun m p => nx p t o m) m
theorem memL_succ {nx : List Int → Nat → Nat → Mem → Mem} {t o : Nat} {l : List (List Int)} {m : Mem} {k : Nat} (hk : k < l.length) : memL nx t o (l.take (k + 1)) m = nx l[k] t o (memL nx t o (l.take k) m) := by
  rw [List.take_succ_eq_append_getElem hk, memL, List.foldl_append]
  rfl
theorem optM_iff {c h : List Int} {t o : Nat} (hh : posH h) {l : List Int} (hl : ∀ x, x ∈ l ↔ x ∈ (rch c h).map (fun p => mv c p t o) ++ (if 0 < t then [mv c h (t - 1) o, mv c h (t - 1) (o + 1)] else []) ++ (if 0 < o then [mv c h t (o - 1)] else [])) : mexO l = mv c h t o := by
  rw [mv_eq hh]
  apply mexO_congr
  intro x
  rw [hl]
  unfold optM
  simp only [List.mem_append, List.mem_map, rch_iff]
theorem value_miss {c h : List Int} {t o : Nat} {m : Mem} {b : Nat} (hc : gcode c = true) (hv : vld h t o) (hm : memOk c m) (hr : m.lookup (keyT h t o) = none) (nx : List Int → Nat → Nat → Mem → Mem)
    (hnx : ∀ p t' o' m, vld p t' o' → msH p t' o' < msH h t o → memOk c m → memOk c (nx p t' o' m) ∧ VC c p t' o' m (nx p t' o' m)) (m1 m2 m3 : Mem) (e1 : m1 = memL nx t o (rch c h) m)
    (e2 : m2 = if 0 < t then nx h (t - 1) (o + 1) (nx h (t - 1) o m1) else m1) (e3 : m3 = if 0 < o then nx h t (o - 1) m2 else m2) :
    memOk c m3 ∧ FC Tryz.prog 51 [.agg [RIs c, .v (.map (some b))], RIs h, RVn t, RVn o] [(1000000000000, 0, MSI b m)] fun rv O => rv = RVi (mv c h t o) ∧ O = [(1000000000000, 0, MSI b (sput2 m3 (keyT h t o) (mv c h t o)))] := by
  obtain ⟨ht, ho, hl, hx⟩ := vld_le hv
  have hK := keyOf_ok h t o (by omega) (by omega) hx hl
  have h1 : (m.lookup (keyT h t o)).getD 0 = 0 := by rw [hr]; rfl
  have h2 : (m.lookup (keyT h t o)).isSome = false := by rw [hr]; rfl
  have hR := reached_ok c h hc (by omega) (fun x hxx => by have := (hx x hxx).2; omega)
  rw [fillH_id hv.1.1] at hR
  have hrl : (rch c h).length ≤ 20000 := by
    have h5 := vis_len (gcode_len hc).2 h h.length (fun x hxx => by have := (hx x hxx).2; omega) (Nat.le_refl _)
    have h6 := ordH_len (vis c h)
    unfold rch; unfold vis at h6 ⊢; omega
  have hrv : ∀ p ∈ rch c h, vld p t o ∧ msH p t o < msH h t o := fun p hp => by
    have hp := rch_iff.1 hp
    have := vis_mem hv.1 hp
    have h3 := sum_nn hv.1.1
    have h4 := sum_nn this.1.1
    exact ⟨vld_vis hv hp, by unfold msH; omega⟩
  have hoj := @optM_iff _ c h t o hv.1
  generalize keyT h t o = K at *
  generalize mv c h t o = V at *
  have hm1 : memOk c m1 ∧ ∀ k, k ≤ (rch c h).length → memOk c (memL nx t o ((rch c h).take k) m) := by
    have hk : ∀ k, k ≤ (rch c h).length → memOk c (memL nx t o ((rch c h).take k) m) := by
      intro k
      induction k with
      | zero => intro _; simpa [memL] using hm
      | succ k ih =>
        intro hk
        rw [memL_succ (by omega)]
        have := hrv _ (List.getElem_mem (show k < (rch c h).length by omega))
        exact (hnx _ _ _ _ this.1 this.2 (ih (by omega))).1
    refine ⟨?_, hk⟩
    have := hk _ (Nat.le_refl _)
    rw [List.take_length] at this
    rw [e1]; exact this
  obtain ⟨hm1, hmk⟩ := hm1
  have hs := sum_nn hv.1.1
  have hm2a : 0 < t → memOk c (nx h (t - 1) o m1) ∧ VC c h (t - 1) o m1 (nx h (t - 1) o m1) := fun h0 => hnx _ _ _ _ (vld_t1 hv h0).1 (by unfold msH; omega) hm1
  have hm2b : 0 < t → memOk c (nx h (t - 1) (o + 1) (nx h (t - 1) o m1)) ∧ VC c h (t - 1) (o + 1) (nx h (t - 1) o m1) (nx h (t - 1) (o + 1) (nx h (t - 1) o m1)) := fun h0 => hnx _ _ _ _ (vld_t1 hv h0).2 (by unfold msH; omega) (hm2a h0).1
  have hm2 : memOk c m2 := by
    rw [e2]; split
    · rename_i h0; exact (hm2b h0).1
    · exact hm1
  have hm3a : 0 < o → memOk c (nx h t (o - 1) m2) ∧ VC c h t (o - 1) m2 (nx h t (o - 1) m2) := fun h0 => hnx _ _ _ _ (vld_o1 hv h0) (by unfold msH; omega) hm2
  have hm3 : memOk c m3 := by
    rw [e3]; split
    · rename_i h0; exact (hm3a h0).1
    · exact hm2
  refine ⟨hm3, ?_⟩
  refine (fc_in Tryz.func51 rfl (by simp only [Tryz.ntmps51, anys, List.length_cons, List.length_nil, Nat.reduceAdd, Nat.reduceSub, List.replicate_succ, List.replicate_zero, List.cons_append, List.nil_append] <;> rfl) ?_)
  repeat' first | apply w_seq | apply w_block | apply rb_n | apply rb_ret | apply rb_eq | refine rb_ne (by rfl) ?_ | apply w_exit | apply rt_exit | apply w_region | apply l_nil | apply rt_n | apply w_ret | apply rt_ret | apply w_skip | refine w_cond_t rfl ?_ | refine w_cond_f rfl ?_ | ((first | refine w_cnd rfl ?_ ?_ | refine w_cd rfl ?_ ?_ | refine w_cn rfl ?_ ?_ | refine w_cond rfl ?_ ?_) <;> intro hc) | (refine l_o ?_; first | refine l_op rfl (by first | (apply k_lookup; first | exact ops_getSIv (n := 1000000000000) hm.1 rfl rfl rfl Tryz.underlying54 Tryz.underlying9 (by kernel_rfl) h1 h2 | fail) | (apply k_callf; first | exact ops_callf (d := 19) (hfc := hK) | exact ops_callf (d := 33) (hfc := hR) | fail) | fail) (hk := ?_) | refine l_op (hk := ?_)) | refine d_nil ?_ | (refine d_o ?_; first | refine d_fl rfl (by first | exact .pl (by first | (apply q_lookup; first | exact fs_getSIv (n := 1000000000000) hm.1 rfl rfl rfl Tryz.underlying54 Tryz.underlying9 (by kernel_rfl) h1 h2 | fail) | fail) | fail) (hk := ?_) | refine d_fl (hk := ?_) | refine d_ef rfl (by first | exact .callf (d := 19) (hfc := hK) | exact .callf (d := 33) (hfc := hR) | fail) (hk := ?_) | refine d_ef (hk := ?_)) | (refine w_o ?_; first | refine w_draw (id := 12) (fun _ => true) (fun k => [6, 13, 14, 15].contains k) [[], [], [], []] 64 (by kernel_rfl) rfl (by kernel_rfl) (by simp [nm, nset, -List.map_take, -List.map_drop]) ?_)
  refine w_loopm (ι := Nat × List Int × Mem) (fun q => [(35, RVn q.1), (12, .ref 29 0 q.2.1.length), (29, .any)]) (fun q => [(29, 1, q.2.1.map RVi), (4, 2, [RV.agg [RIs c, RV.v (Value.map (some b))]]), (1000000000000, 0, MSI b q.2.2)]) (fun q => q.1 ≤ (rch c h).length ∧ q.2.1.length = q.1 ∧ q.2.1 = ((rch c h).take q.1).map (fun p => mv c p t o) ∧ q.2.2 = memL nx t o ((rch c h).take q.1) m) (fun q => (rch c h).length - q.1) (0, [], m) (h0 := ?_) (hs := ?_) (round := ?_)
  · exact ⟨Nat.zero_le _, rfl, rfl, rfl⟩
  · refine le_eq (by (repeat' first | exact .nil | refine .keep ?_ | refine .any ?_); first | done | fail) rfl rfl
  · intro ⟨k, L, M⟩ ⟨hk, hLl, hL, hM⟩
    dsimp only at hk hLl hL hM ⊢
    by_cases hk2 : k < (rch c h).length
    · have hp := hrv _ (List.getElem_mem hk2)
      have hq := hnx _ t o M hp.1 hp.2 (hM ▸ hmk k hk)
      have hcall := hq.2 b
      repeat' first | apply w_seq | apply w_block | apply rb_n | apply rb_ret | apply rb_eq | refine rb_ne (by rfl) ?_ | apply w_exit | apply rt_exit | apply w_region | apply l_nil | apply rt_n | apply w_ret | apply rt_ret | apply w_skip | refine w_cond_t rfl ?_ | refine w_cond_f rfl ?_ | ((first | refine w_cnd rfl ?_ ?_ | refine w_cd rfl ?_ ?_ | refine w_cn rfl ?_ ?_ | refine w_cond rfl ?_ ?_) <;> intro hc) | (exfalso; omega) | (refine l_o ?_; first | refine l_op rfl (by first | (apply k_callf; first | exact ops_callP (d := 44) 1000000000000 (MSI b (nx (rch c h)[k] t o M)) (hfc := hcall) | fail) | fail) (hk := ?_) | refine l_op (hk := ?_)) | refine d_nil ?_ | (refine d_o ?_; first | refine d_fl (hk := ?_) | refine d_ef rfl (by first | exact .callP (d := 44) 1000000000000 (MSI b (nx (rch c h)[k] t o M)) (hfc := hcall) | fail) (hk := ?_) | refine d_ef (hk := ?_)) | (refine w_o ?_; first | refine w_draw (id := 12) (fun _ => true) (fun k => [6, 13, 14, 15].contains k) [[], [], [], []] 64 (by kernel_rfl) rfl (by kernel_rfl) (by simp [nm, nset, -List.map_take, -List.map_drop]) ?_)
      refine rn_mk (k + 1, L ++ [mv c (rch c h)[k] t o], nx (rch c h)[k] t o M) ?_ (by first | omega | (dsimp only; omega)) (le_eq (by (repeat' first | exact .nil | refine .keep ?_ | refine .any ?_); first | done | fail) rfl rfl)
      refine ⟨hk2, by dsimp only; simp; omega, ?_, ?_⟩
      · dsimp only
        rw [hL, List.take_succ_eq_append_getElem hk2, List.map_append]; rfl
      · dsimp only
        rw [memL_succ hk2, hM]
    · obtain rfl : k = (rch c h).length := by omega
      rw [List.take_length] at hL hM
      have hM : M = m1 := by rw [hM, e1]
      subst hM
      clear hk2 hk hmk hrv hR hK hnx
      have hMex : ∀ l : List Int, l ≠ [] → l.length ≤ 1048576 → mexO l = V → FCr Tryz.prog 82 [RIs l] (RVi V) := fun l hn hl e => by
        have h := mexOf_ok l hl
        unfold mexO at e; rw [if_neg hn] at e; rw [e] at h; exact h
      have hLl2 : L.length ≤ 20000 := by omega
      have hoz : ((o - 1 : Nat) : Int) = (o : Int) - 1 ∨ o = 0 := by omega
      repeat' first | apply w_seq | apply w_block | apply rb_n | apply rb_ret | apply rb_eq | refine rb_ne (by rfl) ?_ | apply w_exit | apply rt_exit | apply w_region | apply l_nil | apply rt_n | apply w_ret | apply rt_ret | apply w_skip | refine w_cond_t rfl ?_ | refine w_cond_f rfl ?_ | ((first | refine w_cnd rfl ?_ ?_ | refine w_cd rfl ?_ ?_ | refine w_cn rfl ?_ ?_ | refine w_cond rfl ?_ ?_) <;> intro hc) | (exfalso; omega) | (refine l_o ?_; first | refine l_op (hk := ?_)) | refine d_nil ?_ | (refine d_o ?_; first | refine d_fl (hk := ?_) | refine d_ef (hk := ?_)) | (refine w_o ?_; first | refine w_draw (id := 12) (roL [4]) (fun k => [6, 13, 14, 15, 16].contains k) [[],[],[64],[65],[]] 64 (by kernel_rfl) rfl (by kernel_rfl) (by simp [nm, nset, -List.map_take, -List.map_drop]) ?_)
      · have ht0 : 0 < t := by omega
        have ha := (hm2a (by omega)).2 b
        have hb := (hm2b (by omega)).2 b
        generalize nx h (t - 1) o M = Ma at *
        generalize nx h (t - 1) (o + 1) Ma = Mb at *
        rw [if_pos ht0] at e2
        subst e2
        have ha : FC Tryz.prog 51 [.agg [RIs c, .v (.map (some b))], RIs h, RVi ((t : Int) - 1), RVn o] [(1000000000000, 0, MSI b M)] fun rv O => rv = RVi (mv c h (t - 1) o) ∧ O = [(1000000000000, 0, MSI b Ma)] := by
          have e : ((t - 1 : Nat) : Int) = (t : Int) - 1 := by omega
          rw [← e]; exact ha
        have hb : FC Tryz.prog 51 [.agg [RIs c, .v (.map (some b))], RIs h, RVi ((t : Int) - 1), RVn (o + 1)] [(1000000000000, 0, MSI b Ma)] fun rv O => rv = RVi (mv c h (t - 1) (o + 1)) ∧ O = [(1000000000000, 0, MSI b m2)] := by
          have e : ((t - 1 : Nat) : Int) = (t : Int) - 1 := by omega
          rw [← e]; exact hb
        rw [if_pos ht0, ← hL] at hoj
        repeat' first | apply w_seq | apply w_block | apply rb_n | apply rb_ret | apply rb_eq | refine rb_ne (by rfl) ?_ | apply w_exit | apply rt_exit | apply w_region | apply l_nil | apply rt_n | apply w_ret | apply rt_ret | apply w_skip | refine w_cond_t rfl ?_ | refine w_cond_f rfl ?_ | ((first | refine w_cnd rfl ?_ ?_ | refine w_cd rfl ?_ ?_ | refine w_cn rfl ?_ ?_ | refine w_cond rfl ?_ ?_) <;> intro hc) | (exfalso; omega) | (refine l_o ?_; first | refine l_op rfl (by first | (apply k_callf; first | exact ops_callP (d := 56) 1000000000000 (MSI b Ma) (hfc := ha) | exact ops_callP (d := 63) 1000000000000 (MSI b m2) (hfc := hb) | fail) | fail) (hk := ?_) | refine l_op (hk := ?_)) | refine d_nil ?_ | (refine d_o ?_; first | refine d_fl (hk := ?_) | refine d_ef rfl (by first | exact .callP (d := 56) 1000000000000 (MSI b Ma) (hfc := ha) | exact .callP (d := 63) 1000000000000 (MSI b m2) (hfc := hb) | fail) (hk := ?_) | refine d_ef (hk := ?_)) | (refine w_o ?_; first | refine w_draw (id := 12) (fun _ => true) (fun k => [6, 13, 14, 15].contains k) [[], [], [], []] 64 (by kernel_rfl) rfl (by kernel_rfl) (by simp [nm, nset, -List.map_take, -List.map_drop]) ?_)
        · have ho0 : 0 < o := by omega
          have hd := (hm3a ho0).2 b
          rw [if_pos ho0] at hoj e3
          have hd : FC Tryz.prog 51 [.agg [RIs c, .v (.map (some b))], RIs h, RVn t, RVi ((o : Int) - 1)] [(1000000000000, 0, MSI b m2)] fun rv O => rv = RVi (mv c h t (o - 1)) ∧ O = [(1000000000000, 0, MSI b m3)] := by
            have e : ((o - 1 : Nat) : Int) = (o : Int) - 1 := by omega
            rw [← e, e3]; exact hd
          have hme    := hMex (L ++ [mv c h (t - 1) o, mv c h (t - 1) (o + 1)] ++ [mv c h t (o - 1)]) (by simp) (by simp; omega) (hoj fun x => Iff.rfl)
          have hcat : List.map RVi L ++ [RVi (mv c h (t - 1) o), RVi (mv c h (t - 1) (o + 1))] ++ [RVi (mv c h t (o - 1))] = List.map RVi (L ++ [mv c h (t - 1) o, mv c h (t - 1) (o + 1)] ++ [mv c h t (o - 1)]) := by simp
          have hn0 : 0 < (L ++ [mv c h (t - 1) o, mv c h (t - 1) (o + 1)] ++ [mv c h t (o - 1)]).length := by simp
          generalize L ++ [mv c h (t - 1) o, mv c h (t - 1) (o + 1)] ++ [mv c h t (o - 1)] = L2 at *
          repeat' first | apply w_seq | apply w_block | apply rb_n | apply rb_ret | apply rb_eq | refine rb_ne (by rfl) ?_ | apply w_exit | apply rt_exit | apply w_region | apply l_nil | apply rt_n | apply w_ret | apply rt_ret | apply w_skip | refine w_cond_t rfl ?_ | refine w_cond_f rfl ?_ | ((first | refine w_cnd rfl ?_ ?_ | refine w_cd rfl ?_ ?_ | refine w_cn rfl ?_ ?_ | refine w_cond rfl ?_ ?_) <;> intro hc) | (exfalso; omega) | (refine l_o ?_; first | refine l_op rfl (by first | (apply k_callf; first | exact ops_callP (d := 74) 1000000000000 (MSI b m3) (hfc := hd) | fail) | fail) (hk := ?_) | refine l_op (hk := ?_)) | refine d_nil ?_ | (refine d_o ?_; first | refine d_fl (hk := ?_) | refine d_ef rfl (by first | exact .callP (d := 74) 1000000000000 (MSI b m3) (hfc := hd) | fail) (hk := ?_) | refine d_ef (hk := ?_)) | (refine w_o ?_; first | refine w_draw (id := 12) (fun _ => true) (fun k => [6, 13, 14, 15].contains k) [[], [], [], []] 64 (by kernel_rfl) rfl (by kernel_rfl) (by simp [nm, nset, -List.map_take, -List.map_drop]) ?_)
          all_goals (try rw [hcat] at hc)
          all_goals rw [hcat]
          · repeat' first | apply w_seq | apply w_block | apply rb_n | apply rb_ret | apply rb_eq | refine rb_ne (by rfl) ?_ | apply w_exit | apply rt_exit | apply w_region | apply l_nil | apply rt_n | apply w_ret | apply rt_ret | apply w_skip | refine w_cond_t rfl ?_ | refine w_cond_f rfl ?_ | ((first | refine w_cnd rfl ?_ ?_ | refine w_cd rfl ?_ ?_ | refine w_cn rfl ?_ ?_ | refine w_cond rfl ?_ ?_) <;> intro hc) | (exfalso; omega) | (refine l_o ?_; first | refine l_op rfl (by first | (apply k_mapUpdate; first | exact ops_putSI (n := 1000000000000) (val := V) hm3.1 rfl rfl rfl rfl Tryz.underlying54 Tryz.underlying9 | fail) | (apply k_callf; first | exact ops_callz (d := 81) (hfc := hme) | fail) | fail) (hk := ?_) | refine l_op (hk := ?_)) | refine d_nil ?_ | (refine d_o ?_; first | refine d_fl rfl (by first | exact .pl (by first | (apply q_mapUpdate; first | exact fs_putSI (n := 1000000000000) (val := V) hm3.1 rfl rfl rfl rfl Tryz.underlying54 Tryz.underlying9 | fail) | fail) | fail) (hk := ?_) | refine d_fl (hk := ?_) | refine d_ef rfl (by first | exact .callz (d := 81) (hfc := hme) | fail) (hk := ?_) | refine d_ef (hk := ?_)) | (refine w_o ?_; first | refine w_draw (id := 12) (fun _ => true) (fun k => [6, 13, 14, 15].contains k) [[], [], [], []] 64 (by kernel_rfl) rfl (by kernel_rfl) (by simp [nm, nset, -List.map_take, -List.map_drop]) ?_)
            exact en_m (junk := [(65, 1, List.map RVi L2), (4, 2, [RV.agg [RIs c, RV.v (Value.map (some b))]])]) (.inl rfl) Tryz.results51 rfl rfl rfl rfl
          · exact absurd (by rw [List.length_map]; omega) hc
        · have ho0 : ¬ 0 < o := by omega
          rw [if_neg ho0] at hoj e3
          rw [List.append_nil] at hoj
          subst e3
          have hme    := hMex (L ++ [mv c h (t - 1) o, mv c h (t - 1) (o + 1)]) (by simp) (by simp; omega) (hoj fun x => Iff.rfl)
          have hcat : List.map RVi L ++ [RVi (mv c h (t - 1) o), RVi (mv c h (t - 1) (o + 1))] = List.map RVi (L ++ [mv c h (t - 1) o, mv c h (t - 1) (o + 1)]) := by simp
          generalize L ++ [mv c h (t - 1) o, mv c h (t - 1) (o + 1)] = L2 at *
          rw [hcat]
          repeat' first | apply w_seq | apply w_block | apply rb_n | apply rb_ret | apply rb_eq | refine rb_ne (by rfl) ?_ | apply w_exit | apply rt_exit | apply w_region | apply l_nil | apply rt_n | apply w_ret | apply rt_ret | apply w_skip | refine w_cond_t rfl ?_ | refine w_cond_f rfl ?_ | ((first | refine w_cnd rfl ?_ ?_ | refine w_cd rfl ?_ ?_ | refine w_cn rfl ?_ ?_ | refine w_cond rfl ?_ ?_) <;> intro hc) | (exfalso; omega) | (refine l_o ?_; first | refine l_op rfl (by first | (apply k_mapUpdate; first | exact ops_putSI (n := 1000000000000) (val := V) hm3.1 rfl rfl rfl rfl Tryz.underlying54 Tryz.underlying9 | fail) | (apply k_callf; first | exact ops_callz (d := 81) (hfc := hme) | fail) | fail) (hk := ?_) | refine l_op (hk := ?_)) | refine d_nil ?_ | (refine d_o ?_; first | refine d_fl rfl (by first | exact .pl (by first | (apply q_mapUpdate; first | exact fs_putSI (n := 1000000000000) (val := V) hm3.1 rfl rfl rfl rfl Tryz.underlying54 Tryz.underlying9 | fail) | fail) | fail) (hk := ?_) | refine d_fl (hk := ?_) | refine d_ef rfl (by first | exact .callz (d := 81) (hfc := hme) | fail) (hk := ?_) | refine d_ef (hk := ?_)) | (refine w_o ?_; first | refine w_draw (id := 12) (fun _ => true) (fun k => [6, 13, 14, 15].contains k) [[], [], [], []] 64 (by kernel_rfl) rfl (by kernel_rfl) (by simp [nm, nset, -List.map_take, -List.map_drop]) ?_)
          exact en_m (junk := [(65, 1, List.map RVi L2), (4, 2, [RV.agg [RIs c, RV.v (Value.map (some b))]])]) (.inl rfl) Tryz.results51 rfl rfl rfl rfl
        · exact absurd (by simp; omega) hc
      · have ht0 : ¬ 0 < t := by omega
        have ho0 : 0 < o := by omega
        rw [if_neg ht0] at e2 hoj
        rw [List.append_nil, ← hL, if_pos ho0] at hoj
        subst e2
        have hd := (hm3a ho0).2 b
        rw [if_pos ho0] at e3
        have hd : FC Tryz.prog 51 [.agg [RIs c, .v (.map (some b))], RIs h, RVn t, RVi ((o : Int) - 1)] [(1000000000000, 0, MSI b m2)] fun rv O => rv = RVi (mv c h t (o - 1)) ∧ O = [(1000000000000, 0, MSI b m3)] := by
          have e : ((o - 1 : Nat) : Int) = (o : Int) - 1 := by omega
          rw [← e, e3]; exact hd
        have hme    := hMex (L ++ [mv c h t (o - 1)]) (by simp) (by simp; omega) (hoj fun x => Iff.rfl)
        have hn0 : 0 < (L ++ [mv c h t (o - 1)]).length := by simp
        repeat' first | apply w_seq | apply w_block | apply rb_n | apply rb_ret | apply rb_eq | refine rb_ne (by rfl) ?_ | apply w_exit | apply rt_exit | apply w_region | apply l_nil | apply rt_n | apply w_ret | apply rt_ret | apply w_skip | refine w_cond_t rfl ?_ | refine w_cond_f rfl ?_ | ((first | refine w_cnd rfl ?_ ?_ | refine w_cd rfl ?_ ?_ | refine w_cn rfl ?_ ?_ | refine w_cond rfl ?_ ?_) <;> intro hc) | (exfalso; omega) | (refine l_o ?_; first | refine l_op rfl (by first | (apply k_callf; first | exact ops_callP (d := 74) 1000000000000 (MSI b m3) (hfc := hd) | fail) | fail) (hk := ?_) | refine l_op (hk := ?_)) | refine d_nil ?_ | (refine d_o ?_; first | refine d_fl (hk := ?_) | refine d_ef rfl (by first | exact .callP (d := 74) 1000000000000 (MSI b m3) (hfc := hd) | fail) (hk := ?_) | refine d_ef (hk := ?_)) | (refine w_o ?_; first | refine w_draw (id := 12) (fun _ => true) (fun k => [6, 13, 14, 15].contains k) [[], [], [], []] 64 (by kernel_rfl) rfl (by kernel_rfl) (by simp [nm, nset, -List.map_take, -List.map_drop]) ?_)
        all_goals generalize L ++ [mv c h t (o - 1)] = L2 at *
        · repeat' first | apply w_seq | apply w_block | apply rb_n | apply rb_ret | apply rb_eq | refine rb_ne (by rfl) ?_ | apply w_exit | apply rt_exit | apply w_region | apply l_nil | apply rt_n | apply w_ret | apply rt_ret | apply w_skip | refine w_cond_t rfl ?_ | refine w_cond_f rfl ?_ | ((first | refine w_cnd rfl ?_ ?_ | refine w_cd rfl ?_ ?_ | refine w_cn rfl ?_ ?_ | refine w_cond rfl ?_ ?_) <;> intro hc) | (exfalso; omega) | (refine l_o ?_; first | refine l_op rfl (by first | (apply k_mapUpdate; first | exact ops_putSI (n := 1000000000000) (val := V) hm3.1 rfl rfl rfl rfl Tryz.underlying54 Tryz.underlying9 | fail) | (apply k_callf; first | exact ops_callz (d := 81) (hfc := hme) | fail) | fail) (hk := ?_) | refine l_op (hk := ?_)) | refine d_nil ?_ | (refine d_o ?_; first | refine d_fl rfl (by first | exact .pl (by first | (apply q_mapUpdate; first | exact fs_putSI (n := 1000000000000) (val := V) hm3.1 rfl rfl rfl rfl Tryz.underlying54 Tryz.underlying9 | fail) | fail) | fail) (hk := ?_) | refine d_fl (hk := ?_) | refine d_ef rfl (by first | exact .callz (d := 81) (hfc := hme) | fail) (hk := ?_) | refine d_ef (hk := ?_)) | (refine w_o ?_; first | refine w_draw (id := 12) (fun _ => true) (fun k => [6, 13, 14, 15].contains k) [[], [], [], []] 64 (by kernel_rfl) rfl (by kernel_rfl) (by simp [nm, nset, -List.map_take, -List.map_drop]) ?_)
          exact en_m (junk := [(29, 1, List.map RVi L2), (4, 2, [RV.agg [RIs c, RV.v (Value.map (some b))]])]) (.inl rfl) Tryz.results51 rfl rfl rfl rfl
      · have ht0 : ¬ 0 < t := by omega
        have ho0 : ¬ 0 < o := by omega
        rw [if_neg ht0] at e2 hoj
        rw [List.append_nil, ← hL, if_neg ho0, List.append_nil] at hoj
        subst e2
        rw [if_neg ho0] at e3
        subst e3
        have hLn : L ≠ [] := by intro h0; subst h0; simp at hc
        have hme := hMex L hLn (by omega) (hoj fun x => Iff.rfl)
        repeat' first | apply w_seq | apply w_block | apply rb_n | apply rb_ret | apply rb_eq | refine rb_ne (by rfl) ?_ | apply w_exit | apply rt_exit | apply w_region | apply l_nil | apply rt_n | apply w_ret | apply rt_ret | apply w_skip | refine w_cond_t rfl ?_ | refine w_cond_f rfl ?_ | ((first | refine w_cnd rfl ?_ ?_ | refine w_cd rfl ?_ ?_ | refine w_cn rfl ?_ ?_ | refine w_cond rfl ?_ ?_) <;> intro hc) | (exfalso; omega) | (refine l_o ?_; first | refine l_op rfl (by first | (apply k_mapUpdate; first | exact ops_putSI (n := 1000000000000) (val := V) hm3.1 rfl rfl rfl rfl Tryz.underlying54 Tryz.underlying9 | fail) | (apply k_callf; first | exact ops_callz (d := 81) (hfc := hme) | fail) | fail) (hk := ?_) | refine l_op (hk := ?_)) | refine d_nil ?_ | (refine d_o ?_; first | refine d_fl rfl (by first | exact .pl (by first | (apply q_mapUpdate; first | exact fs_putSI (n := 1000000000000) (val := V) hm3.1 rfl rfl rfl rfl Tryz.underlying54 Tryz.underlying9 | fail) | fail) | fail) (hk := ?_) | refine d_fl (hk := ?_) | refine d_ef rfl (by first | exact .callz (d := 81) (hfc := hme) | fail) (hk := ?_) | refine d_ef (hk := ?_)) | (refine w_o ?_; first | refine w_draw (id := 12) (fun _ => true) (fun k => [6, 13, 14, 15].contains k) [[], [], [], []] 64 (by kernel_rfl) rfl (by kernel_rfl) (by simp [nm, nset, -List.map_take, -List.map_drop]) ?_)
        exact en_m (junk := [(29, 1, List.map RVi L), (4, 2, [RV.agg [RIs c, RV.v (Value.map (some b))]])]) (.inl rfl) Tryz.results51 rfl rfl rfl rfl
      · have ht0 : ¬ 0 < t := by omega
        have ho0 : ¬ 0 < o := by omega
        rw [if_neg ht0] at e2 hoj
        rw [List.append_nil, ← hL, if_neg ho0, List.append_nil] at hoj
        subst e2
        rw [if_neg ho0] at e3
        subst e3
        have hLn : L = [] := by
          cases L with
          | nil => rfl
          | cons x xs => exact absurd (by simp <;> omega) hc
        have hV1 : 1 = V := by
          have := hoj (l := []) (fun x => by rw [hLn])
          simpa [mexO] using this
        subst hV1
        repeat' first | apply w_seq | apply w_block | apply rb_n | apply rb_ret | apply rb_eq | refine rb_ne (by rfl) ?_ | apply w_exit | apply rt_exit | apply w_region | apply l_nil | apply rt_n | apply w_ret | apply rt_ret | apply w_skip | refine w_cond_t rfl ?_ | refine w_cond_f rfl ?_ | ((first | refine w_cnd rfl ?_ ?_ | refine w_cd rfl ?_ ?_ | refine w_cn rfl ?_ ?_ | refine w_cond rfl ?_ ?_) <;> intro hc) | (exfalso; omega) | (refine l_o ?_; first | refine l_op rfl (by first | (apply k_mapUpdate; first | exact ops_putSI (n := 1000000000000) (val := 1) hm3.1 rfl rfl rfl rfl Tryz.underlying54 Tryz.underlying9 | fail) | fail) (hk := ?_) | refine l_op (hk := ?_)) | refine d_nil ?_ | (refine d_o ?_; first | refine d_fl rfl (by first | exact .pl (by first | (apply q_mapUpdate; first | exact fs_putSI (n := 1000000000000) (val := 1) hm3.1 rfl rfl rfl rfl Tryz.underlying54 Tryz.underlying9 | fail) | fail) | fail) (hk := ?_) | refine d_fl (hk := ?_) | refine d_ef (hk := ?_)) | (refine w_o ?_; first | refine w_draw (id := 12) (fun _ => true) (fun k => [6, 13, 14, 15].contains k) [[], [], [], []] 64 (by kernel_rfl) rfl (by kernel_rfl) (by simp [nm, nset, -List.map_take, -List.map_drop]) ?_)
        exact en_m (junk := [(29, 1, List.map RVi L), (4, 2, [RV.agg [RIs c, RV.v (Value.map (some b))]])]) (.inl rfl) Tryz.results51 rfl rfl rfl rfl
theorem value_all (c : List Int) (hc : gcode c = true) : ∀ (n : Nat) (h : List Int) (t o : Nat) (m : Mem), vld h t o → msH h t o < n → memOk c m → ∃ m', memOk c m' ∧ VC c h t o m m'
  | 0, _, _, _, _, _, hn, _ => by omega
  | n + 1, h, t, o, m, hv, hn, hm => by
    cases hr : m.lookup (keyT h t o) with
    | some r =>
      have e := memOk_at hm hv (lookup_mem hr)
      exact ⟨m, hm, fun b => e ▸ value_hit hv hm.1 hr⟩
    | none =>
      have ih := value_all c hc n
      have hnx : ∃ nx : List Int → Nat → Nat → Mem → Mem, ∀ p t' o' m, vld p t' o' → msH p t' o' < msH h t o → memOk c m → memOk c (nx p t' o' m) ∧ VC c p t' o' m (nx p t' o' m) := by
        classical
        refine ⟨fun p t' o' m => if H : ∃ m', memOk c m' ∧ VC c p t' o' m m' then H.choose else m, fun p t' o' m h1 h2 h3 => ?_⟩
        have H := ih p t' o' m h1 (by omega) h3
        dsimp only
        rw [dif_pos H]
        exact H.choose_spec
      obtain ⟨nx, hnx⟩ := hnx
      have key := fun b => value_miss (b := b) hc hv hm hr nx hnx _ _ _ rfl rfl rfl
      exact ⟨_, memOk_put (key 0).1 hv, fun b => (key b).2⟩
end Go.Proofs.YtmfbcipjknjicaaGreatDoor
