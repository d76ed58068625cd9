/- The reference's misere values, with its table. For all positions of the sizes that the theorems name. -/
import Derived.Test.YtmfbcipjknjicaaGreatDoorSpG
import Derived.Test.YtmfbcipjknjicaaGreatDoorSpM
namespace Go.Proofs.YtmfbcipjknjicaaGreatDoor
set_option linter.unusedSectionVars false
variable [One Bool]
open Eng
attribute [local irreducible] OpS OpG FC FCr Rel Fl Ef DR Fs
attribute [local simp] RV.fzR_names
set_option linter.unusedSimpArgs false
set_option linter.unusedVariables false
set_option maxHeartbeats 0
set_option maxRecDepth 100000

abbrev Bok := List Int × List Int
def SVC (c h : List Int) (t o : Nat) (B B' : Bok) : Prop := FC Tryz.prog 58 [.ptr 1000000000000 0 0, RIs h, RVn t, RVn o] (BK c B.1 B.2) fun rv O => rv = RVi (mv c h t o) ∧ O = BK c B'.1 B'.2
theorem svalue_hit {c h : List Int} {t o : Nat} {K V : List Int} (hb : bookOk c K V) (hv : vld h t o) (hk : K.getD (plc K (keyN h t o)) 0 = (keyN h t o : Nat)) : FC Tryz.prog 58 [.ptr 1000000000000 0 0, RIs h, RVn t, RVn o] (BK c K V) fun rv O => rv = RVi (mv c h t o) ∧ O = BK c K V := by
  have hK := l19Key_ok hv
  have hs := slot_ok c K V hb _ (keyN_lt hv)
  have hr := hb.found hv hk
  have hlt : plc K (keyN h t o) < 8192 := plN_lt _ _
  have hKl := hb.kl
  have hVl := hb.vl
  generalize mv c h t o = r at *
  generalize keyN h t o = key at *
  generalize plc K key = i0 at *
  rw [getD_at (by omega)] at hk hr
  refine (fc_in Tryz.func58 rfl (by simp only [Tryz.ntmps58, anys, List.length_cons, List.length_nil, Nat.reduceAdd, Nat.reduceSub, List.replicate_succ, List.replicate_zero, List.cons_append, List.nil_append] <;> rfl) ?_)
  repeat' first | apply w_seq | apply w_block | apply rb_n | apply rb_ret | apply rb_eq | refine rb_ne (by rfl) ?_ | apply w_exit | apply rt_exit | apply w_region | apply l_nil | apply rt_n | apply w_ret | apply rt_ret | apply w_skip | refine w_cond_t rfl ?_ | refine w_cond_f rfl ?_ | ((first | refine w_cnd rfl ?_ ?_ | refine w_cd rfl ?_ ?_ | refine w_cn rfl ?_ ?_ | refine w_cond rfl ?_ ?_) <;> intro hc) | (exfalso; omega) | (refine l_o ?_; first | refine l_eqnil rfl (by kernel_rfl) (by intro b; simp only [nz]; rfl) (fun b hb => ?_) | refine l_op rfl (by first | (apply k_callf; first | exact ops_callG (d := 23) [1000000000000, 1000000000001, 1000000000002] [] (BK c K V) (hfc := hs) | exact ops_callf (d := 20) (hfc := hK) | fail) | fail) (hk := ?_) | refine l_op (hk := ?_) | (refine l_g ?_; first | refine l_y rfl rfl rfl ?_ | refine l_n rfl rfl rfl rfl (hk := ?_) | refine l_n' rfl rfl rfl (hk := ?_) | refine l_spnd rfl rfl rfl (h1 := fun hc => ?_) (h2 := fun hc => ?_) | refine l_spd rfl rfl rfl (h1 := fun hc => ?_) (h2 := fun hc => ?_) | refine l_spn rfl rfl rfl (h1 := fun hc => ?_) (h2 := fun hc => ?_) | refine l_sp rfl rfl rfl (h1 := fun hc => ?_) (h2 := fun hc => ?_))) | refine d_nil ?_ | (refine d_o ?_; first | refine d_fl (hk := ?_) | refine d_ef rfl (by first | exact .callG (d := 23) [1000000000000, 1000000000001, 1000000000002] (BK c K V) (hfc := hs) | exact .callf (d := 20) (hfc := hK) | exact .callfY (d := 20) (hfc := hK) | fail) (hk := ?_) | refine d_ef (hk := ?_) | (refine d_g ?_; first | refine d_spnd rfl rfl rfl (h1 := fun hc => ?_) (h2 := fun hc => ?_) | refine d_spd rfl rfl rfl (h1 := fun hc => ?_) (h2 := fun hc => ?_) | refine d_spn rfl rfl rfl (h1 := fun hc => ?_) (h2 := fun hc => ?_) | refine d_sp rfl rfl rfl (h1 := fun hc => ?_) (h2 := fun hc => ?_))) | (refine w_o ?_; first | refine w_draw (id := 9) (fun _ => true) (fun k => [].contains k) [] 64 (by kernel_rfl) rfl (by kernel_rfl) (by simp [nm, nset, -List.map_take, -List.map_drop]) ?_ | refine w_draw (id := 10) (fun _ => true) (fun k => [8].contains k) [[]] 64 (by kernel_rfl) rfl (by kernel_rfl) (by simp [nm, nset, -List.map_take, -List.map_drop]) ?_)
  rw [hr]
  exact en_m (junk := []) (.inl rfl) Tryz.results58 rfl rfl rfl rfl
def bkL (nx : List Int → Nat → Nat → Bok → Bok) (t o : Nat) (l : List (List Int)) (B : Bok) : Bok := l.foldl (fun B p => nx p t o B) B
theorem bkL_snoc (nx : List Int → Nat → Nat → Bok → Bok) (t o : Nat) (l : List (List Int)) (p : List Int) (B : Bok) : bkL nx t o (l ++ [p]) B = nx p t o (bkL nx t o l B) := by rw [bkL, List.foldl_append]; rfl
theorem optS {c h : List Int} {t o : Nat} (hh : posH h) : mexO ((vis c h).map (fun p => mv c p t o) ++ (if 0 < t then [mv c h (t - 1) (o + 1), mv c h (t - 1) o] else []) ++ (if 0 < o then [mv c h t (o - 1)] else [])) = mv c h t o := by
  refine Eq.trans (mexO_congr fun x => ?_) (mv_eq hh).symm
  unfold optM
  split
  · simp only [List.mem_append, List.mem_cons, List.not_mem_nil, or_false]
    rw [or_comm (a := x = mv c h (t - 1) (o + 1)) (b := x = mv c h (t - 1) o)]
  · rfl
theorem svalue_miss {c h : List Int} {t o : Nat} {K V : List Int} (hcg : gcode c = true) (hv : vld h t o) (hb : bookOk c K V) (hk : K.getD (plc K (keyN h t o)) 0 ≠ (keyN h t o : Nat)) (nx : List Int → Nat → Nat → Bok → Bok)
    (hnx : ∀ p t' o' B, vld p t' o' → msH p t' o' < msH h t o → bookOk c B.1 B.2 → bookOk c (nx p t' o' B).1 (nx p t' o' B).2 ∧ SVC c p t' o' B (nx p t' o' B)) (B1 B2 B3 : Bok) (e1 : B1 = bkL nx t o (vis c h) (K, V))
    (e2 : B2 = if 0 < t then nx h (t - 1) o (nx h (t - 1) (o + 1) B1) else B1) (e3 : B3 = if 0 < o then nx h t (o - 1) B2 else B2) :
    bookOk c B3.1 B3.2 ∧ FC Tryz.prog 58 [.ptr 1000000000000 0 0, RIs h, RVn t, RVn o] (BK c K V) fun rv O => rv = RVi (mv c h t o) ∧ O = BK c (B3.1.set (plc B3.1 (keyN h t o)) (keyN h t o : Nat)) (B3.2.set (plc B3.1 (keyN h t o)) (mv c h t o)) := by
  obtain ⟨ht, ho, hl, hx⟩ := vld_le hv
  have hK := l19Key_ok hv
  have hs := slot_ok c K V hb _ (keyN_lt hv)
  have hlt : plc K (keyN h t o) < 8192 := plN_lt _ _
  have hKl := hb.kl
  have hVl := hb.vl
  have hkn := keyN_lt hv
  have hopt := @optS _ c h t o hv.1
  have hps := sum_nn hv.1.1
  have hvisp : ∀ p ∈ vis c h, vld p t o ∧ msH p t o < msH h t o := fun p hp => by
    have := vis_mem hv.1 hp
    have h4 := sum_nn this.1.1
    exact ⟨vld_vis hv hp, by unfold msH; omega⟩
  have hbl : ∀ l : List (List Int), (∀ p ∈ l, p ∈ vis c h) → bookOk c (bkL nx t o l (K, V)).1 (bkL nx t o l (K, V)).2 := by
    intro l
    have key : ∀ n, ∀ l : List (List Int), l.length = n → (∀ p ∈ l, p ∈ vis c h) → bookOk c (bkL nx t o l (K, V)).1 (bkL nx t o l (K, V)).2 := by
      intro n
      induction n with
      | zero => intro l h0 _; obtain rfl := List.eq_nil_of_length_eq_zero h0; exact hb
      | succ n ih =>
        intro l h0 hl
        have e : l = l.take n ++ [l[n]'(by omega)] := by rw [← List.take_succ_eq_append_getElem (by omega), List.take_of_length_le (by omega)]
        have hm := hvisp _ (hl _ (List.getElem_mem (show n < l.length by omega)))
        rw [e, bkL_snoc]
        exact (hnx _ _ _ _ hm.1 hm.2 (ih (l.take n) (by simp; omega) fun p hp => hl p (List.mem_of_mem_take hp))).1
    exact key _ l rfl
  have hb1 : bookOk c B1.1 B1.2 := by rw [e1]; exact hbl _ fun p hp => hp
  have hb2a : 0 < t → bookOk c (nx h (t - 1) (o + 1) B1).1 (nx h (t - 1) (o + 1) B1).2 ∧ SVC c h (t - 1) (o + 1) B1 (nx h (t - 1) (o + 1) B1) := fun h0 => hnx _ _ _ _ (vld_t1 hv h0).2 (by unfold msH; omega) hb1
  have hb2b : 0 < t → bookOk c (nx h (t - 1) o (nx h (t - 1) (o + 1) B1)).1 (nx h (t - 1) o (nx h (t - 1) (o + 1) B1)).2 ∧ SVC c h (t - 1) o (nx h (t - 1) (o + 1) B1) (nx h (t - 1) o (nx h (t - 1) (o + 1) B1)) := fun h0 => hnx _ _ _ _ (vld_t1 hv h0).1 (by unfold msH; omega) (hb2a h0).1
  have hb2 : bookOk c B2.1 B2.2 := by
    rw [e2]; split
    · rename_i h0; exact (hb2b h0).1
    · exact hb1
  have hb3a : 0 < o → bookOk c (nx h t (o - 1) B2).1 (nx h t (o - 1) B2).2 ∧ SVC c h t (o - 1) B2 (nx h t (o - 1) B2) := fun h0 => hnx _ _ _ _ (vld_o1 hv h0) (by unfold msH; omega) hb2
  have hb3 : bookOk c B3.1 B3.2 := by
    rw [e3]; split
    · rename_i h0; exact (hb3a h0).1
    · exact hb2
  have hs3 := slot_ok c B3.1 B3.2 hb3 _ (keyN_lt hv)
  have hlt3 : plc B3.1 (keyN h t o) < 8192 := plN_lt _ _
  refine ⟨hb3, ?_⟩
  generalize keyN h t o = key at *
  generalize plc B3.1 key = i3 at *
  generalize plc K key = i0 at *
  rw [getD_at (by omega)] at hk
  have hcl := gcode_len hcg
  refine (fc_in Tryz.func58 rfl (by simp only [Tryz.ntmps58, anys, List.length_cons, List.length_nil, Nat.reduceAdd, Nat.reduceSub, List.replicate_succ, List.replicate_zero, List.cons_append, List.nil_append] <;> rfl) ?_)
  repeat' first | apply w_seq | apply w_block | apply rb_n | apply rb_ret | apply rb_eq | refine rb_ne (by rfl) ?_ | apply w_exit | apply rt_exit | apply w_region | apply l_nil | apply rt_n | apply w_ret | apply rt_ret | apply w_skip | refine w_cond_t rfl ?_ | refine w_cond_f rfl ?_ | ((first | refine w_cnd rfl ?_ ?_ | refine w_cd rfl ?_ ?_ | refine w_cn rfl ?_ ?_ | refine w_cond rfl ?_ ?_) <;> intro hc) | (exfalso; omega) | (refine l_o ?_; first | refine l_eqnil rfl (by kernel_rfl) (by intro b; simp only [nz]; rfl) (fun b hb => ?_) | refine l_op rfl (by first | (apply k_callf; first | exact ops_callG (d := 23) [1000000000000, 1000000000001, 1000000000002] [] (BK c K V) (hfc := hs) | exact ops_callf (d := 20) (hfc := hK) | fail) | fail) (hk := ?_) | refine l_op (hk := ?_) | (refine l_g ?_; first | refine l_y rfl rfl rfl ?_ | refine l_n rfl rfl rfl rfl (hk := ?_) | refine l_n' rfl rfl rfl (hk := ?_) | refine l_spnd rfl rfl rfl (h1 := fun hc => ?_) (h2 := fun hc => ?_) | refine l_spd rfl rfl rfl (h1 := fun hc => ?_) (h2 := fun hc => ?_) | refine l_spn rfl rfl rfl (h1 := fun hc => ?_) (h2 := fun hc => ?_) | refine l_sp rfl rfl rfl (h1 := fun hc => ?_) (h2 := fun hc => ?_))) | refine d_nil ?_ | (refine d_o ?_; first | refine d_fl (hk := ?_) | refine d_ef rfl (by first | exact .callG (d := 23) [1000000000000, 1000000000001, 1000000000002] (BK c K V) (hfc := hs) | exact .callf (d := 20) (hfc := hK) | exact .callfY (d := 20) (hfc := hK) | fail) (hk := ?_) | refine d_ef (hk := ?_) | (refine d_g ?_; first | refine d_spnd rfl rfl rfl (h1 := fun hc => ?_) (h2 := fun hc => ?_) | refine d_spd rfl rfl rfl (h1 := fun hc => ?_) (h2 := fun hc => ?_) | refine d_spn rfl rfl rfl (h1 := fun hc => ?_) (h2 := fun hc => ?_) | refine d_sp rfl rfl rfl (h1 := fun hc => ?_) (h2 := fun hc => ?_))) | (refine w_o ?_; first | refine w_draw (id := 9) (fun _ => true) (fun k => [].contains k) [] 64 (by kernel_rfl) rfl (by kernel_rfl) (by simp [nm, nset, -List.map_take, -List.map_drop]) ?_ | refine w_draw (id := 10) (fun _ => true) (fun k => [8].contains k) [[]] 64 (by kernel_rfl) rfl (by kernel_rfl) (by simp [nm, nset, -List.map_take, -List.map_drop]) ?_)
  refine w_le _ (le_perm [1000000000000, 1000000000001, 1000000000002, 40] rfl rfl) ?_
  refine w_loopm (ι := Nat × List Int × Bok) (fun q => [(12, RVn q.1), (11, .ref 40 0 q.2.1.length), (13, .any), (14, .any), (40, .any)]) (fun q => [(1000000000000, 3, [.agg [RIs c, .ref 1000000000001 0 8192, .ref 1000000000002 0 8192]]), (1000000000001, 1, q.2.2.1.map RVi), (1000000000002, 1, q.2.2.2.map RVi), (40, 1, q.2.1.map RVi)]) (fun q => q.1 ≤ h.length ∧ q.2.1 = (visT c h q.1).map (fun p => mv c p t o) ∧ q.2.2 = bkL nx t o (visT c h q.1) (K, V)) (fun q => h.length - q.1) (0, [], K, V) (h0 := ?_) (hs := ?_) (round := ?_)
  · exact ⟨Nat.zero_le _, by simp [visT], by simp [visT, bkL]⟩
  · refine le_eq (by (repeat' first | exact .nil | refine .keep ?_ | refine .any ?_); first | done | fail) rfl rfl
  · intro ⟨i, L, Ki, Vi⟩ ⟨hi, hL, hB⟩
    dsimp only at hi hL hB ⊢
    have hvl := vis_len hcl.2 h i (fun x hxx => by have := (hx x hxx).2; omega) hi
    have hLl : L.length = (visT c h i).length := by rw [hL, List.length_map]
    by_cases hi2 : i < h.length
    · have hsu := visT_succ c h i
      have ek : h.getD i 0 = h[i] := getD_at hi2
      have hHk := hx _ (List.getElem_mem hi2)
      by_cases hsame : ∃ h0 : 0 < i, h[i] = h[i - 1]'(by omega)
      · obtain ⟨h0, heq⟩ := hsame
        have ek1 : h.getD (i - 1) 0 = h[i - 1]'(by omega) := getD_at (by omega)
        rw [visAt, ek, ek1, if_pos ⟨h0, heq⟩, List.append_nil] at hsu
        repeat' first | apply w_seq | apply w_block | apply rb_n | apply rb_ret | apply rb_eq | refine rb_ne (by rfl) ?_ | apply w_exit | apply rt_exit | apply w_region | apply l_nil | apply rt_n | apply w_ret | apply rt_ret | apply w_skip | refine w_cond_t rfl ?_ | refine w_cond_f rfl ?_ | ((first | refine w_cnd rfl ?_ ?_ | refine w_cd rfl ?_ ?_ | refine w_cn rfl ?_ ?_ | refine w_cond rfl ?_ ?_) <;> intro hc) | (exfalso; omega) | (refine l_o ?_; first | refine l_eqnil rfl (by kernel_rfl) (by intro b; simp only [nz]; rfl) (fun b hb => ?_) | refine l_op rfl (by first | (apply k_sub; first | exact ops_subn (a := i) (b := 1) rfl rfl (by omega) (by omega) | fail) | fail) (hk := ?_) | refine l_op (hk := ?_) | (refine l_g ?_; first | refine l_y rfl rfl rfl ?_ | refine l_n rfl rfl rfl rfl (hk := ?_) | refine l_n' rfl rfl rfl (hk := ?_) | refine l_spnd rfl rfl rfl (h1 := fun hc => ?_) (h2 := fun hc => ?_) | refine l_spd rfl rfl rfl (h1 := fun hc => ?_) (h2 := fun hc => ?_) | refine l_spn rfl rfl rfl (h1 := fun hc => ?_) (h2 := fun hc => ?_) | refine l_sp rfl rfl rfl (h1 := fun hc => ?_) (h2 := fun hc => ?_))) | refine d_nil ?_ | (refine d_o ?_; first | refine d_fl rfl (by first | exact .pl (by first | (apply q_sub; first | exact fs_subn (a := i) (b := 1) rfl rfl (by omega) (by omega) | fail) | fail) | exact .ye rfl rfl rfl (by first | (apply q_sub; first | exact fs_subn (a := i) (b := 1) rfl rfl (by omega) (by omega) | fail) | fail) | fail) (hk := ?_) | refine d_fl (hk := ?_) | refine d_ef (hk := ?_) | (refine d_g ?_; first | refine d_spnd rfl rfl rfl (h1 := fun hc => ?_) (h2 := fun hc => ?_) | refine d_spd rfl rfl rfl (h1 := fun hc => ?_) (h2 := fun hc => ?_) | refine d_spn rfl rfl rfl (h1 := fun hc => ?_) (h2 := fun hc => ?_) | refine d_sp rfl rfl rfl (h1 := fun hc => ?_) (h2 := fun hc => ?_))) | (refine w_o ?_; first | refine w_draw (id := 9) (fun _ => true) (fun k => [].contains k) [] 64 (by kernel_rfl) rfl (by kernel_rfl) (by simp [nm, nset, -List.map_take, -List.map_drop]) ?_ | refine w_draw (id := 10) (fun _ => true) (fun k => [8].contains k) [[]] 64 (by kernel_rfl) rfl (by kernel_rfl) (by simp [nm, nset, -List.map_take, -List.map_drop]) ?_)
        refine rn_mk (i + 1, L, Ki, Vi) ?_ (by first | omega | (dsimp only; omega)) (le_eq (by (repeat' first | exact .nil | refine .keep ?_ | refine .any ?_); first | done | fail) rfl rfl)
        exact ⟨hi2, by rw [hsu]; exact hL, by rw [hsu]; exact hB⟩
      · have hM := l17Moves_ok c h[i] hcg (by omega) (by omega)
        have hMl := hms_len (c := c) (n := h[i]) (by omega) hcl.2
        have hvis : visAt c h i = (hms c h[i]).map (aftH h i) := by
          rw [visAt, ek, if_neg]
          rintro ⟨h0, h1⟩
          have ek1 : h.getD (i - 1) 0 = h[i - 1]'(by omega) := getD_at (by omega)
          rw [ek1] at h1
          exact hsame ⟨h0, h1⟩
        have hMm : ∀ m ∈ hms c h[i], (∀ x ∈ m, 0 < x) ∧ m.length ≤ 2 ∧ aftH h i m ∈ vis c h := fun m hm => by
          obtain ⟨m1, m2, m3, m4⟩ := hms_mem hm
          exact ⟨m1, m4, (vis_iff hv.1.2).2 ⟨i, hi2, m, hm, rfl⟩⟩
        rw [hvis] at hsu
        have hvT : ∀ p ∈ visT c h i, p ∈ vis c h := fun p hp => by
          unfold vis visT at *
          obtain ⟨j, hj, hp⟩ := List.mem_flatMap.1 hp
          exact List.mem_flatMap.2 ⟨j, List.mem_range.2 (by have := List.mem_range.1 hj; omega), hp⟩
        generalize hms c h[i] = M at *
        generalize visT c h i = T at *
        repeat' first | apply w_seq | apply w_block | apply rb_n | apply rb_ret | apply rb_eq | refine rb_ne (by rfl) ?_ | apply w_exit | apply rt_exit | apply w_region | apply l_nil | apply rt_n | apply w_ret | apply rt_ret | apply w_skip | refine w_cond_t rfl ?_ | refine w_cond_f rfl ?_ | ((first | refine w_cnd rfl ?_ ?_ | refine w_cd rfl ?_ ?_ | refine w_cn rfl ?_ ?_ | refine w_cond rfl ?_ ?_) <;> intro hc) | (exfalso; omega) | (exfalso; exact hsame ⟨by omega, by assumption⟩) | (refine l_o ?_; first | refine l_eqnil rfl (by kernel_rfl) (by intro b; simp only [nz]; rfl) (fun b hb => ?_) | refine l_op rfl (by first | (apply k_sub; first | exact ops_subn (a := i) (b := 1) rfl rfl (by omega) (by omega) | fail) | (apply k_callf; first | exact ops_callf (d := 69) (hfc := hM) | fail) | fail) (hk := ?_) | refine l_op (hk := ?_) | (refine l_g ?_; first | refine l_y rfl rfl rfl ?_ | refine l_n rfl rfl rfl rfl (hk := ?_) | refine l_n' rfl rfl rfl (hk := ?_) | refine l_spnd rfl rfl rfl (h1 := fun hc => ?_) (h2 := fun hc => ?_) | refine l_spd rfl rfl rfl (h1 := fun hc => ?_) (h2 := fun hc => ?_) | refine l_spn rfl rfl rfl (h1 := fun hc => ?_) (h2 := fun hc => ?_) | refine l_sp rfl rfl rfl (h1 := fun hc => ?_) (h2 := fun hc => ?_))) | refine d_nil ?_ | (refine d_o ?_; first | refine d_fl rfl (by first | exact .pl (by first | (apply q_sub; first | exact fs_subn (a := i) (b := 1) rfl rfl (by omega) (by omega) | fail) | fail) | exact .ye rfl rfl rfl (by first | (apply q_sub; first | exact fs_subn (a := i) (b := 1) rfl rfl (by omega) (by omega) | fail) | fail) | fail) (hk := ?_) | refine d_fl (hk := ?_) | refine d_ef rfl (by first | exact .callf (d := 69) (hfc := hM) | exact .callfY (d := 69) (hfc := hM) | fail) (hk := ?_) | refine d_ef (hk := ?_) | (refine d_g ?_; first | refine d_spnd rfl rfl rfl (h1 := fun hc => ?_) (h2 := fun hc => ?_) | refine d_spd rfl rfl rfl (h1 := fun hc => ?_) (h2 := fun hc => ?_) | refine d_spn rfl rfl rfl (h1 := fun hc => ?_) (h2 := fun hc => ?_) | refine d_sp rfl rfl rfl (h1 := fun hc => ?_) (h2 := fun hc => ?_))) | (refine w_o ?_; first | refine w_draw (id := 9) (fun _ => true) (fun k => [].contains k) [] 64 (by kernel_rfl) rfl (by kernel_rfl) (by simp [nm, nset, -List.map_take, -List.map_drop]) ?_ | refine w_draw (id := 10) (fun _ => true) (fun k => [8].contains k) [[]] 64 (by kernel_rfl) rfl (by kernel_rfl) (by simp [nm, nset, -List.map_take, -List.map_drop]) ?_)
        all_goals
          refine w_loopm (ι := Nat × List Int × Bok) (fun q => [(14, RVn q.1), (11, .ref 40 0 q.2.1.length)]) (fun q => [(1000000000000, 3, [.agg [RIs c, .ref 1000000000001 0 8192, .ref 1000000000002 0 8192]]), (1000000000001, 1, q.2.2.1.map RVi), (1000000000002, 1, q.2.2.2.map RVi), (40, 1, q.2.1.map RVi)]) (fun q => q.1 ≤ M.length ∧ q.2.1.length = L.length + q.1 ∧ q.2.1 = (T ++ (M.take q.1).map (aftH h i)).map (fun p => mv c p t o) ∧ q.2.2 = bkL nx t o (T ++ (M.take q.1).map (aftH h i)) (K, V)) (fun q => M.length - q.1) (0, L, Ki, Vi) (h0 := ?_) (hs := ?_) (round := ?_)
          · exact ⟨Nat.zero_le _, rfl, by simpa using hL, by simpa using hB⟩
          · refine le_eq (by (repeat' first | exact .nil | refine .keep ?_ | refine .any ?_); first | done | fail) rfl rfl
          · intro ⟨j, L2, K2, V2⟩ ⟨hj, hl2, hL2, hB2⟩
            dsimp only at hj hl2 hL2 hB2 ⊢
            by_cases hj2 : j < M.length
            · have hm := hMm _ (List.getElem_mem hj2)
              have hA := l17After_ok h i M[j] hi2 (by omega) (by have := hm.2.1; omega) (fun x hxx => (hx x hxx).1) hm.1
              have hvp := hvisp _ hm.2.2
              have hbk := hbl (T ++ (M.take j).map (aftH h i)) fun p hp => by
                rcases List.mem_append.1 hp with hp | hp
                · exact hvT p hp
                · obtain ⟨m, hm, rfl⟩ := List.mem_map.1 hp
                  exact (hMm m (List.mem_of_mem_take hm)).2.2
              rw [← hB2] at hbk
              have hcall := (hnx _ t o (K2, V2) hvp.1 hvp.2 hbk).2
              have hsu2 : T ++ (M.take (j + 1)).map (aftH h i) = (T ++ (M.take j).map (aftH h i)) ++ [aftH h i M[j]] := by
                rw [List.take_succ_eq_append_getElem hj2, List.map_append, ← List.append_assoc]; rfl
              have hB4 : bkL nx t o (T ++ (M.take (j + 1)).map (aftH h i)) (K, V) = nx (aftH h i M[j]) t o (K2, V2) := by rw [hsu2, bkL_snoc, ← hB2]
              have hL4 : (T ++ (M.take (j + 1)).map (aftH h i)).map (fun p => mv c p t o) = L2 ++ [mv c (aftH h i M[j]) t o] := by rw [hsu2, List.map_append, ← hL2]; rfl
              unfold SVC at hcall
              dsimp only at hcall
              generalize nx (aftH h i M[j]) t o (K2, V2) = B4 at *
              obtain ⟨K4, V4⟩ := B4
              dsimp only at hcall
              generalize mv c (aftH h i M[j]) t o = r at *
              generalize aftH h i M[j] = p at *
              repeat' first | apply w_seq | apply w_block | apply rb_n | apply rb_ret | apply rb_eq | refine rb_ne (by rfl) ?_ | apply w_exit | apply rt_exit | apply w_region | apply l_nil | apply rt_n | apply w_ret | apply rt_ret | apply w_skip | refine w_cond_t rfl ?_ | refine w_cond_f rfl ?_ | ((first | refine w_cnd rfl ?_ ?_ | refine w_cd rfl ?_ ?_ | refine w_cn rfl ?_ ?_ | refine w_cond rfl ?_ ?_) <;> intro hc) | (exfalso; omega) | (refine l_o ?_; first | refine l_eqnil rfl (by kernel_rfl) (by intro b; simp only [nz]; rfl) (fun b hb => ?_) | refine l_op rfl (by first | (apply k_callf; first | exact ops_callG (d := 87) [1000000000000, 1000000000001, 1000000000002] [] (BK c K4 V4) (hfc := hcall) | exact ops_callf (d := 84) (hfc := hA) | fail) | fail) (hk := ?_) | refine l_op (hk := ?_) | (refine l_g ?_; first | refine l_y rfl rfl rfl ?_ | refine l_n rfl rfl rfl rfl (hk := ?_) | refine l_n' rfl rfl rfl (hk := ?_) | refine l_spnd rfl rfl rfl (h1 := fun hc => ?_) (h2 := fun hc => ?_) | refine l_spd rfl rfl rfl (h1 := fun hc => ?_) (h2 := fun hc => ?_) | refine l_spn rfl rfl rfl (h1 := fun hc => ?_) (h2 := fun hc => ?_) | refine l_sp rfl rfl rfl (h1 := fun hc => ?_) (h2 := fun hc => ?_))) | refine d_nil ?_ | (refine d_o ?_; first | refine d_fl (hk := ?_) | refine d_ef rfl (by first | exact .callG (d := 87) [1000000000000, 1000000000001, 1000000000002] (BK c K4 V4) (hfc := hcall) | exact .callf (d := 84) (hfc := hA) | exact .callfY (d := 84) (hfc := hA) | fail) (hk := ?_) | refine d_ef (hk := ?_) | (refine d_g ?_; first | refine d_spnd rfl rfl rfl (h1 := fun hc => ?_) (h2 := fun hc => ?_) | refine d_spd rfl rfl rfl (h1 := fun hc => ?_) (h2 := fun hc => ?_) | refine d_spn rfl rfl rfl (h1 := fun hc => ?_) (h2 := fun hc => ?_) | refine d_sp rfl rfl rfl (h1 := fun hc => ?_) (h2 := fun hc => ?_))) | (refine w_o ?_; first | refine w_draw (id := 9) (fun _ => true) (fun k => [].contains k) [] 64 (by kernel_rfl) rfl (by kernel_rfl) (by simp [nm, nset, -List.map_take, -List.map_drop]) ?_ | refine w_draw (id := 10) (fun _ => true) (fun k => [8].contains k) [[]] 64 (by kernel_rfl) rfl (by kernel_rfl) (by simp [nm, nset, -List.map_take, -List.map_drop]) ?_)
              refine rn_mk (j + 1, L2 ++ [r], K4, V4) ?_ (by first | omega | (dsimp only; omega)) (le_eq (by (repeat' first | exact .nil | refine .keep ?_ | refine .any ?_); first | done | fail) rfl rfl)
              exact ⟨hj2, by dsimp only; simp; omega, hL4.symm, hB4.symm⟩
            · obtain rfl : j = M.length := by omega
              rw [List.take_length, ← hsu] at hL2 hB2
              repeat' first | apply w_seq | apply w_block | apply rb_n | apply rb_ret | apply rb_eq | refine rb_ne (by rfl) ?_ | apply w_exit | apply rt_exit | apply w_region | apply l_nil | apply rt_n | apply w_ret | apply rt_ret | apply w_skip | refine w_cond_t rfl ?_ | refine w_cond_f rfl ?_ | ((first | refine w_cnd rfl ?_ ?_ | refine w_cd rfl ?_ ?_ | refine w_cn rfl ?_ ?_ | refine w_cond rfl ?_ ?_) <;> intro hc) | (exfalso; omega) | (refine l_o ?_; first | refine l_eqnil rfl (by kernel_rfl) (by intro b; simp only [nz]; rfl) (fun b hb => ?_) | refine l_op (hk := ?_) | (refine l_g ?_; first | refine l_y rfl rfl rfl ?_ | refine l_n rfl rfl rfl rfl (hk := ?_) | refine l_n' rfl rfl rfl (hk := ?_) | refine l_spnd rfl rfl rfl (h1 := fun hc => ?_) (h2 := fun hc => ?_) | refine l_spd rfl rfl rfl (h1 := fun hc => ?_) (h2 := fun hc => ?_) | refine l_spn rfl rfl rfl (h1 := fun hc => ?_) (h2 := fun hc => ?_) | refine l_sp rfl rfl rfl (h1 := fun hc => ?_) (h2 := fun hc => ?_))) | refine d_nil ?_ | (refine d_o ?_; first | refine d_fl (hk := ?_) | refine d_ef (hk := ?_) | (refine d_g ?_; first | refine d_spnd rfl rfl rfl (h1 := fun hc => ?_) (h2 := fun hc => ?_) | refine d_spd rfl rfl rfl (h1 := fun hc => ?_) (h2 := fun hc => ?_) | refine d_spn rfl rfl rfl (h1 := fun hc => ?_) (h2 := fun hc => ?_) | refine d_sp rfl rfl rfl (h1 := fun hc => ?_) (h2 := fun hc => ?_))) | (refine w_o ?_; first | refine w_draw (id := 9) (fun _ => true) (fun k => [].contains k) [] 64 (by kernel_rfl) rfl (by kernel_rfl) (by simp [nm, nset, -List.map_take, -List.map_drop]) ?_ | refine w_draw (id := 10) (fun _ => true) (fun k => [8].contains k) [[]] 64 (by kernel_rfl) rfl (by kernel_rfl) (by simp [nm, nset, -List.map_take, -List.map_drop]) ?_)
              refine rn_mk (i + 1, L2, K2, V2) ?_ (by first | omega | (dsimp only; omega)) (le_eq (by (repeat' first | exact .nil | refine .keep ?_ | refine .any ?_); first | done | fail) rfl rfl)
              exact ⟨hi2, hL2, hB2⟩
    · obtain rfl : i = h.length := by omega
      have hvv : visT c h h.length = vis c h := rfl
      rw [hvv] at hL hB hvl hLl
      rw [← e1] at hB
      subst hB
      rw [← hL] at hopt
      have hKl3 := hb3.kl
      have hVl3 := hb3.vl
      have hLl2 : L.length ≤ 18240 := by omega
      clear hi2 hi hvl hLl hvisp hbl hnx hs hK hx e1
      unfold SVC at hb2a hb2b hb3a
      dsimp only at *
      by_cases ht0 : 0 < t
      · have ha := (hb2a ht0).2
        have hb := (hb2b ht0).2
        rw [if_pos ht0] at e2 hopt
        generalize nx h (t - 1) (o + 1) (Ki, Vi) = Ba at *
        rw [← e2] at hb
        obtain ⟨Ka, Va⟩ := Ba
        obtain ⟨K2, V2⟩ := B2
        dsimp only at *
        generalize mv c h (t - 1) (o + 1) = ra at *
        generalize mv c h (t - 1) o = rb at *
        by_cases ho0 : 0 < o
        · have hd := (hb3a ho0).2
          rw [if_pos ho0] at e3 hopt
          rw [← e3] at hd
          obtain ⟨K3, V3⟩ := B3
          dsimp only at *
          generalize mv c h t (o - 1) = rd at *
          rw [show L ++ [ra, rb] ++ [rd] = L ++ [ra] ++ [rb] ++ [rd] by simp] at hopt
          repeat' first | apply w_seq | apply w_block | apply rb_n | apply rb_ret | apply rb_eq | refine rb_ne (by rfl) ?_ | apply w_exit | apply rt_exit | apply w_region | apply l_nil | apply rt_n | apply w_ret | apply rt_ret | apply w_skip | refine w_cond_t rfl ?_ | refine w_cond_f rfl ?_ | ((first | refine w_cnd rfl ?_ ?_ | refine w_cd rfl ?_ ?_ | refine w_cn rfl ?_ ?_ | refine w_cond rfl ?_ ?_) <;> intro hc) | (exfalso; omega) | (refine l_o ?_; first | refine l_eqnil rfl (by kernel_rfl) (by intro b; simp only [nz]; rfl) (fun b hb => ?_) | refine l_op rfl (by first | (apply k_sub; first | exact ops_subn (a := t) (b := 1) rfl rfl (by omega) (by omega) | exact ops_subn (a := o) (b := 1) rfl rfl (by omega) (by omega) | fail) | (apply k_callf; first | exact ops_callG (d := 99) [1000000000000, 1000000000001, 1000000000002] [] (BK c Ka Va) (hfc := ha) | exact ops_callG (d := 108) [1000000000000, 1000000000001, 1000000000002] [] (BK c K2 V2) (hfc := hb) | exact ops_callG (d := 119) [1000000000000, 1000000000001, 1000000000002] [] (BK c K3 V3) (hfc := hd) | fail) | fail) (hk := ?_) | refine l_op (hk := ?_) | (refine l_g ?_; first | refine l_y rfl rfl rfl ?_ | refine l_n rfl rfl rfl rfl (hk := ?_) | refine l_n' rfl rfl rfl (hk := ?_) | refine l_spnd rfl rfl rfl (h1 := fun hc => ?_) (h2 := fun hc => ?_) | refine l_spd rfl rfl rfl (h1 := fun hc => ?_) (h2 := fun hc => ?_) | refine l_spn rfl rfl rfl (h1 := fun hc => ?_) (h2 := fun hc => ?_) | refine l_sp rfl rfl rfl (h1 := fun hc => ?_) (h2 := fun hc => ?_))) | refine d_nil ?_ | (refine d_o ?_; first | refine d_fl rfl (by first | exact .pl (by first | (apply q_sub; first | exact fs_subn (a := t) (b := 1) rfl rfl (by omega) (by omega) | exact fs_subn (a := o) (b := 1) rfl rfl (by omega) (by omega) | fail) | fail) | exact .ye rfl rfl rfl (by first | (apply q_sub; first | exact fs_subn (a := t) (b := 1) rfl rfl (by omega) (by omega) | exact fs_subn (a := o) (b := 1) rfl rfl (by omega) (by omega) | fail) | fail) | fail) (hk := ?_) | refine d_fl (hk := ?_) | refine d_ef rfl (by first | exact .callG (d := 99) [1000000000000, 1000000000001, 1000000000002] (BK c Ka Va) (hfc := ha) | exact .callG (d := 108) [1000000000000, 1000000000001, 1000000000002] (BK c K2 V2) (hfc := hb) | exact .callG (d := 119) [1000000000000, 1000000000001, 1000000000002] (BK c K3 V3) (hfc := hd) | fail) (hk := ?_) | refine d_ef (hk := ?_) | (refine d_g ?_; first | refine d_spnd rfl rfl rfl (h1 := fun hc => ?_) (h2 := fun hc => ?_) | refine d_spd rfl rfl rfl (h1 := fun hc => ?_) (h2 := fun hc => ?_) | refine d_spn rfl rfl rfl (h1 := fun hc => ?_) (h2 := fun hc => ?_) | refine d_sp rfl rfl rfl (h1 := fun hc => ?_) (h2 := fun hc => ?_))) | (refine w_o ?_; first | refine w_draw (id := 9) (fun _ => true) (fun k => [].contains k) [] 64 (by kernel_rfl) rfl (by kernel_rfl) (by simp [nm, nset, -List.map_take, -List.map_drop]) ?_ | refine w_draw (id := 10) (fun _ => true) (fun k => [8].contains k) [[]] 64 (by kernel_rfl) rfl (by kernel_rfl) (by simp [nm, nset, -List.map_take, -List.map_drop]) ?_)
          all_goals first | (exfalso; exact hc (by simp only [List.length_append, List.length_cons, List.length_nil]; omega)) | skip
          have hL2l : (L ++ [ra] ++ [rb] ++ [rd]).length ≤ 18250 := by simp only [List.length_append, List.length_cons, List.length_nil]; omega
          have hL20 : L ++ [ra] ++ [rb] ++ [rd] ≠ [] := by simp
          generalize L ++ [ra] ++ [rb] ++ [rd] = L2 at *
          have hMex := l19Mex_ok L2 (by omega)
          unfold mexO at hopt
          rw [if_neg hL20] at hopt
          rw [hopt] at hMex
          generalize mv c h t o = r at *
          repeat' first | apply w_seq | apply w_block | apply rb_n | apply rb_ret | apply rb_eq | refine rb_ne (by rfl) ?_ | apply w_exit | apply rt_exit | apply w_region | apply l_nil | apply rt_n | apply w_ret | apply rt_ret | apply w_skip | refine w_cond_t rfl ?_ | refine w_cond_f rfl ?_ | ((first | refine w_cnd rfl ?_ ?_ | refine w_cd rfl ?_ ?_ | refine w_cn rfl ?_ ?_ | refine w_cond rfl ?_ ?_) <;> intro hc) | (exfalso; omega) | (refine l_o ?_; first | refine l_eqnil rfl (by kernel_rfl) (by intro b; simp only [nz]; rfl) (fun b hb => ?_) | refine l_op rfl (by first | (apply k_callf; first | exact ops_callG (d := 129) [1000000000000, 1000000000001, 1000000000002] [] (BK c K3 V3) (hfc := hs3) | exact ops_callz (d := 126) (hfc := hMex) | fail) | fail) (hk := ?_) | refine l_op (hk := ?_) | (refine l_g ?_; first | refine l_y rfl rfl rfl ?_ | refine l_n rfl rfl rfl rfl (hk := ?_) | refine l_n' rfl rfl rfl (hk := ?_) | refine l_spnd rfl rfl rfl (h1 := fun hc => ?_) (h2 := fun hc => ?_) | refine l_spd rfl rfl rfl (h1 := fun hc => ?_) (h2 := fun hc => ?_) | refine l_spn rfl rfl rfl (h1 := fun hc => ?_) (h2 := fun hc => ?_) | refine l_sp rfl rfl rfl (h1 := fun hc => ?_) (h2 := fun hc => ?_))) | refine d_nil ?_ | (refine d_o ?_; first | refine d_fl (hk := ?_) | refine d_ef rfl (by first | exact .callG (d := 129) [1000000000000, 1000000000001, 1000000000002] (BK c K3 V3) (hfc := hs3) | exact .callz (d := 126) (hfc := hMex) | exact .callzY (d := 126) (hfc := hMex) | fail) (hk := ?_) | refine d_ef (hk := ?_) | (refine d_g ?_; first | refine d_spnd rfl rfl rfl (h1 := fun hc => ?_) (h2 := fun hc => ?_) | refine d_spd rfl rfl rfl (h1 := fun hc => ?_) (h2 := fun hc => ?_) | refine d_spn rfl rfl rfl (h1 := fun hc => ?_) (h2 := fun hc => ?_) | refine d_sp rfl rfl rfl (h1 := fun hc => ?_) (h2 := fun hc => ?_))) | (refine w_o ?_; first | refine w_draw (id := 9) (fun _ => true) (fun k => [].contains k) [] 64 (by kernel_rfl) rfl (by kernel_rfl) (by simp [nm, nset, -List.map_take, -List.map_drop]) ?_ | refine w_draw (id := 10) (fun _ => true) (fun k => [8].contains k) [[]] 64 (by kernel_rfl) rfl (by kernel_rfl) (by simp [nm, nset, -List.map_take, -List.map_drop]) ?_)
          refine en_le _ (le_perm [40, 1000000000000, 1000000000001, 1000000000002] rfl rfl) ?_
          exact en_m (junk := [(40, 1, List.map RVi L2)]) (.inl rfl) Tryz.results58 rfl rfl rfl rfl
        · rw [if_neg ho0] at e3 hopt
          subst e3
          dsimp only at *
          rw [List.append_nil, show L ++ [ra, rb] = L ++ [ra] ++ [rb] by simp] at hopt
          repeat' first | apply w_seq | apply w_block | apply rb_n | apply rb_ret | apply rb_eq | refine rb_ne (by rfl) ?_ | apply w_exit | apply rt_exit | apply w_region | apply l_nil | apply rt_n | apply w_ret | apply rt_ret | apply w_skip | refine w_cond_t rfl ?_ | refine w_cond_f rfl ?_ | ((first | refine w_cnd rfl ?_ ?_ | refine w_cd rfl ?_ ?_ | refine w_cn rfl ?_ ?_ | refine w_cond rfl ?_ ?_) <;> intro hc) | (exfalso; omega) | (refine l_o ?_; first | refine l_eqnil rfl (by kernel_rfl) (by intro b; simp only [nz]; rfl) (fun b hb => ?_) | refine l_op rfl (by first | (apply k_sub; first | exact ops_subn (a := t) (b := 1) rfl rfl (by omega) (by omega) | exact ops_subn (a := o) (b := 1) rfl rfl (by omega) (by omega) | fail) | (apply k_callf; first | exact ops_callG (d := 99) [1000000000000, 1000000000001, 1000000000002] [] (BK c Ka Va) (hfc := ha) | exact ops_callG (d := 108) [1000000000000, 1000000000001, 1000000000002] [] (BK c K2 V2) (hfc := hb) | fail) | fail) (hk := ?_) | refine l_op (hk := ?_) | (refine l_g ?_; first | refine l_y rfl rfl rfl ?_ | refine l_n rfl rfl rfl rfl (hk := ?_) | refine l_n' rfl rfl rfl (hk := ?_) | refine l_spnd rfl rfl rfl (h1 := fun hc => ?_) (h2 := fun hc => ?_) | refine l_spd rfl rfl rfl (h1 := fun hc => ?_) (h2 := fun hc => ?_) | refine l_spn rfl rfl rfl (h1 := fun hc => ?_) (h2 := fun hc => ?_) | refine l_sp rfl rfl rfl (h1 := fun hc => ?_) (h2 := fun hc => ?_))) | refine d_nil ?_ | (refine d_o ?_; first | refine d_fl rfl (by first | exact .pl (by first | (apply q_sub; first | exact fs_subn (a := t) (b := 1) rfl rfl (by omega) (by omega) | exact fs_subn (a := o) (b := 1) rfl rfl (by omega) (by omega) | fail) | fail) | exact .ye rfl rfl rfl (by first | (apply q_sub; first | exact fs_subn (a := t) (b := 1) rfl rfl (by omega) (by omega) | exact fs_subn (a := o) (b := 1) rfl rfl (by omega) (by omega) | fail) | fail) | fail) (hk := ?_) | refine d_fl (hk := ?_) | refine d_ef rfl (by first | exact .callG (d := 99) [1000000000000, 1000000000001, 1000000000002] (BK c Ka Va) (hfc := ha) | exact .callG (d := 108) [1000000000000, 1000000000001, 1000000000002] (BK c K2 V2) (hfc := hb) | fail) (hk := ?_) | refine d_ef (hk := ?_) | (refine d_g ?_; first | refine d_spnd rfl rfl rfl (h1 := fun hc => ?_) (h2 := fun hc => ?_) | refine d_spd rfl rfl rfl (h1 := fun hc => ?_) (h2 := fun hc => ?_) | refine d_spn rfl rfl rfl (h1 := fun hc => ?_) (h2 := fun hc => ?_) | refine d_sp rfl rfl rfl (h1 := fun hc => ?_) (h2 := fun hc => ?_))) | (refine w_o ?_; first | refine w_draw (id := 9) (fun _ => true) (fun k => [].contains k) [] 64 (by kernel_rfl) rfl (by kernel_rfl) (by simp [nm, nset, -List.map_take, -List.map_drop]) ?_ | refine w_draw (id := 10) (fun _ => true) (fun k => [8].contains k) [[]] 64 (by kernel_rfl) rfl (by kernel_rfl) (by simp [nm, nset, -List.map_take, -List.map_drop]) ?_)
          all_goals first | (exfalso; exact hc (by simp only [List.length_append, List.length_cons, List.length_nil]; omega)) | skip
          have hL2l : (L ++ [ra] ++ [rb]).length ≤ 18250 := by simp only [List.length_append, List.length_cons, List.length_nil]; omega
          have hL20 : L ++ [ra] ++ [rb] ≠ [] := by simp
          generalize L ++ [ra] ++ [rb] = L2 at *
          have hMex := l19Mex_ok L2 (by omega)
          unfold mexO at hopt
          rw [if_neg hL20] at hopt
          rw [hopt] at hMex
          generalize mv c h t o = r at *
          repeat' first | apply w_seq | apply w_block | apply rb_n | apply rb_ret | apply rb_eq | refine rb_ne (by rfl) ?_ | apply w_exit | apply rt_exit | apply w_region | apply l_nil | apply rt_n | apply w_ret | apply rt_ret | apply w_skip | refine w_cond_t rfl ?_ | refine w_cond_f rfl ?_ | ((first | refine w_cnd rfl ?_ ?_ | refine w_cd rfl ?_ ?_ | refine w_cn rfl ?_ ?_ | refine w_cond rfl ?_ ?_) <;> intro hc) | (exfalso; omega) | (refine l_o ?_; first | refine l_eqnil rfl (by kernel_rfl) (by intro b; simp only [nz]; rfl) (fun b hb => ?_) | refine l_op rfl (by first | (apply k_callf; first | exact ops_callG (d := 129) [1000000000000, 1000000000001, 1000000000002] [] (BK c K2 V2) (hfc := hs3) | exact ops_callz (d := 126) (hfc := hMex) | fail) | fail) (hk := ?_) | refine l_op (hk := ?_) | (refine l_g ?_; first | refine l_y rfl rfl rfl ?_ | refine l_n rfl rfl rfl rfl (hk := ?_) | refine l_n' rfl rfl rfl (hk := ?_) | refine l_spnd rfl rfl rfl (h1 := fun hc => ?_) (h2 := fun hc => ?_) | refine l_spd rfl rfl rfl (h1 := fun hc => ?_) (h2 := fun hc => ?_) | refine l_spn rfl rfl rfl (h1 := fun hc => ?_) (h2 := fun hc => ?_) | refine l_sp rfl rfl rfl (h1 := fun hc => ?_) (h2 := fun hc => ?_))) | refine d_nil ?_ | (refine d_o ?_; first | refine d_fl (hk := ?_) | refine d_ef rfl (by first | exact .callG (d := 129) [1000000000000, 1000000000001, 1000000000002] (BK c K2 V2) (hfc := hs3) | exact .callz (d := 126) (hfc := hMex) | exact .callzY (d := 126) (hfc := hMex) | fail) (hk := ?_) | refine d_ef (hk := ?_) | (refine d_g ?_; first | refine d_spnd rfl rfl rfl (h1 := fun hc => ?_) (h2 := fun hc => ?_) | refine d_spd rfl rfl rfl (h1 := fun hc => ?_) (h2 := fun hc => ?_) | refine d_spn rfl rfl rfl (h1 := fun hc => ?_) (h2 := fun hc => ?_) | refine d_sp rfl rfl rfl (h1 := fun hc => ?_) (h2 := fun hc => ?_))) | (refine w_o ?_; first | refine w_draw (id := 9) (fun _ => true) (fun k => [].contains k) [] 64 (by kernel_rfl) rfl (by kernel_rfl) (by simp [nm, nset, -List.map_take, -List.map_drop]) ?_ | refine w_draw (id := 10) (fun _ => true) (fun k => [8].contains k) [[]] 64 (by kernel_rfl) rfl (by kernel_rfl) (by simp [nm, nset, -List.map_take, -List.map_drop]) ?_)
          refine en_le _ (le_perm [40, 1000000000000, 1000000000001, 1000000000002] rfl rfl) ?_
          exact en_m (junk := [(40, 1, List.map RVi L2)]) (.inl rfl) Tryz.results58 rfl rfl rfl rfl
      · rw [if_neg ht0] at e2 hopt
        subst e2
        dsimp only at *
        rw [List.append_nil] at hopt
        by_cases ho0 : 0 < o
        · have hd := (hb3a ho0).2
          rw [if_pos ho0] at e3 hopt
          rw [← e3] at hd
          obtain ⟨K3, V3⟩ := B3
          dsimp only at *
          generalize mv c h t (o - 1) = rd at *
          repeat' first | apply w_seq | apply w_block | apply rb_n | apply rb_ret | apply rb_eq | refine rb_ne (by rfl) ?_ | apply w_exit | apply rt_exit | apply w_region | apply l_nil | apply rt_n | apply w_ret | apply rt_ret | apply w_skip | refine w_cond_t rfl ?_ | refine w_cond_f rfl ?_ | ((first | refine w_cnd rfl ?_ ?_ | refine w_cd rfl ?_ ?_ | refine w_cn rfl ?_ ?_ | refine w_cond rfl ?_ ?_) <;> intro hc) | (exfalso; omega) | (refine l_o ?_; first | refine l_eqnil rfl (by kernel_rfl) (by intro b; simp only [nz]; rfl) (fun b hb => ?_) | refine l_op rfl (by first | (apply k_sub; first | exact ops_subn (a := t) (b := 1) rfl rfl (by omega) (by omega) | exact ops_subn (a := o) (b := 1) rfl rfl (by omega) (by omega) | fail) | (apply k_callf; first | exact ops_callG (d := 119) [1000000000000, 1000000000001, 1000000000002] [] (BK c K3 V3) (hfc := hd) | fail) | fail) (hk := ?_) | refine l_op (hk := ?_) | (refine l_g ?_; first | refine l_y rfl rfl rfl ?_ | refine l_n rfl rfl rfl rfl (hk := ?_) | refine l_n' rfl rfl rfl (hk := ?_) | refine l_spnd rfl rfl rfl (h1 := fun hc => ?_) (h2 := fun hc => ?_) | refine l_spd rfl rfl rfl (h1 := fun hc => ?_) (h2 := fun hc => ?_) | refine l_spn rfl rfl rfl (h1 := fun hc => ?_) (h2 := fun hc => ?_) | refine l_sp rfl rfl rfl (h1 := fun hc => ?_) (h2 := fun hc => ?_))) | refine d_nil ?_ | (refine d_o ?_; first | refine d_fl rfl (by first | exact .pl (by first | (apply q_sub; first | exact fs_subn (a := t) (b := 1) rfl rfl (by omega) (by omega) | exact fs_subn (a := o) (b := 1) rfl rfl (by omega) (by omega) | fail) | fail) | exact .ye rfl rfl rfl (by first | (apply q_sub; first | exact fs_subn (a := t) (b := 1) rfl rfl (by omega) (by omega) | exact fs_subn (a := o) (b := 1) rfl rfl (by omega) (by omega) | fail) | fail) | fail) (hk := ?_) | refine d_fl (hk := ?_) | refine d_ef rfl (by first | exact .callG (d := 119) [1000000000000, 1000000000001, 1000000000002] (BK c K3 V3) (hfc := hd) | fail) (hk := ?_) | refine d_ef (hk := ?_) | (refine d_g ?_; first | refine d_spnd rfl rfl rfl (h1 := fun hc => ?_) (h2 := fun hc => ?_) | refine d_spd rfl rfl rfl (h1 := fun hc => ?_) (h2 := fun hc => ?_) | refine d_spn rfl rfl rfl (h1 := fun hc => ?_) (h2 := fun hc => ?_) | refine d_sp rfl rfl rfl (h1 := fun hc => ?_) (h2 := fun hc => ?_))) | (refine w_o ?_; first | refine w_draw (id := 9) (fun _ => true) (fun k => [].contains k) [] 64 (by kernel_rfl) rfl (by kernel_rfl) (by simp [nm, nset, -List.map_take, -List.map_drop]) ?_ | refine w_draw (id := 10) (fun _ => true) (fun k => [8].contains k) [[]] 64 (by kernel_rfl) rfl (by kernel_rfl) (by simp [nm, nset, -List.map_take, -List.map_drop]) ?_)
          all_goals first | (exfalso; exact hc (by simp only [List.length_append, List.length_cons, List.length_nil]; omega)) | skip
          have hL2l : (L ++ [rd]).length ≤ 18250 := by simp only [List.length_append, List.length_cons, List.length_nil]; omega
          have hL20 : L ++ [rd] ≠ [] := by simp
          generalize L ++ [rd] = L2 at *
          have hMex := l19Mex_ok L2 (by omega)
          unfold mexO at hopt
          rw [if_neg hL20] at hopt
          rw [hopt] at hMex
          generalize mv c h t o = r at *
          repeat' first | apply w_seq | apply w_block | apply rb_n | apply rb_ret | apply rb_eq | refine rb_ne (by rfl) ?_ | apply w_exit | apply rt_exit | apply w_region | apply l_nil | apply rt_n | apply w_ret | apply rt_ret | apply w_skip | refine w_cond_t rfl ?_ | refine w_cond_f rfl ?_ | ((first | refine w_cnd rfl ?_ ?_ | refine w_cd rfl ?_ ?_ | refine w_cn rfl ?_ ?_ | refine w_cond rfl ?_ ?_) <;> intro hc) | (exfalso; omega) | (refine l_o ?_; first | refine l_eqnil rfl (by kernel_rfl) (by intro b; simp only [nz]; rfl) (fun b hb => ?_) | refine l_op rfl (by first | (apply k_callf; first | exact ops_callG (d := 129) [1000000000000, 1000000000001, 1000000000002] [] (BK c K3 V3) (hfc := hs3) | exact ops_callz (d := 126) (hfc := hMex) | fail) | fail) (hk := ?_) | refine l_op (hk := ?_) | (refine l_g ?_; first | refine l_y rfl rfl rfl ?_ | refine l_n rfl rfl rfl rfl (hk := ?_) | refine l_n' rfl rfl rfl (hk := ?_) | refine l_spnd rfl rfl rfl (h1 := fun hc => ?_) (h2 := fun hc => ?_) | refine l_spd rfl rfl rfl (h1 := fun hc => ?_) (h2 := fun hc => ?_) | refine l_spn rfl rfl rfl (h1 := fun hc => ?_) (h2 := fun hc => ?_) | refine l_sp rfl rfl rfl (h1 := fun hc => ?_) (h2 := fun hc => ?_))) | refine d_nil ?_ | (refine d_o ?_; first | refine d_fl (hk := ?_) | refine d_ef rfl (by first | exact .callG (d := 129) [1000000000000, 1000000000001, 1000000000002] (BK c K3 V3) (hfc := hs3) | exact .callz (d := 126) (hfc := hMex) | exact .callzY (d := 126) (hfc := hMex) | fail) (hk := ?_) | refine d_ef (hk := ?_) | (refine d_g ?_; first | refine d_spnd rfl rfl rfl (h1 := fun hc => ?_) (h2 := fun hc => ?_) | refine d_spd rfl rfl rfl (h1 := fun hc => ?_) (h2 := fun hc => ?_) | refine d_spn rfl rfl rfl (h1 := fun hc => ?_) (h2 := fun hc => ?_) | refine d_sp rfl rfl rfl (h1 := fun hc => ?_) (h2 := fun hc => ?_))) | (refine w_o ?_; first | refine w_draw (id := 9) (fun _ => true) (fun k => [].contains k) [] 64 (by kernel_rfl) rfl (by kernel_rfl) (by simp [nm, nset, -List.map_take, -List.map_drop]) ?_ | refine w_draw (id := 10) (fun _ => true) (fun k => [8].contains k) [[]] 64 (by kernel_rfl) rfl (by kernel_rfl) (by simp [nm, nset, -List.map_take, -List.map_drop]) ?_)
          refine en_le _ (le_perm [40, 1000000000000, 1000000000001, 1000000000002] rfl rfl) ?_
          exact en_m (junk := [(40, 1, List.map RVi L2)]) (.inl rfl) Tryz.results58 rfl rfl rfl rfl
        · rw [if_neg ho0] at e3 hopt
          subst e3
          dsimp only at *
          rw [List.append_nil] at hopt
          generalize mv c h t o = r at *
          by_cases hL0 : L = []
          · have h1 : r = 1 := by rw [← hopt, hL0]; rfl
            subst h1
            have hLn : L.length = 0 := by rw [hL0]; rfl
            repeat' first | apply w_seq | apply w_block | apply rb_n | apply rb_ret | apply rb_eq | refine rb_ne (by rfl) ?_ | apply w_exit | apply rt_exit | apply w_region | apply l_nil | apply rt_n | apply w_ret | apply rt_ret | apply w_skip | refine w_cond_t rfl ?_ | refine w_cond_f rfl ?_ | ((first | refine w_cnd rfl ?_ ?_ | refine w_cd rfl ?_ ?_ | refine w_cn rfl ?_ ?_ | refine w_cond rfl ?_ ?_) <;> intro hc) | (exfalso; omega) | (refine l_o ?_; first | refine l_eqnil rfl (by kernel_rfl) (by intro b; simp only [nz]; rfl) (fun b hb => ?_) | refine l_op rfl (by first | (apply k_callf; first | exact ops_callG (d := 129) [1000000000000, 1000000000001, 1000000000002] [] (BK c Ki Vi) (hfc := hs3) | fail) | fail) (hk := ?_) | refine l_op (hk := ?_) | (refine l_g ?_; first | refine l_y rfl rfl rfl ?_ | refine l_n rfl rfl rfl rfl (hk := ?_) | refine l_n' rfl rfl rfl (hk := ?_) | refine l_spnd rfl rfl rfl (h1 := fun hc => ?_) (h2 := fun hc => ?_) | refine l_spd rfl rfl rfl (h1 := fun hc => ?_) (h2 := fun hc => ?_) | refine l_spn rfl rfl rfl (h1 := fun hc => ?_) (h2 := fun hc => ?_) | refine l_sp rfl rfl rfl (h1 := fun hc => ?_) (h2 := fun hc => ?_))) | refine d_nil ?_ | (refine d_o ?_; first | refine d_fl (hk := ?_) | refine d_ef rfl (by first | exact .callG (d := 129) [1000000000000, 1000000000001, 1000000000002] (BK c Ki Vi) (hfc := hs3) | fail) (hk := ?_) | refine d_ef (hk := ?_) | (refine d_g ?_; first | refine d_spnd rfl rfl rfl (h1 := fun hc => ?_) (h2 := fun hc => ?_) | refine d_spd rfl rfl rfl (h1 := fun hc => ?_) (h2 := fun hc => ?_) | refine d_spn rfl rfl rfl (h1 := fun hc => ?_) (h2 := fun hc => ?_) | refine d_sp rfl rfl rfl (h1 := fun hc => ?_) (h2 := fun hc => ?_))) | (refine w_o ?_; first | refine w_draw (id := 9) (fun _ => true) (fun k => [].contains k) [] 64 (by kernel_rfl) rfl (by kernel_rfl) (by simp [nm, nset, -List.map_take, -List.map_drop]) ?_ | refine w_draw (id := 10) (fun _ => true) (fun k => [8].contains k) [[]] 64 (by kernel_rfl) rfl (by kernel_rfl) (by simp [nm, nset, -List.map_take, -List.map_drop]) ?_)
            refine en_le _ (le_perm [40, 1000000000000, 1000000000001, 1000000000002] rfl rfl) ?_
            exact en_m (junk := [(40, 1, List.map RVi L)]) (.inl rfl) Tryz.results58 rfl rfl rfl rfl
          · have hLn : 0 < L.length := List.length_pos_iff.2 hL0
            have hMex := l19Mex_ok L (by omega)
            unfold mexO at hopt
            rw [if_neg hL0] at hopt
            rw [hopt] at hMex
            repeat' first | apply w_seq | apply w_block | apply rb_n | apply rb_ret | apply rb_eq | refine rb_ne (by rfl) ?_ | apply w_exit | apply rt_exit | apply w_region | apply l_nil | apply rt_n | apply w_ret | apply rt_ret | apply w_skip | refine w_cond_t rfl ?_ | refine w_cond_f rfl ?_ | ((first | refine w_cnd rfl ?_ ?_ | refine w_cd rfl ?_ ?_ | refine w_cn rfl ?_ ?_ | refine w_cond rfl ?_ ?_) <;> intro hc) | (exfalso; omega) | (refine l_o ?_; first | refine l_eqnil rfl (by kernel_rfl) (by intro b; simp only [nz]; rfl) (fun b hb => ?_) | refine l_op rfl (by first | (apply k_callf; first | exact ops_callG (d := 129) [1000000000000, 1000000000001, 1000000000002] [] (BK c Ki Vi) (hfc := hs3) | exact ops_callz (d := 126) (hfc := hMex) | fail) | fail) (hk := ?_) | refine l_op (hk := ?_) | (refine l_g ?_; first | refine l_y rfl rfl rfl ?_ | refine l_n rfl rfl rfl rfl (hk := ?_) | refine l_n' rfl rfl rfl (hk := ?_) | refine l_spnd rfl rfl rfl (h1 := fun hc => ?_) (h2 := fun hc => ?_) | refine l_spd rfl rfl rfl (h1 := fun hc => ?_) (h2 := fun hc => ?_) | refine l_spn rfl rfl rfl (h1 := fun hc => ?_) (h2 := fun hc => ?_) | refine l_sp rfl rfl rfl (h1 := fun hc => ?_) (h2 := fun hc => ?_))) | refine d_nil ?_ | (refine d_o ?_; first | refine d_fl (hk := ?_) | refine d_ef rfl (by first | exact .callG (d := 129) [1000000000000, 1000000000001, 1000000000002] (BK c Ki Vi) (hfc := hs3) | exact .callz (d := 126) (hfc := hMex) | exact .callzY (d := 126) (hfc := hMex) | fail) (hk := ?_) | refine d_ef (hk := ?_) | (refine d_g ?_; first | refine d_spnd rfl rfl rfl (h1 := fun hc => ?_) (h2 := fun hc => ?_) | refine d_spd rfl rfl rfl (h1 := fun hc => ?_) (h2 := fun hc => ?_) | refine d_spn rfl rfl rfl (h1 := fun hc => ?_) (h2 := fun hc => ?_) | refine d_sp rfl rfl rfl (h1 := fun hc => ?_) (h2 := fun hc => ?_))) | (refine w_o ?_; first | refine w_draw (id := 9) (fun _ => true) (fun k => [].contains k) [] 64 (by kernel_rfl) rfl (by kernel_rfl) (by simp [nm, nset, -List.map_take, -List.map_drop]) ?_ | refine w_draw (id := 10) (fun _ => true) (fun k => [8].contains k) [[]] 64 (by kernel_rfl) rfl (by kernel_rfl) (by simp [nm, nset, -List.map_take, -List.map_drop]) ?_)
            refine en_le _ (le_perm [40, 1000000000000, 1000000000001, 1000000000002] rfl rfl) ?_
            exact en_m (junk := [(40, 1, List.map RVi L)]) (.inl rfl) Tryz.results58 rfl rfl rfl rfl
theorem svalue_all (c : List Int) (hc : gcode c = true) : ∀ (n : Nat) (h : List Int) (t o : Nat) (B : Bok), vld h t o → msH h t o < n → bookOk c B.1 B.2 → ∃ B' : Bok, bookOk c B'.1 B'.2 ∧ SVC c h t o B B'
  | 0, _, _, _, _, _, hn, _ => by omega
  | n + 1, h, t, o, B, hv, hn, hb => by
    by_cases hk : B.1.getD (plc B.1 (keyN h t o)) 0 = (keyN h t o : Nat)
    · exact ⟨B, hb, svalue_hit hb hv hk⟩
    · have ih := svalue_all c hc n
      have hnx : ∃ nx : List Int → Nat → Nat → Bok → Bok, ∀ p t' o' B, vld p t' o' → msH p t' o' < msH h t o → bookOk c B.1 B.2 → bookOk c (nx p t' o' B).1 (nx p t' o' B).2 ∧ SVC c p t' o' B (nx p t' o' B) := by
        classical
        refine ⟨fun p t' o' B => if H : ∃ B' : Bok, bookOk c B'.1 B'.2 ∧ SVC c p t' o' B B' then H.choose else B, fun p t' o' B h1 h2 h3 => ?_⟩
        have H := ih p t' o' B h1 (by omega) h3
        dsimp only
        rw [dif_pos H]
        exact H.choose_spec
      obtain ⟨nx, hnx⟩ := hnx
      obtain ⟨B3, hB3⟩ : ∃ B3 : Bok, B3 = if 0 < o then nx h t (o - 1) (if 0 < t then nx h (t - 1) o (nx h (t - 1) (o + 1) (bkL nx t o (vis c h) (B.1, B.2))) else bkL nx t o (vis c h) (B.1, B.2)) else (if 0 < t then nx h (t - 1) o (nx h (t - 1) (o + 1) (bkL nx t o (vis c h) (B.1, B.2))) else bkL nx t o (vis c h) (B.1, B.2)) := ⟨_, rfl⟩
      have key := svalue_miss hc hv hb hk nx hnx _ _ B3 rfl rfl hB3
      exact ⟨(B3.1.set (plc B3.1 (keyN h t o)) (keyN h t o : Nat), B3.2.set (plc B3.1 (keyN h t o)) (mv c h t o)), key.1.put hv, key.2⟩
end Go.Proofs.YtmfbcipjknjicaaGreatDoor
