/- The reference's table of misere values: made, looked into. For all tables as they are built. -/
import Derived.Test.YtmfbcipjknjicaaGreatDoorJ29
import Derived.Test.YtmfbcipjknjicaaGreatDoorPush
import Derived.Test.YtmfbcipjknjicaaGreatDoorSpS
namespace Go.Proofs.YtmfbcipjknjicaaGreatDoor
set_option linter.unusedSectionVars false
variable [One Bool]
open Eng
attribute [local irreducible] OpS OpG FC FCr Rel Fl Ef DR Fs
attribute [local simp] RV.fzR_names
set_option linter.unusedSimpArgs false
set_option linter.unusedVariables false
set_option maxHeartbeats 0
set_option maxRecDepth 100000

namespace Eng
theorem Gf.makeSliceM {P ops RO d t l c ty pos after s} {kl kc : IntKind} {n : Nat} (hl : s.get l = .v (.int kl (n : Nat))) (hc : s.get c = .v (.int kc (n : Nat))) (ht : P.underlying t = some (.slice (P.elem t))) (hw : P.cellsOf (P.elem t) = 1) {z : Value} (hz : zeroOf P (P.elem t) = some z) (h1 : z.oneCell' = true)
    (hb : (P.info? (P.elem t)).map (fun i => decide (i.bytes ≤ 64)) = some true) (hn : n ≤ 1099511627776) (hd : d < 1000000000000) : Gf P ops RO [d] ⟨some d, .makeSlice t l c, ty, pos, after, none⟩ s (.ref d 0 n) [(d, 1, List.replicate n (.v z))] :=
  Gf.plain fun s2 hs hn2 => ops_makeSlice (by rw [hs l (by simp [Op.operands])]; exact hl) (by rw [hs c (by simp [Op.operands])]; exact hc) ht hw hz h1 hb hn ⟨hd, (hn2 d (by simp)).1⟩ (hn2 d (by simp)).2
theorem Ef.boxaM {P : Program} {ops : Array Oper} {d : Tmp} {t x ty pos after s l} (hx : s.get x = .agg l) (h0 : 0 < l.length) (hd : d < 1000000000000) (hn : d ∉ RV.namesL l) (hO : d ∉ onames s.O) : Ef P ops [d] ⟨some d, .box t x, ty, pos, after, none⟩ s (.ptr d 0 0) ((d, l.length, [.agg l]) :: s.O) := by
  refine Ef.plain fun s2 hs hO2 hm => ?_
  rw [← hO2]
  exact ops_boxa (by rw [hs x (by simp [Op.operands])]; exact hx) h0 ⟨hd, hm d (by simp)⟩ (by rw [hO2]; exact hO) hn
end Eng
theorem l1HasM_ok (l : List Int) (x : Int) : FCr Tryz.prog 106 [RIs l, RVi x] (RVb (decide (x ∈ l))) := by
  refine fcr_lens fun hL => ?_
  simp only [lnk] at hL
  refine (fcr_in Tryz.func106 rfl (by simp only [Tryz.ntmps106, anys, List.length_cons, List.length_nil, Nat.reduceAdd, Nat.reduceSub, List.replicate_succ, List.replicate_zero, List.cons_append, List.nil_append] <;> rfl) ?_)
  repeat' first | apply w_seq | apply w_block | apply rb_n | apply rb_ret | apply rb_eq | refine rb_ne (by rfl) ?_ | apply w_exit | apply rt_exit | apply w_region | apply l_nil | apply rt_n | apply w_ret | apply rt_ret | apply w_skip | refine w_cond_t rfl ?_ | refine w_cond_f rfl ?_ | ((first | refine w_cnd rfl ?_ ?_ | refine w_cd rfl ?_ ?_ | refine w_cn rfl ?_ ?_ | refine w_cond rfl ?_ ?_) <;> intro hc) | (refine l_o ?_; first | refine l_eqnil rfl (by kernel_rfl) (by intro b; simp only [nz]; rfl) (fun b hb => ?_) | refine l_op (hk := ?_))
  refine w_loopk (ι := Nat) (fun k => [(5, RVn k)]) (fun k => k ≤ l.length ∧ (x ∈ l.drop k ↔ x ∈ l)) (fun k => l.length - k) 0 (h0 := ?_) (hs := ?_) (round := ?_)
  · simp
  · refine le_eq (by (repeat' first | exact .nil | refine .keep ?_ | refine .any ?_); first | done | fail) rfl rfl
  · intro k ⟨hk, hm⟩
    by_cases hkl : k < l.length
    · rw [List.drop_eq_getElem_cons hkl, List.mem_cons] at hm
      repeat' first | apply w_seq | apply w_block | apply rb_n | apply rb_ret | apply rb_eq | refine rb_ne (by rfl) ?_ | apply w_exit | apply rt_exit | apply w_region | apply l_nil | apply rt_n | apply w_ret | apply rt_ret | apply w_skip | refine w_cond_t rfl ?_ | refine w_cond_f rfl ?_ | ((first | refine w_cnd rfl ?_ ?_ | refine w_cd rfl ?_ ?_ | refine w_cn rfl ?_ ?_ | refine w_cond rfl ?_ ?_) <;> intro hc) | (exfalso; omega) | (refine l_o ?_; first | refine l_eqnil rfl (by kernel_rfl) (by intro b; simp only [nz]; rfl) (fun b hb => ?_) | refine l_op (hk := ?_))
      · refine en_one (hf := Tryz.results106) (h := ?_); simp only [lget]; first | refine congrArg RVb ?_ | refine congrArg RVi ?_ | skip
        rw [eq_comm, decide_eq_true_eq]
        exact hm.1 (.inl hc.symm)
      · refine rn_mk (k + 1) ?_ (by first | omega | (dsimp only; omega)) (le_eq (by (repeat' first | exact .nil | refine .keep ?_ | refine .any ?_); first | done | fail) rfl rfl)
        exact ⟨by omega, by rw [← hm]; exact ⟨.inr, fun h => h.resolve_left (fun e => hc e.symm)⟩⟩
    · rw [List.drop_eq_nil_of_le (by omega)] at hm
      repeat' first | apply w_seq | apply w_block | apply rb_n | apply rb_ret | apply rb_eq | refine rb_ne (by rfl) ?_ | apply w_exit | apply rt_exit | apply w_region | apply l_nil | apply rt_n | apply w_ret | apply rt_ret | apply w_skip | refine w_cond_t rfl ?_ | refine w_cond_f rfl ?_ | ((first | refine w_cnd rfl ?_ ?_ | refine w_cd rfl ?_ ?_ | refine w_cn rfl ?_ ?_ | refine w_cond rfl ?_ ?_) <;> intro hc) | (exfalso; omega) | (refine l_o ?_; first | refine l_eqnil rfl (by kernel_rfl) (by intro b; simp only [nz]; rfl) (fun b hb => ?_) | refine l_op (hk := ?_))
      refine en_one (hf := Tryz.results106) (h := ?_); simp only [lget]; first | refine congrArg RVb ?_ | refine congrArg RVi ?_ | skip
      rw [eq_comm, decide_eq_false_iff_not, ← hm]
      simp
theorem l19Mex_ok (l : List Int) (hl : l.length ≤ 1048576) : FCr Tryz.prog 89 [RIs l] (RVi ((mexL l : Nat) : Int)) := by
  refine (fcr_in Tryz.func89 rfl (by simp only [Tryz.ntmps89, anys, List.length_cons, List.length_nil, Nat.reduceAdd, Nat.reduceSub, List.replicate_succ, List.replicate_zero, List.cons_append, List.nil_append] <;> rfl) ?_)
  repeat' first | apply w_seq | apply w_block | apply rb_n | apply rb_ret | apply rb_eq | refine rb_ne (by rfl) ?_ | apply w_exit | apply rt_exit | apply w_region | apply l_nil | apply rt_n | apply w_ret | apply rt_ret | apply w_skip | refine w_cond_t rfl ?_ | refine w_cond_f rfl ?_ | ((first | refine w_cnd rfl ?_ ?_ | refine w_cd rfl ?_ ?_ | refine w_cn rfl ?_ ?_ | refine w_cond rfl ?_ ?_) <;> intro hc) | (refine l_o ?_; first | refine l_op (hk := ?_))
  refine w_loopm (ι := Nat) (fun n => [(3, RVn n)]) (fun _ => []) (fun n => ∀ j < n, ((j : Nat) : Int) ∈ l) (fun n => l.length + 1 - n) 0 (h0 := ?_) (hs := ?_) (round := ?_)
  · intro j hj; omega
  · refine le_eq (by (repeat' first | exact .nil | refine .keep ?_ | refine .any ?_); first | done | fail) rfl rfl
  · intro n hb
    have hnl := below_len hb
    have hH := l1HasM_ok l (n : Int)
    by_cases hn : (n : Int) ∈ l
    · rw [decide_eq_true hn] at hH
      repeat' first | apply w_seq | apply w_block | apply rb_n | apply rb_ret | apply rb_eq | refine rb_ne (by rfl) ?_ | apply w_exit | apply rt_exit | apply w_region | apply l_nil | apply rt_n | apply w_ret | apply rt_ret | apply w_skip | refine w_cond_t rfl ?_ | refine w_cond_f rfl ?_ | ((first | refine w_cnd rfl ?_ ?_ | refine w_cd rfl ?_ ?_ | refine w_cn rfl ?_ ?_ | refine w_cond rfl ?_ ?_) <;> intro hc) | (refine l_o ?_; first | refine l_op rfl (by first | (apply k_callf; first | exact ops_callf (hfc := hH) | fail) | fail) (hk := ?_) | refine l_op (hk := ?_))
      refine rn_mk (n + 1) ?_ (by first | omega | (dsimp only; omega)) (le_eq (by (repeat' first | exact .nil | refine .keep ?_ | refine .any ?_); first | done | fail) rfl rfl)
      intro j hj
      rcases Nat.lt_or_ge j n with h | h
      · exact hb j h
      · obtain rfl : j = n := by omega
        exact hn
    · rw [decide_eq_false hn] at hH
      repeat' first | apply w_seq | apply w_block | apply rb_n | apply rb_ret | apply rb_eq | refine rb_ne (by rfl) ?_ | apply w_exit | apply rt_exit | apply w_region | apply l_nil | apply rt_n | apply w_ret | apply rt_ret | apply w_skip | refine w_cond_t rfl ?_ | refine w_cond_f rfl ?_ | ((first | refine w_cnd rfl ?_ ?_ | refine w_cd rfl ?_ ?_ | refine w_cn rfl ?_ ?_ | refine w_cond rfl ?_ ?_) <;> intro hc) | (refine l_o ?_; first | refine l_op rfl (by first | (apply k_callf; first | exact ops_callf (hfc := hH) | fail) | fail) (hk := ?_) | refine l_op (hk := ?_))
      refine en_one (hf := Tryz.results89) (h := ?_); simp only [lget]; first | refine congrArg RVb ?_ | refine congrArg RVi ?_ | skip
      rw [mexL_eq hn hb]

abbrev BK (c K V : List Int) : List Bk := [(1000000000000, 3, [.agg [RIs c, .ref 1000000000001 0 8192, .ref 1000000000002 0 8192]]), (1000000000001, 1, K.map RVi), (1000000000002, 1, V.map RVi)]
theorem getD_at {K : List Int} {j : Nat} (h : j < K.length) : K.getD j 0 = K[j] := by simp [List.getD_eq_getElem?_getD, h]
theorem l19New_ok (c : List Int) : FC Tryz.prog 37 [RIs c] [] fun rv O => rv = .ptr 9 0 0 ∧ O = [(9, 3, [.agg [RIs c, .ref 6 0 8192, .ref 7 0 8192]]), (6, 1, (List.replicate 8192 (-1 : Int)).map RVi), (7, 1, (List.replicate 8192 (0 : Int)).map RVi)] := by
  obtain ⟨N, hN⟩ : ∃ N : Nat, N = 8192 := ⟨_, rfl⟩
  rw [show (8192 : Nat) = N from hN.symm]
  have hE : ∀ K : List Int, K.length = N → (∀ j : Nat, j < N → K.getD j 0 = -1) → K = List.replicate N (-1) := fun K hl hj => by
    refine List.ext_getElem (by rw [hl, List.length_replicate]) fun i h1 h2 => ?_
    rw [List.getElem_replicate, ← getD_at h1]
    exact hj i (by omega)
  have hZl : (List.replicate N (0 : Int)).length = N := List.length_replicate
  refine (fc_in Tryz.func37 rfl (by simp only [Tryz.ntmps37, anys, List.length_cons, List.length_nil, Nat.reduceAdd, Nat.reduceSub, List.replicate_succ, List.replicate_zero, List.cons_append, List.nil_append] <;> rfl) ?_)
  repeat' first | apply w_seq | apply w_block | apply rb_n | apply rb_ret | apply rb_eq | refine rb_ne (by rfl) ?_ | apply w_exit | apply rt_exit | apply w_region | apply l_nil | apply rt_n | apply w_ret | apply rt_ret | apply w_skip | refine w_cond_t rfl ?_ | refine w_cond_f rfl ?_ | ((first | refine w_cnd rfl ?_ ?_ | refine w_cd rfl ?_ ?_ | refine w_cn rfl ?_ ?_ | refine w_cond rfl ?_ ?_) <;> intro hc) | (refine w_drawP (id := 1) (roL []) (fun k => k == 4) [(1, 6), (2, 7), (4, 9)] (by kernel_rfl) rfl (by kernel_rfl) rfl (by decide) (by simp [nm, onames]) ?_) | (refine l_o ?_; first | refine l_op (hk := ?_)) | refine d_nil ?_ | (refine d_o ?_; first | refine d_fl (hk := ?_) | refine d_ef (hk := ?_)) | (refine w_o ?_; first | refine w_draw (id := 1) (fun _ => true) (fun k => [1, 2, 4].contains k) [[], [], []] 64 (by kernel_rfl) rfl (by kernel_rfl) (by simp [nm, nset, -List.map_take, -List.map_drop]) ?_)
  repeat' first | refine p_nil ?_ | refine p_pu (.makeSliceM (n := N) (by subst hN; rfl) (by subst hN; rfl) (by kernel_rfl) (by kernel_rfl) rfl rfl (by kernel_rfl) (by omega) (by decide)) (hk := ?_) | refine p_ef (.boxaM rfl (by simp) (by decide) (by simp [nm]) (by simp [nm, onames])) (hk := ?_) | refine p_fl (hk := ?_)
  repeat' first | apply w_seq | apply w_block | apply rb_n | apply rb_ret | apply rb_eq | refine rb_ne (by rfl) ?_ | apply w_exit | apply rt_exit | apply w_region | apply l_nil | apply rt_n | apply w_ret | apply rt_ret | apply w_skip | refine w_cond_t rfl ?_ | refine w_cond_f rfl ?_ | ((first | refine w_cnd rfl ?_ ?_ | refine w_cd rfl ?_ ?_ | refine w_cn rfl ?_ ?_ | refine w_cond rfl ?_ ?_) <;> intro hc) | (refine l_o ?_; first | refine l_op (hk := ?_)) | refine d_nil ?_ | (refine d_o ?_; first | refine d_fl (hk := ?_) | refine d_ef (hk := ?_)) | (refine w_o ?_; first | refine w_draw (id := 1) (fun _ => true) (fun k => [1, 2, 4].contains k) [[], [], []] 64 (by kernel_rfl) rfl (by kernel_rfl) (by simp [nm, nset, -List.map_take, -List.map_drop]) ?_)
  refine w_loopm (ι := Nat × List Int) (fun q => [(4, RVn q.1), (10, .any)]) (fun q => [(9, 3, [.agg [RIs c, .ref 6 0 N, .ref 7 0 N]]), (7, 1, (List.replicate N (0 : Int)).map RVi), (6, 1, q.2.map RVi)]) (fun q => q.1 ≤ N ∧ q.2.length = N ∧ ∀ j : Nat, j < q.1 → q.2.getD j 0 = -1) (fun q => N - q.1) (0, List.replicate N (0 : Int)) (h0 := ?_) (hs := ?_) (round := ?_)
  · exact ⟨Nat.zero_le _, hZl, fun j hj => by omega⟩
  · refine le_eq (by (repeat' first | exact .nil | refine .keep ?_ | refine .any ?_); first | done | fail) rfl (by simp)
  · intro ⟨j, K⟩ ⟨hj, hKl, hK⟩
    dsimp only at hj hKl hK ⊢
    by_cases hj2 : j < N
    · repeat' first | apply w_seq | apply w_block | apply rb_n | apply rb_ret | apply rb_eq | refine rb_ne (by rfl) ?_ | apply w_exit | apply rt_exit | apply w_region | apply l_nil | apply rt_n | apply w_ret | apply rt_ret | apply w_skip | refine w_cond_t rfl ?_ | refine w_cond_f rfl ?_ | ((first | refine w_cnd rfl ?_ ?_ | refine w_cd rfl ?_ ?_ | refine w_cn rfl ?_ ?_ | refine w_cond rfl ?_ ?_) <;> intro hc) | (exfalso; omega) | (refine l_o ?_; first | refine l_op (hk := ?_)) | refine d_nil ?_ | (refine d_o ?_; first | refine d_fl (hk := ?_) | refine d_ef (hk := ?_)) | (refine w_o ?_; first | refine w_draw (id := 1) (fun _ => true) (fun k => [1, 2, 4].contains k) [[], [], []] 64 (by kernel_rfl) rfl (by kernel_rfl) (by simp [nm, nset, -List.map_take, -List.map_drop]) ?_)
      refine rn_mk (j + 1, K.set j (-1)) ?_ (by first | omega | (dsimp only; omega)) (le_eq (by (repeat' first | exact .nil | refine .keep ?_ | refine .any ?_); first | done | fail) rfl rfl)
      refine ⟨hj2, by dsimp only; rw [List.length_set]; exact hKl, fun i hi => ?_⟩
      dsimp only
      rw [getD_set2 _ _ _ _ (by omega)]
      split
      · rfl
      · exact hK i (by dsimp only at hi; omega)
    · obtain rfl : j = N := by omega
      have := hE K hKl hK
      subst this
      repeat' first | apply w_seq | apply w_block | apply rb_n | apply rb_ret | apply rb_eq | refine rb_ne (by rfl) ?_ | apply w_exit | apply rt_exit | apply w_region | apply l_nil | apply rt_n | apply w_ret | apply rt_ret | apply w_skip | refine w_cond_t rfl ?_ | refine w_cond_f rfl ?_ | ((first | refine w_cnd rfl ?_ ?_ | refine w_cd rfl ?_ ?_ | refine w_cn rfl ?_ ?_ | refine w_cond rfl ?_ ?_) <;> intro hc) | (exfalso; omega) | (refine l_o ?_; first | refine l_op (hk := ?_)) | refine d_nil ?_ | (refine d_o ?_; first | refine d_fl (hk := ?_) | refine d_ef (hk := ?_)) | (refine w_o ?_; first | refine w_draw (id := 1) (fun _ => true) (fun k => [1, 2, 4].contains k) [[], [], []] 64 (by kernel_rfl) rfl (by kernel_rfl) (by simp [nm, nset, -List.map_take, -List.map_drop]) ?_)
      refine en_le _ (le_perm [9, 6, 7] rfl rfl) ?_
      exact en_m (junk := []) (.inl rfl) Tryz.results37 rfl rfl rfl rfl
theorem stopAt_at {K : List Int} {key i : Nat} (h : i < K.length) : stopAt K key i ↔ (K[i] < 0 ∨ K[i] = (key : Nat)) := by unfold stopAt; rw [getD_at h]
theorem slot_ok (c K V : List Int) (hb : bookOk c K V) (key : Nat) (hk : key < 1000000000000) : FC Tryz.prog 86 [.ptr 1000000000000 0 0, RVn key] (BK c K V) fun rv O => rv = RVn (plc K key) ∧ O = BK c K V := by
  obtain ⟨s1, s2, s3⟩ := hb.slt key
  have hKl := hb.kl
  have hVl := hb.vl
  unfold plc
  generalize sltN K key = S at *
  have hp0 : ((key % 8191 : Nat) : Int) = (plN key 0 : Nat) := by unfold plN; omega
  refine (fc_in Tryz.func86 rfl (by simp only [Tryz.ntmps86, anys, List.length_cons, List.length_nil, Nat.reduceAdd, Nat.reduceSub, List.replicate_succ, List.replicate_zero, List.cons_append, List.nil_append] <;> rfl) ?_)
  repeat' first | apply w_seq | apply w_block | apply rb_n | apply rb_ret | apply rb_eq | refine rb_ne (by rfl) ?_ | apply w_exit | apply rt_exit | apply w_region | apply l_nil | apply rt_n | apply w_ret | apply rt_ret | apply w_skip | refine w_cond_t rfl ?_ | refine w_cond_f rfl ?_ | ((first | refine w_cnd rfl ?_ ?_ | refine w_cd rfl ?_ ?_ | refine w_cn rfl ?_ ?_ | refine w_cond rfl ?_ ?_) <;> intro hc) | (refine l_o ?_; first | refine l_op rfl (by first | (apply k_rem; first | exact ops_remn (m := key) (n := 8191) rfl rfl (by omega) | fail) | fail) (hk := ?_) | refine l_op (hk := ?_) | (refine l_g ?_; first | refine l_y rfl rfl rfl ?_ | refine l_n rfl rfl rfl rfl (hk := ?_) | refine l_n' rfl rfl rfl (hk := ?_) | refine l_spnd rfl rfl rfl (h1 := fun hc => ?_) (h2 := fun hc => ?_) | refine l_spd rfl rfl rfl (h1 := fun hc => ?_) (h2 := fun hc => ?_) | refine l_spn rfl rfl rfl (h1 := fun hc => ?_) (h2 := fun hc => ?_) | refine l_sp rfl rfl rfl (h1 := fun hc => ?_) (h2 := fun hc => ?_)))
  rw [hp0]
  refine w_loopm (ι := Nat) (fun d => [(5, RVn (plN key d)), (7, .any)]) (fun _ => BK c K V) (fun d => d ≤ S ∧ ∀ e, e < d → ¬ stopAt K key (plN key e)) (fun d => S - d) 0 (h0 := ?_) (hs := ?_) (round := ?_)
  · exact ⟨Nat.zero_le _, fun e he => by omega⟩
  · refine le_eq (by (repeat' first | exact .nil | refine .keep ?_ | refine .any ?_); first | done | fail) rfl rfl
  · intro d ⟨hd, hs⟩
    have hlt : plN key d < K.length := by rw [hKl]; exact plN_lt key d
    have hst := stopAt_at (K := K) (key := key) (i := plN key d) hlt
    have hsu := plN_succ key d
    have hsu2 : (((plN key d + 1) % 8192 : Nat) : Int) = (plN key (d + 1) : Nat) := by rw [hsu]
    have hS : stopAt K key (plN key d) ↔ d = S := by
      constructor
      · intro h
        rcases Nat.lt_or_ge d S with h1 | h1
        · exact absurd h (s3 d h1)
        · omega
      · rintro rfl; exact s2
    rw [hst] at hS
    generalize hi2 : plN key (d + 1) = i2 at *
    generalize hi : plN key d = i at *
    by_cases hz : K[i] < 0 ∨ K[i] = (key : Nat)
    · have e := hS.1 hz
      repeat' first | apply w_seq | apply w_block | apply rb_n | apply rb_ret | apply rb_eq | refine rb_ne (by rfl) ?_ | apply w_exit | apply rt_exit | apply w_region | apply l_nil | apply rt_n | apply w_ret | apply rt_ret | apply w_skip | refine w_cond_t rfl ?_ | refine w_cond_f rfl ?_ | ((first | refine w_cnd rfl ?_ ?_ | refine w_cd rfl ?_ ?_ | refine w_cn rfl ?_ ?_ | refine w_cond rfl ?_ ?_) <;> intro hc) | (exfalso; omega) | (refine l_o ?_; first | refine l_op rfl (by first | (apply k_rem; first | exact ops_remn (m := i + 1) (n := 8192) rfl rfl (by omega) | fail) | fail) (hk := ?_) | refine l_op (hk := ?_) | (refine l_g ?_; first | refine l_y rfl rfl rfl ?_ | refine l_n rfl rfl rfl rfl (hk := ?_) | refine l_n' rfl rfl rfl (hk := ?_) | refine l_spnd rfl rfl rfl (h1 := fun hc => ?_) (h2 := fun hc => ?_) | refine l_spd rfl rfl rfl (h1 := fun hc => ?_) (h2 := fun hc => ?_) | refine l_spn rfl rfl rfl (h1 := fun hc => ?_) (h2 := fun hc => ?_) | refine l_sp rfl rfl rfl (h1 := fun hc => ?_) (h2 := fun hc => ?_)))
      all_goals
        rw [← e, hi]
        exact en_m (junk := []) (.inl rfl) Tryz.results86 rfl rfl rfl rfl
    · have e : d ≠ S := fun h => hz (hS.2 h)
      repeat' first | apply w_seq | apply w_block | apply rb_n | apply rb_ret | apply rb_eq | refine rb_ne (by rfl) ?_ | apply w_exit | apply rt_exit | apply w_region | apply l_nil | apply rt_n | apply w_ret | apply rt_ret | apply w_skip | refine w_cond_t rfl ?_ | refine w_cond_f rfl ?_ | ((first | refine w_cnd rfl ?_ ?_ | refine w_cd rfl ?_ ?_ | refine w_cn rfl ?_ ?_ | refine w_cond rfl ?_ ?_) <;> intro hc) | (exfalso; omega) | (refine l_o ?_; first | refine l_op rfl (by first | (apply k_rem; first | exact ops_remn (m := i + 1) (n := 8192) rfl rfl (by omega) | fail) | fail) (hk := ?_) | refine l_op (hk := ?_) | (refine l_g ?_; first | refine l_y rfl rfl rfl ?_ | refine l_n rfl rfl rfl rfl (hk := ?_) | refine l_n' rfl rfl rfl (hk := ?_) | refine l_spnd rfl rfl rfl (h1 := fun hc => ?_) (h2 := fun hc => ?_) | refine l_spd rfl rfl rfl (h1 := fun hc => ?_) (h2 := fun hc => ?_) | refine l_spn rfl rfl rfl (h1 := fun hc => ?_) (h2 := fun hc => ?_) | refine l_sp rfl rfl rfl (h1 := fun hc => ?_) (h2 := fun hc => ?_)))
      · rw [hsu2, ← hi2]
        refine rn_mk (d + 1) ?_ (by first | omega | (dsimp only; omega)) (le_eq (by (repeat' first | exact .nil | refine .keep ?_ | refine .any ?_); first | done | fail) rfl rfl)
        refine ⟨by omega, fun q hq => ?_⟩
        rcases Nat.lt_or_ge q d with h | h
        · exact hs q h
        · obtain rfl : q = d := by omega
          rw [hi, hst]; exact hz
      all_goals (exfalso; omega)

/-! A position's number. -/
theorem keyF_take (h : List Int) (j : Nat) (a : Nat) (hj : j < 20) : keyF h (ks20.take (j + 1)) a = keyF h (ks20.take j) a * (20 / (j + 1) + 1) + cntN h (j + 1) := by
  have e : ks20.take (j + 1) = ks20.take j ++ [j + 1] := by
    have hl : ks20.length = 20 := rfl
    rw [List.take_succ_eq_append_getElem (by omega)]
    congr 2
    have e2 : ks20 = (List.range 20).map (· + 1) := by decide
    simp [e2]
  rw [e, keyF, List.foldl_append]; rfl
theorem keyF_part {h : List Int} {t o : Nat} (hv : vld h t o) (j : Nat) (hj : j ≤ 20) : keyF h (ks20.take j) (8 * t + o) < 1000000000000 := by
  obtain ⟨a1, a2, a3, a4⟩ := vld_le hv
  have h1 := keyF_le h (ks20.take j) (8 * t + o) 27 (by omega) fun k hk => cnt_div hv (by have := (ks20_mem.1 (List.mem_of_mem_take hk)).1; omega)
  have h2 : ∀ j, j ≤ 20 → (ks20.take j).foldl (fun a k => a * (20 / k + 1) + 20 / k) 27 < 1000000000000 := by decide +kernel
  have := h2 j hj
  omega
theorem cnt_succ {h : List Int} {i : Nat} (hi : i < h.length) (k : Nat) : cntN (h.take (i + 1)) k = cntN (h.take i) k + if h[i] = (k : Int) then 1 else 0 := by
  unfold cntN
  rw [List.take_succ_eq_append_getElem hi, List.count_append, List.count_cons, List.count_nil]
  by_cases e : h[i] = (k : Int)
  · simp [e]
  · simp [e]
theorem l19Key_ok {h : List Int} {t o : Nat} (hv : vld h t o) : FCr Tryz.prog 85 [RIs h, RVn t, RVn o] (RVn (keyN h t o)) := by
  obtain ⟨a1, a2, a3, a4⟩ := vld_le hv
  have hP := keyF_part hv
  have hT := keyF_take h
  have hfin : keyN h t o = keyF h (ks20.take 20) (8 * t + o) := rfl
  have h0 : keyF h (ks20.take 0) (8 * t + o) = 8 * t + o := rfl
  have hcd : ∀ k, 0 < k → cntN h k ≤ 20 := fun k hk => Nat.le_trans (cnt_div hv hk) (Nat.div_le_self _ _)
  refine (fcr_in Tryz.func85 rfl (by simp only [Tryz.ntmps85, anys, List.length_cons, List.length_nil, Nat.reduceAdd, Nat.reduceSub, List.replicate_succ, List.replicate_zero, List.cons_append, List.nil_append] <;> rfl) ?_)
  repeat' first | apply w_seq | apply w_block | apply rb_n | apply rb_ret | apply rb_eq | refine rb_ne (by rfl) ?_ | apply w_exit | apply rt_exit | apply w_region | apply l_nil | apply rt_n | apply w_ret | apply rt_ret | apply w_skip | refine w_cond_t rfl ?_ | refine w_cond_f rfl ?_ | ((first | refine w_cnd rfl ?_ ?_ | refine w_cd rfl ?_ ?_ | refine w_cn rfl ?_ ?_ | refine w_cond rfl ?_ ?_) <;> intro hc) | (refine l_o ?_; first | refine l_op rfl (by first | (apply k_makeSlice; first | exact ops_makeSlice (n := 21) rfl rfl (by kernel_rfl) (by kernel_rfl) rfl rfl (by kernel_rfl) (by omega) (by simp [nm, nset, -List.map_take, -List.map_drop]) (by simp [nm, nset, -List.map_take, -List.map_drop]) | fail) | fail) (hk := ?_) | refine l_op (hk := ?_)) | refine d_nil ?_ | (refine d_o ?_; first | refine d_fl (hk := ?_) | refine d_ef (hk := ?_)) | (refine w_o ?_; first | refine w_draw (id := 10) (fun _ => true) (fun k => [].contains k) [] 64 (by kernel_rfl) rfl (by kernel_rfl) (by simp [nm, nset, -List.map_take, -List.map_drop]) ?_)
  have hcl : ∀ (l : List Int) (k : Nat), cntN l k ≤ l.length := fun l k => List.count_le_length
  refine w_loopm (ι := Nat × List Int) (fun q => [(8, RVn q.1)]) (fun q => [(11, 1, q.2.map RVi)]) (fun q => q.1 ≤ h.length ∧ q.2.length = 21 ∧ ∀ k : Nat, k < 21 → q.2.getD k 0 = cntN (h.take q.1) k) (fun q => h.length - q.1) (0, List.replicate 21 (0 : Int)) (h0 := ?_) (hs := ?_) (round := ?_)
  · exact ⟨Nat.zero_le _, List.length_replicate, fun k hk => by rw [getD_rep _ _ hk]; simp [cntN]⟩
  · refine le_eq (by (repeat' first | exact .nil | refine .keep ?_ | refine .any ?_); first | done | fail) rfl rfl
  · intro ⟨i, C⟩ ⟨hi, hCl, hC⟩
    dsimp only at hi hCl hC ⊢
    by_cases hi2 : i < h.length
    · have hx := a4 _ (List.getElem_mem hi2)
      have hCx : C[h[i].toNat]'(by omega) = cntN (h.take i) h[i].toNat := by rw [← hC _ (by omega), getD_at (by omega)]
      have hle := hcl (h.take i) h[i].toNat
      simp only [List.length_take] at hle
      have hsu := cnt_succ hi2
      repeat' first | apply w_seq | apply w_block | apply rb_n | apply rb_ret | apply rb_eq | refine rb_ne (by rfl) ?_ | apply w_exit | apply rt_exit | apply w_region | apply l_nil | apply rt_n | apply w_ret | apply rt_ret | apply w_skip | refine w_cond_t rfl ?_ | refine w_cond_f rfl ?_ | ((first | refine w_cnd rfl ?_ ?_ | refine w_cd rfl ?_ ?_ | refine w_cn rfl ?_ ?_ | refine w_cond rfl ?_ ?_) <;> intro hc) | (exfalso; omega) | (refine l_o ?_; first | refine l_op (hk := ?_)) | refine d_nil ?_ | (refine d_o ?_; first | refine d_fl (hk := ?_) | refine d_ef (hk := ?_)) | (refine w_o ?_; first | refine w_draw (id := 10) (fun _ => true) (fun k => [].contains k) [] 64 (by kernel_rfl) rfl (by kernel_rfl) (by simp [nm, nset, -List.map_take, -List.map_drop]) ?_)
      refine rn_mk (i + 1, C.set h[i].toNat (C[h[i].toNat]'(by omega) + 1)) ?_ (by first | omega | (dsimp only; omega)) (le_eq (by (repeat' first | exact .nil | refine .keep ?_ | refine .any ?_); first | done | fail) rfl rfl)
      refine ⟨hi2, by dsimp only; rw [List.length_set]; exact hCl, fun k hk => ?_⟩
      dsimp only at hk ⊢
      rw [getD_set2 _ _ _ _ (by omega), hsu, hCx, hC k hk]
      by_cases e : h[i].toNat = k
      · rw [if_pos e, if_pos (by omega), ← e]; omega
      · rw [if_neg e, if_neg (by omega)]; omega
    · obtain rfl : i = h.length := by omega
      rw [List.take_length] at hC
      have hCk : ∀ j : Nat, (hj : j < 20) → C[j + 1]'(by omega) = ((cntN h (j + 1) : Nat) : Int) := fun j hj => by rw [← hC _ (by omega), getD_at (by omega)]
      repeat' first | apply w_seq | apply w_block | apply rb_n | apply rb_ret | apply rb_eq | refine rb_ne (by rfl) ?_ | apply w_exit | apply rt_exit | apply w_region | apply l_nil | apply rt_n | apply w_ret | apply rt_ret | apply w_skip | refine w_cond_t rfl ?_ | refine w_cond_f rfl ?_ | ((first | refine w_cnd rfl ?_ ?_ | refine w_cd rfl ?_ ?_ | refine w_cn rfl ?_ ?_ | refine w_cond rfl ?_ ?_) <;> intro hc) | (exfalso; omega) | (refine l_o ?_; first | refine l_op rfl (by first | (apply k_mul; first | exact ops_muln (m := 8) (n := t) rfl rfl (by omega) | fail) | (apply k_add; first | exact ops_addn (a := 8 * t) (b := o) rfl rfl (by omega) | fail) | fail) (hk := ?_) | refine l_op (hk := ?_)) | refine d_nil ?_ | (refine d_o ?_; first | refine d_fl rfl (by first | exact .pl (by first | (apply q_mul; first | exact fs_muln (m := 8) (n := t) rfl rfl (by omega) | fail) | (apply q_add; first | exact fs_addn (a := 8 * t) (b := o) rfl rfl (by omega) | fail) | fail) | fail) (hk := ?_) | refine d_fl (hk := ?_) | refine d_ef (hk := ?_)) | (refine w_o ?_; first | refine w_draw (id := 10) (fun _ => true) (fun k => [].contains k) [] 64 (by kernel_rfl) rfl (by kernel_rfl) (by simp [nm, nset, -List.map_take, -List.map_drop]) ?_)
      refine w_loopm (ι := Nat) (fun j => [(10, RVn (j + 1)), (9, RVn (keyF h (ks20.take j) (8 * t + o)))]) (fun _ => [(11, 1, C.map RVi)]) (fun j => j ≤ 20) (fun j => 20 - j) 0 (h0 := ?_) (hs := ?_) (round := ?_)
      · exact Nat.zero_le _
      · refine le_eq (by (repeat' first | exact .nil | refine .keep ?_ | refine .any ?_); first | done | fail) rfl rfl
      · intro j hj
        by_cases hj2 : j < 20
        · have hp1 := hP (j + 1) (by omega)
          have hp0 := hP j (by omega)
          rw [hT _ _ hj2] at hp1
          have hcj := hCk j hj2
          have hd : 20 / (j + 1) ≤ 20 := Nat.div_le_self _ _
          have hsu := hT j (8 * t + o) hj2
          generalize hZ2e : keyF h (ks20.take (j + 1)) (8 * t + o) = Z2 at *
          generalize keyF h (ks20.take j) (8 * t + o) = Z at *
          generalize cntN h (j + 1) = n at *
          have hmul : Z * (20 / (j + 1) + 1) < 1000000000000 := by omega
          repeat' first | apply w_seq | apply w_block | apply rb_n | apply rb_ret | apply rb_eq | refine rb_ne (by rfl) ?_ | apply w_exit | apply rt_exit | apply w_region | apply l_nil | apply rt_n | apply w_ret | apply rt_ret | apply w_skip | refine w_cond_t rfl ?_ | refine w_cond_f rfl ?_ | ((first | refine w_cnd rfl ?_ ?_ | refine w_cd rfl ?_ ?_ | refine w_cn rfl ?_ ?_ | refine w_cond rfl ?_ ?_) <;> intro hc) | (exfalso; omega) | (refine l_o ?_; first | refine l_op rfl (by first | (apply k_quo; first | exact ops_quon (m := 20) (n := j + 1) rfl rfl (by omega) (by omega) | fail) | (apply k_mul; first | exact ops_muln (m := Z) (n := 20 / (j + 1) + 1) rfl rfl (by omega) | fail) | (apply k_add; first | exact ops_add (m := ((Z * (20 / (j + 1) + 1) : Nat) : Int)) rfl rfl (by omega) (by omega) | fail) | fail) (hk := ?_) | refine l_op (hk := ?_)) | refine d_nil ?_ | (refine d_o ?_; first | refine d_fl rfl (by first | exact .pl (by first | (apply q_quo; first | exact fs_quon (m := 20) (n := j + 1) rfl rfl (by omega) (by omega) | fail) | (apply q_mul; first | exact fs_muln (m := Z) (n := 20 / (j + 1) + 1) rfl rfl (by omega) | fail) | (apply q_add; first | exact fs_add (m := ((Z * (20 / (j + 1) + 1) : Nat) : Int)) rfl rfl (by omega) (by omega) | fail) | fail) | fail) (hk := ?_) | refine d_fl (hk := ?_) | refine d_ef (hk := ?_)) | (refine w_o ?_; first | refine w_draw (id := 10) (fun _ => true) (fun k => [].contains k) [] 64 (by kernel_rfl) rfl (by kernel_rfl) (by simp [nm, nset, -List.map_take, -List.map_drop]) ?_)
          have hv2 : ((Z * (20 / (j + 1) + 1) : Nat) : Int) + C[j + 1]'(by omega) = ((Z2 : Nat) : Int) := by rw [hcj]; omega
          rw [hv2]
          have hZ2 : Z2 = keyF h (ks20.take (j + 1)) (8 * t + o) := hZ2e.symm
          rw [hZ2]
          refine rn_mk (j + 1) ?_ (by first | omega | (dsimp only; omega)) (le_eq (by (repeat' first | exact .nil | refine .keep ?_ | refine .any ?_); first | done | fail) rfl rfl)
          omega
        · obtain rfl : j = 20 := by omega
          rw [← hfin]
          repeat' first | apply w_seq | apply w_block | apply rb_n | apply rb_ret | apply rb_eq | refine rb_ne (by rfl) ?_ | apply w_exit | apply rt_exit | apply w_region | apply l_nil | apply rt_n | apply w_ret | apply rt_ret | apply w_skip | refine w_cond_t rfl ?_ | refine w_cond_f rfl ?_ | ((first | refine w_cnd rfl ?_ ?_ | refine w_cd rfl ?_ ?_ | refine w_cn rfl ?_ ?_ | refine w_cond rfl ?_ ?_) <;> intro hc) | (exfalso; omega) | (refine l_o ?_; first | refine l_op (hk := ?_)) | refine d_nil ?_ | (refine d_o ?_; first | refine d_fl (hk := ?_) | refine d_ef (hk := ?_)) | (refine w_o ?_; first | refine w_draw (id := 10) (fun _ => true) (fun k => [].contains k) [] 64 (by kernel_rfl) rfl (by kernel_rfl) (by simp [nm, nset, -List.map_take, -List.map_drop]) ?_)
          refine en_one (hf := Tryz.results85) (h := ?_); simp only [lget]; first | refine congrArg RVb ?_ | refine congrArg RVi ?_ | skip
end Go.Proofs.YtmfbcipjknjicaaGreatDoor
