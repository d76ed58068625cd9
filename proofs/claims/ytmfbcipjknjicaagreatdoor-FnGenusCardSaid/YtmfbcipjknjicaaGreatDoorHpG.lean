/- The program's looks at a code and at heaps: are they good, how many objects are there. For all lists of at most 2^20 numbers. -/
import Derived.Test.YtmfbcipjknjicaaGreatDoorHpR
namespace Go.Proofs.YtmfbcipjknjicaaGreatDoor
set_option linter.unusedSectionVars false
variable [One Bool]
open Eng
attribute [local irreducible] OpS OpG FC FCr Rel Fl Ef DR Fs
attribute [local simp] RV.fzR_names
set_option linter.unusedSimpArgs false
set_option linter.unusedVariables false
set_option maxHeartbeats 0
set_option maxRecDepth 100000

def ghpF : Int → List Int → Bool
  | _, [] => true
  | a, x :: xs => !(decide (x < a)) && !(decide (300 < x)) && ghpF x xs
def ghp (h : List Int) : Bool := decide (h.length ≤ 20) && ghpF 0 h
theorem ghpF_pos : ∀ {h : List Int} {a : Int}, ghpF a h = true → (∀ x ∈ h, a ≤ x ∧ x ≤ 300) ∧ h.Pairwise (· ≤ ·)
  | [], a, _ => by simp
  | x :: xs, a, hg => by
    simp only [ghpF, Bool.and_eq_true, Bool.not_eq_true', decide_eq_false_iff_not] at hg
    obtain ⟨h1, h2⟩ := ghpF_pos hg.2
    refine ⟨fun y hy => ?_, List.pairwise_cons.2 ⟨fun y hy => (h1 y hy).1, h2⟩⟩
    rcases List.mem_cons.1 hy with rfl | hy
    · omega
    · have := h1 y hy; omega
theorem total_ok (h : List Int) (hl : h.length ≤ 20) (hx : ∀ x ∈ h, 0 ≤ x ∧ x ≤ 300) : FCr Tryz.prog 79 [RIs h] (RVi h.sum) := by
  refine (fcr_in Tryz.func79 rfl (by simp only [Tryz.ntmps79, anys, List.length_cons, List.length_nil, Nat.reduceAdd, Nat.reduceSub, List.replicate_succ, List.replicate_zero, List.cons_append, List.nil_append] <;> rfl) ?_)
  repeat' first | apply w_seq | apply w_block | apply rb_n | apply rb_ret | apply rb_eq | refine rb_ne (by rfl) ?_ | apply w_exit | apply rt_exit | apply w_region | apply l_nil | apply rt_n | apply w_ret | apply rt_ret | apply w_skip | refine w_cond_t rfl ?_ | refine w_cond_f rfl ?_ | ((first | refine w_cnd rfl ?_ ?_ | refine w_cd rfl ?_ ?_ | refine w_cn rfl ?_ ?_ | refine w_cond rfl ?_ ?_) <;> intro hc) | (refine l_o ?_; first | refine l_op (hk := ?_))
  refine w_loopm (ι := Nat × Int) (fun q => [(8, RVn q.1), (3, RVi q.2), (5, .any)]) (fun _ => []) (fun q => q.1 ≤ h.length ∧ q.2 = (h.take q.1).sum ∧ 0 ≤ q.2 ∧ q.2 ≤ 300 * q.1) (fun q => h.length - q.1) (0, 0) (h0 := ?_) (hs := ?_) (round := ?_)
  · simp
  · refine le_eq (by (repeat' first | exact .nil | refine .keep ?_ | refine .any ?_); first | done | fail) rfl rfl
  · intro ⟨k, n⟩ ⟨hk, hn, hn0, hn1⟩
    dsimp only at hk hn hn0 hn1 ⊢
    by_cases hk2 : k < h.length
    · have hxk := hx _ (List.getElem_mem hk2)
      repeat' first | apply w_seq | apply w_block | apply rb_n | apply rb_ret | apply rb_eq | refine rb_ne (by rfl) ?_ | apply w_exit | apply rt_exit | apply w_region | apply l_nil | apply rt_n | apply w_ret | apply rt_ret | apply w_skip | refine w_cond_t rfl ?_ | refine w_cond_f rfl ?_ | ((first | refine w_cnd rfl ?_ ?_ | refine w_cd rfl ?_ ?_ | refine w_cn rfl ?_ ?_ | refine w_cond rfl ?_ ?_) <;> intro hc) | (exfalso; omega) | (refine l_o ?_; first | refine l_op (hk := ?_))
      refine rn_mk (k + 1, n + h[k]) ?_ (by first | omega | (dsimp only; omega)) (le_eq (by (repeat' first | exact .nil | refine .keep ?_ | refine .any ?_); first | done | fail) rfl rfl)
      refine ⟨hk2, ?_, by dsimp only; omega, by dsimp only; omega⟩
      dsimp only
      rw [hn, List.take_succ_eq_append_getElem hk2, List.sum_append]; simp
    · obtain rfl : k = h.length := by omega
      rw [List.take_length] at hn
      repeat' first | apply w_seq | apply w_block | apply rb_n | apply rb_ret | apply rb_eq | refine rb_ne (by rfl) ?_ | apply w_exit | apply rt_exit | apply w_region | apply l_nil | apply rt_n | apply w_ret | apply rt_ret | apply w_skip | refine w_cond_t rfl ?_ | refine w_cond_f rfl ?_ | ((first | refine w_cnd rfl ?_ ?_ | refine w_cd rfl ?_ ?_ | refine w_cn rfl ?_ ?_ | refine w_cond rfl ?_ ?_) <;> intro hc) | (exfalso; omega) | (refine l_o ?_; first | refine l_op (hk := ?_))
      refine en_one (hf := Tryz.results79) (h := ?_); simp only [lget]; first | refine congrArg RVb ?_ | refine congrArg RVi ?_ | skip
      rw [hn]
theorem goodHeaps_ok (h : List Int) (hl : h.length ≤ 1048576) : FCr Tryz.prog 59 [RIs h] (RVb (ghp h)) := by
  refine (fcr_in Tryz.func59 rfl (by simp only [Tryz.ntmps59, anys, List.length_cons, List.length_nil, Nat.reduceAdd, Nat.reduceSub, List.replicate_succ, List.replicate_zero, List.cons_append, List.nil_append] <;> rfl) ?_)
  repeat' first | apply w_seq | apply w_block | apply rb_n | apply rb_ret | apply rb_eq | refine rb_ne (by rfl) ?_ | apply w_exit | apply rt_exit | apply w_region | apply l_nil | apply rt_n | apply w_ret | apply rt_ret | apply w_skip | refine w_cond_t rfl ?_ | refine w_cond_f rfl ?_ | ((first | refine w_cnd rfl ?_ ?_ | refine w_cd rfl ?_ ?_ | refine w_cn rfl ?_ ?_ | refine w_cond rfl ?_ ?_) <;> intro hc) | (refine l_o ?_; first | refine l_op (hk := ?_) | (refine l_g ?_; first | refine l_y rfl rfl rfl ?_ | refine l_n rfl rfl rfl rfl (hk := ?_) | refine l_n' rfl rfl rfl (hk := ?_) | refine l_spnd rfl rfl rfl (h1 := fun hc => ?_) (h2 := fun hc => ?_) | refine l_spd rfl rfl rfl (h1 := fun hc => ?_) (h2 := fun hc => ?_) | refine l_spn rfl rfl rfl (h1 := fun hc => ?_) (h2 := fun hc => ?_) | refine l_sp rfl rfl rfl (h1 := fun hc => ?_) (h2 := fun hc => ?_)))
  · refine en_one (hf := Tryz.results59) (h := ?_); simp only [lget]; first | refine congrArg RVb ?_ | refine congrArg RVi ?_ | skip
    rw [ghp, decide_eq_false (by omega)]; rfl
  · refine w_loopm (ι := Nat × Int) (fun q => [(11, RVn q.1), (3, RVi q.2), (5, .any)]) (fun _ => []) (fun q => q.1 ≤ h.length ∧ ghpF q.2 (h.drop q.1) = ghp h) (fun q => h.length - q.1) (0, 0) (h0 := ?_) (hs := ?_) (round := ?_)
    · refine ⟨Nat.zero_le _, ?_⟩
      rw [ghp, decide_eq_true (by omega)]; simp
    · refine le_eq (by (repeat' first | exact .nil | refine .keep ?_ | refine .any ?_); first | done | fail) rfl rfl
    · intro ⟨k, a⟩ ⟨hk, hg⟩
      dsimp only at hk hg ⊢
      by_cases hk2 : k < h.length
      · rw [List.drop_eq_getElem_cons hk2, ghpF] at hg
        repeat' first | apply w_seq | apply w_block | apply rb_n | apply rb_ret | apply rb_eq | refine rb_ne (by rfl) ?_ | apply w_exit | apply rt_exit | apply w_region | apply l_nil | apply rt_n | apply w_ret | apply rt_ret | apply w_skip | refine w_cond_t rfl ?_ | refine w_cond_f rfl ?_ | ((first | refine w_cnd rfl ?_ ?_ | refine w_cd rfl ?_ ?_ | refine w_cn rfl ?_ ?_ | refine w_cond rfl ?_ ?_) <;> intro hc) | (exfalso; omega) | (refine l_o ?_; first | refine l_op (hk := ?_) | (refine l_g ?_; first | refine l_y rfl rfl rfl ?_ | refine l_n rfl rfl rfl rfl (hk := ?_) | refine l_n' rfl rfl rfl (hk := ?_) | refine l_spnd rfl rfl rfl (h1 := fun hc => ?_) (h2 := fun hc => ?_) | refine l_spd rfl rfl rfl (h1 := fun hc => ?_) (h2 := fun hc => ?_) | refine l_spn rfl rfl rfl (h1 := fun hc => ?_) (h2 := fun hc => ?_) | refine l_sp rfl rfl rfl (h1 := fun hc => ?_) (h2 := fun hc => ?_)))
        · refine en_one (hf := Tryz.results59) (h := ?_); simp only [lget]; first | refine congrArg RVb ?_ | refine congrArg RVi ?_ | skip
          rw [← hg, decide_eq_true hc]; rfl
        · refine en_one (hf := Tryz.results59) (h := ?_); simp only [lget]; first | refine congrArg RVb ?_ | refine congrArg RVi ?_ | skip
          rw [← hg, decide_eq_true hc]; simp
        · rename_i hc1 hc2
          rw [decide_eq_false hc, decide_eq_false hc2] at hg
          refine rn_mk (k + 1, h[k]) ?_ (by first | omega | (dsimp only; omega)) (le_eq (by (repeat' first | exact .nil | refine .keep ?_ | refine .any ?_); first | done | fail) rfl rfl)
          exact ⟨hk2, by simpa using hg⟩
      · rw [List.drop_eq_nil_of_le (by omega), ghpF] at hg
        repeat' first | apply w_seq | apply w_block | apply rb_n | apply rb_ret | apply rb_eq | refine rb_ne (by rfl) ?_ | apply w_exit | apply rt_exit | apply w_region | apply l_nil | apply rt_n | apply w_ret | apply rt_ret | apply w_skip | refine w_cond_t rfl ?_ | refine w_cond_f rfl ?_ | ((first | refine w_cnd rfl ?_ ?_ | refine w_cd rfl ?_ ?_ | refine w_cn rfl ?_ ?_ | refine w_cond rfl ?_ ?_) <;> intro hc) | (exfalso; omega) | (refine l_o ?_; first | refine l_op (hk := ?_) | (refine l_g ?_; first | refine l_y rfl rfl rfl ?_ | refine l_n rfl rfl rfl rfl (hk := ?_) | refine l_n' rfl rfl rfl (hk := ?_) | refine l_spnd rfl rfl rfl (h1 := fun hc => ?_) (h2 := fun hc => ?_) | refine l_spd rfl rfl rfl (h1 := fun hc => ?_) (h2 := fun hc => ?_) | refine l_spn rfl rfl rfl (h1 := fun hc => ?_) (h2 := fun hc => ?_) | refine l_sp rfl rfl rfl (h1 := fun hc => ?_) (h2 := fun hc => ?_)))
        refine en_one (hf := Tryz.results59) (h := ?_); simp only [lget]; first | refine congrArg RVb ?_ | refine congrArg RVi ?_ | skip
        exact hg
theorem goodCode_ok (c : List Int) (hl : c.length ≤ 1048576) : FCr Tryz.prog 30 [RIs c] (RVb (gcode c)) := by
  have hlast : ∀ h : ((c.length : Int) - 1).toNat < c.length, c[((c.length : Int) - 1).toNat] = c.getD (c.length - 1) 0 := fun h => by
    have e : ((c.length : Int) - 1).toNat = c.length - 1 := by omega
    rw [List.getD_eq_getElem?_getD, ← e, List.getElem?_eq_getElem h]; rfl
  refine (fcr_in Tryz.func30 rfl (by simp only [Tryz.ntmps30, anys, List.length_cons, List.length_nil, Nat.reduceAdd, Nat.reduceSub, List.replicate_succ, List.replicate_zero, List.cons_append, List.nil_append] <;> rfl) ?_)
  by_cases h1 : 1 ≤ c.length ∧ c.length ≤ 6
  · repeat' first | apply w_seq | apply w_block | apply rb_n | apply rb_ret | apply rb_eq | refine rb_ne (by rfl) ?_ | apply w_exit | apply rt_exit | apply w_region | apply l_nil | apply rt_n | apply w_ret | apply rt_ret | apply w_skip | refine w_cond_t rfl ?_ | refine w_cond_f rfl ?_ | ((first | refine w_cnd rfl ?_ ?_ | refine w_cd rfl ?_ ?_ | refine w_cn rfl ?_ ?_ | refine w_cond rfl ?_ ?_) <;> intro hc) | (exfalso; omega) | (refine l_o ?_; first | refine l_eqnil rfl (by kernel_rfl) (by intro b; simp only [nz]; rfl) (fun b hb => ?_) | refine l_op (hk := ?_) | (refine l_g ?_; first | refine l_y rfl rfl rfl ?_ | refine l_n rfl rfl rfl rfl (hk := ?_) | refine l_n' rfl rfl rfl (hk := ?_) | refine l_spnd rfl rfl rfl (h1 := fun hc => ?_) (h2 := fun hc => ?_) | refine l_spd rfl rfl rfl (h1 := fun hc => ?_) (h2 := fun hc => ?_) | refine l_spn rfl rfl rfl (h1 := fun hc => ?_) (h2 := fun hc => ?_) | refine l_sp rfl rfl rfl (h1 := fun hc => ?_) (h2 := fun hc => ?_)))
    · rw [hlast] at hc
      refine en_one (hf := Tryz.results30) (h := ?_); simp only [lget]; first | refine congrArg RVb ?_ | refine congrArg RVi ?_ | skip
      unfold gcode
      rw [hc]; simp
    · rw [hlast] at hc
      have hall : gcode c = c.all fun d => decide (0 ≤ d) && decide (d ≤ 7) := by
        unfold gcode
        rw [decide_eq_true h1.1, decide_eq_true h1.2, decide_eq_true hc]; simp
      rw [hall]
      refine w_loopm (ι := Nat) (fun k => [(24, RVn k), (4, .any)]) (fun _ => []) (fun k => k ≤ c.length ∧ (c.drop k).all (fun d => decide (0 ≤ d) && decide (d ≤ 7)) = c.all fun d => decide (0 ≤ d) && decide (d ≤ 7)) (fun k => c.length - k) 0 (h0 := ?_) (hs := ?_) (round := ?_)
      · exact ⟨Nat.zero_le _, rfl⟩
      · refine le_eq (by (repeat' first | exact .nil | refine .keep ?_ | refine .any ?_); first | done | fail) rfl rfl
      · intro k ⟨hk, hg⟩
        by_cases hk2 : k < c.length
        · rw [List.drop_eq_getElem_cons hk2, List.all_cons] at hg
          repeat' first | apply w_seq | apply w_block | apply rb_n | apply rb_ret | apply rb_eq | refine rb_ne (by rfl) ?_ | apply w_exit | apply rt_exit | apply w_region | apply l_nil | apply rt_n | apply w_ret | apply rt_ret | apply w_skip | refine w_cond_t rfl ?_ | refine w_cond_f rfl ?_ | ((first | refine w_cnd rfl ?_ ?_ | refine w_cd rfl ?_ ?_ | refine w_cn rfl ?_ ?_ | refine w_cond rfl ?_ ?_) <;> intro hc) | (exfalso; omega) | (refine l_o ?_; first | refine l_eqnil rfl (by kernel_rfl) (by intro b; simp only [nz]; rfl) (fun b hb => ?_) | refine l_op (hk := ?_) | (refine l_g ?_; first | refine l_y rfl rfl rfl ?_ | refine l_n rfl rfl rfl rfl (hk := ?_) | refine l_n' rfl rfl rfl (hk := ?_) | refine l_spnd rfl rfl rfl (h1 := fun hc => ?_) (h2 := fun hc => ?_) | refine l_spd rfl rfl rfl (h1 := fun hc => ?_) (h2 := fun hc => ?_) | refine l_spn rfl rfl rfl (h1 := fun hc => ?_) (h2 := fun hc => ?_) | refine l_sp rfl rfl rfl (h1 := fun hc => ?_) (h2 := fun hc => ?_)))
          · refine en_one (hf := Tryz.results30) (h := ?_); simp only [lget]; first | refine congrArg RVb ?_ | refine congrArg RVi ?_ | skip
            rw [← hg, decide_eq_false (p := 0 ≤ c[k]) (by omega)]; rfl
          · refine en_one (hf := Tryz.results30) (h := ?_); simp only [lget]; first | refine congrArg RVb ?_ | refine congrArg RVi ?_ | skip
            rw [← hg, decide_eq_false (p := c[k] ≤ 7) (by omega)]; simp
          · rename_i hc2
            rw [decide_eq_true (p := 0 ≤ c[k]) (by omega), decide_eq_true (p := c[k] ≤ 7) (by omega)] at hg
            refine rn_mk (k + 1) ?_ (by first | omega | (dsimp only; omega)) (le_eq (by (repeat' first | exact .nil | refine .keep ?_ | refine .any ?_); first | done | fail) rfl rfl)
            exact ⟨hk2, by simpa using hg⟩
        · rw [List.drop_eq_nil_of_le (by omega)] at hg
          repeat' first | apply w_seq | apply w_block | apply rb_n | apply rb_ret | apply rb_eq | refine rb_ne (by rfl) ?_ | apply w_exit | apply rt_exit | apply w_region | apply l_nil | apply rt_n | apply w_ret | apply rt_ret | apply w_skip | refine w_cond_t rfl ?_ | refine w_cond_f rfl ?_ | ((first | refine w_cnd rfl ?_ ?_ | refine w_cd rfl ?_ ?_ | refine w_cn rfl ?_ ?_ | refine w_cond rfl ?_ ?_) <;> intro hc) | (exfalso; omega) | (refine l_o ?_; first | refine l_eqnil rfl (by kernel_rfl) (by intro b; simp only [nz]; rfl) (fun b hb => ?_) | refine l_op (hk := ?_) | (refine l_g ?_; first | refine l_y rfl rfl rfl ?_ | refine l_n rfl rfl rfl rfl (hk := ?_) | refine l_n' rfl rfl rfl (hk := ?_) | refine l_spnd rfl rfl rfl (h1 := fun hc => ?_) (h2 := fun hc => ?_) | refine l_spd rfl rfl rfl (h1 := fun hc => ?_) (h2 := fun hc => ?_) | refine l_spn rfl rfl rfl (h1 := fun hc => ?_) (h2 := fun hc => ?_) | refine l_sp rfl rfl rfl (h1 := fun hc => ?_) (h2 := fun hc => ?_)))
          refine en_one (hf := Tryz.results30) (h := ?_); simp only [lget]; first | refine congrArg RVb ?_ | refine congrArg RVi ?_ | skip
          exact hg
  · have hf : gcode c = false := by
      unfold gcode
      by_cases h : 1 ≤ c.length
      · rw [decide_eq_false (p := c.length ≤ 6) (by omega)]; simp
      · rw [decide_eq_false (p := 1 ≤ c.length) h]; simp
    rw [hf]
    repeat' first | apply w_seq | apply w_block | apply rb_n | apply rb_ret | apply rb_eq | refine rb_ne (by rfl) ?_ | apply w_exit | apply rt_exit | apply w_region | apply l_nil | apply rt_n | apply w_ret | apply rt_ret | apply w_skip | refine w_cond_t rfl ?_ | refine w_cond_f rfl ?_ | ((first | refine w_cnd rfl ?_ ?_ | refine w_cd rfl ?_ ?_ | refine w_cn rfl ?_ ?_ | refine w_cond rfl ?_ ?_) <;> intro hc) | (exfalso; omega) | (refine l_o ?_; first | refine l_eqnil rfl (by kernel_rfl) (by intro b; simp only [nz]; rfl) (fun b hb => ?_) | refine l_op (hk := ?_) | (refine l_g ?_; first | refine l_y rfl rfl rfl ?_ | refine l_n rfl rfl rfl rfl (hk := ?_) | refine l_n' rfl rfl rfl (hk := ?_) | refine l_spnd rfl rfl rfl (h1 := fun hc => ?_) (h2 := fun hc => ?_) | refine l_spd rfl rfl rfl (h1 := fun hc => ?_) (h2 := fun hc => ?_) | refine l_spn rfl rfl rfl (h1 := fun hc => ?_) (h2 := fun hc => ?_) | refine l_sp rfl rfl rfl (h1 := fun hc => ?_) (h2 := fun hc => ?_)))
    all_goals first | (refine en_one (hf := Tryz.results30) (h := ?_); simp only [lget]; first | refine congrArg RVb ?_ | refine congrArg RVi ?_ | skip; done) | trace_state
end Go.Proofs.YtmfbcipjknjicaaGreatDoor
