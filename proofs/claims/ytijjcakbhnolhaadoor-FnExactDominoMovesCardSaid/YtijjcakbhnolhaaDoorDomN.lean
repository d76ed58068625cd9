/- The program's boards behind moves: all of them. -/
import Derived.Test.YtijjcakbhnolhaaDoorDomM
namespace Go.Proofs.YtijjcakbhnolhaaDoor
open Eng
attribute [local irreducible] OpS OpG FC FCr Rel Fl Ef DR Fs
attribute [local simp] RV.fzR_names itEls_names
set_option linter.unusedSimpArgs false
set_option linter.unusedVariables false
set_option maxHeartbeats 0
set_option maxRecDepth 100000

theorem placed_ok {R : Bd} (g : GdB R) (left : Bool) (row col : Nat) (h : okM R left row col = true) : FCr Tryd.prog 28 [RBd R, RVn row, RVn col, RVb left] (OBd (mvC R left row col)) := by
  simp only [okM, Bool.and_eq_true] at h
  have h1 := frB_in g h.1
  have h2 := frB_in g h.2
  rw [← plR_all h1.1 h2.1]
  cases left with
  | true => exact placedL_ok g row col h1.2 h1.1
  | false => exact placedR_ok g row col h2.2 h1.1
theorem mvRow_next (R : Bd) (left : Bool) (r k : Nat) (L : List Bd) : L ++ mvRow R left r (k + 1) = (L ++ mvRow R left r k) ++ if okM R left r k then [mvC R left r k] else [] := by rw [mvRow, List.append_assoc]
theorem movesL_ok {R : Bd} (g : GdB R) : FCr Tryd.prog 18 [RBd R, RVb true] (.ow 1 ((mvD R true R.length).map OBd)) := by
  have h8 := g.n8
  have hw8 := g.w8
  have s1 : ∀ (P : List Bd) (e x : RV), (P.map OBd ++ [e]).set P.length x = P.map OBd ++ [x] := fun P e x => by rw [List.set_append_right _ _ (by simp)]; simp
  have s2 : ∀ (P : List Bd) (e : RV), (P.map OBd ++ [e])[P.length]? = some e := fun P e => by rw [List.getElem?_append_right (by simp)]; simp
  have s3 : ∀ (P : List Bd) (e : RV), (P.map OBd ++ [e]).length = P.length + 1 := fun P e => by simp
  have s4 : ∀ (P : List Bd) (x : Bd), (P ++ [x]).length = P.length + 1 := fun P x => by simp
  refine (fcr_in Tryd.func18 rfl (by simp only [Tryd.ntmps18, anys, List.length_cons, List.length_nil, Nat.reduceAdd, Nat.reduceSub, List.replicate_succ, List.replicate_zero, List.cons_append, List.nil_append] <;> rfl) ?_)
  repeat' first | apply w_seq | apply w_block | apply rb_n | apply rb_ret | apply rb_eq | refine rb_ne (by rfl) ?_ | apply w_exit | apply rt_exit | apply w_region | apply l_nil | apply rt_n | apply w_ret | apply rt_ret | apply w_skip | refine w_cond_t rfl ?_ | refine w_cond_f rfl ?_ | ((first | refine w_cnd rfl ?_ ?_ | refine w_cd rfl ?_ ?_ | refine w_cn rfl ?_ ?_ | refine w_cond rfl ?_ ?_) <;> intro hc) | (refine l_o ?_; first | refine l_op (hk := ?_) | (refine l_g ?_; first | refine l_y rfl rfl rfl ?_ | refine l_n rfl rfl rfl rfl (hk := ?_) | refine l_n' rfl rfl rfl (hk := ?_) | refine l_spnd rfl rfl rfl (h1 := fun hc => ?_) (h2 := fun hc => ?_) | refine l_spd rfl rfl rfl (h1 := fun hc => ?_) (h2 := fun hc => ?_) | refine l_spn rfl rfl rfl (h1 := fun hc => ?_) (h2 := fun hc => ?_) | refine l_sp rfl rfl rfl (h1 := fun hc => ?_) (h2 := fun hc => ?_)))
  refine w_loopm (ι := Nat × List Bd) (fun q => [(12, RVn q.1), (5, .ref 8 0 q.2.length), (6, .any), (7, .any), (8, .any)]) (fun q => [(8, 1, q.2.map OBd), (2, 1, [.agg [RSs R]])]) (fun q => q.1 ≤ R.length ∧ q.2 = mvD R true q.1) (fun q => R.length - q.1) (0, []) (h0 := ?_) (hs := ?_) (round := ?_)
  · exact ⟨by dsimp only; omega, rfl⟩
  · refine le_eq (by (repeat' first | exact .nil | refine .keep ?_ | refine .any ?_); first | done | fail) rfl rfl
  · intro ⟨k, A⟩ ⟨hk, hA⟩
    dsimp only at hk hA ⊢
    have hAl := mvD_len R true k
    rw [← hA] at hAl
    have hAl : A.length ≤ 64 := by have := Nat.mul_le_mul hk hw8; omega
    by_cases hkl : k < R.length
    · have hkw := g.w _ (List.getElem_mem hkl)
      repeat' first | apply w_seq | apply w_block | apply rb_n | apply rb_ret | apply rb_eq | refine rb_ne (by rfl) ?_ | apply w_exit | apply rt_exit | apply w_region | apply l_nil | apply rt_n | apply w_ret | apply rt_ret | apply w_skip | refine w_cond_t rfl ?_ | refine w_cond_f rfl ?_ | ((first | refine w_cnd rfl ?_ ?_ | refine w_cd rfl ?_ ?_ | refine w_cn rfl ?_ ?_ | refine w_cond rfl ?_ ?_) <;> intro hc) | (exfalso; omega) | (refine l_range (by kernel_rfl) (hk := fun b => ?_)) | (refine l_o ?_; first | refine l_op (hk := ?_) | (refine l_g ?_; first | refine l_y rfl rfl rfl ?_ | refine l_n rfl rfl rfl rfl (hk := ?_) | refine l_n' rfl rfl rfl (hk := ?_) | refine l_spnd rfl rfl rfl (h1 := fun hc => ?_) (h2 := fun hc => ?_) | refine l_spd rfl rfl rfl (h1 := fun hc => ?_) (h2 := fun hc => ?_) | refine l_spn rfl rfl rfl (h1 := fun hc => ?_) (h2 := fun hc => ?_) | refine l_sp rfl rfl rfl (h1 := fun hc => ?_) (h2 := fun hc => ?_)))
      refine w_loopm (ι := Nat × List Bd) (fun q => [(5, .ref 8 0 q.2.length), (7, .any)]) (fun q => [(20, 0, itEls b ⟨R[k].toArray⟩ q.1), (8, 1, q.2.map OBd), (2, 1, [.agg [RSs R]])]) (fun q => q.1 ≤ wdB R ∧ q.2 = A ++ mvRow R true k q.1) (fun q => wdB R - q.1) (0, A) (h0 := ?_) (hs := ?_) (round := ?_)
      · exact ⟨by dsimp only; omega, by simp [mvRow]⟩
      · refine le_eq (by (repeat' first | exact .nil | refine .keep ?_ | refine .any ?_); first | done | fail) rfl rfl
      · intro ⟨j, B⟩ ⟨hj, hB⟩
        dsimp only at hj hB ⊢
        have hBl := mvRow_len R true k j
        have hBl : B.length ≤ 72 := by rw [hB, List.length_append]; omega
        by_cases hjl : j < wdB R
        · have hbt : R[k][j].toNat < 128 := by rcases g.b _ (List.getElem_mem hkl) _ (List.getElem_mem (show j < R[k].length by omega)) with h | h <;> rw [h] <;> decide
          have f1 := free_ok g k j (by omega) (by omega)
          have f2 := free_ok g (k + 1) j (by omega) (by omega)
          have hn := mvRow_next R true k j A
          rw [← hB] at hn
          cases c1 : frB R k j with
          | false =>
            rw [show okM R true k j = false by rw [okM, c1, Bool.false_and], if_neg Bool.false_ne_true, List.append_nil] at hn
            rw [c1] at f1
            repeat' first | apply w_seq | apply w_block | apply rb_n | apply rb_ret | apply rb_eq | refine rb_ne (by rfl) ?_ | apply w_exit | apply rt_exit | apply w_region | apply l_nil | apply rt_n | apply w_ret | apply rt_ret | apply w_skip | refine w_cond_t rfl ?_ | refine w_cond_f rfl ?_ | ((first | refine w_cnd rfl ?_ ?_ | refine w_cd rfl ?_ ?_ | refine w_cn rfl ?_ ?_ | refine w_cond rfl ?_ ?_) <;> intro hc) | (exfalso; omega) | (refine l_o ?_; first | refine l_op rfl (by first | (apply k_next; first | exact ops_nextA (n := 20) rfl rfl (by omega) hbt | fail) | (apply k_callf; first | exact ops_callf (d := 27) (hfc := f1) | fail) | fail) (hk := ?_) | refine l_op (hk := ?_) | (refine l_g ?_; first | refine l_y rfl rfl rfl ?_ | refine l_n rfl rfl rfl rfl (hk := ?_) | refine l_n' rfl rfl rfl (hk := ?_) | refine l_spnd rfl rfl rfl (h1 := fun hc => ?_) (h2 := fun hc => ?_) | refine l_spd rfl rfl rfl (h1 := fun hc => ?_) (h2 := fun hc => ?_) | refine l_spn rfl rfl rfl (h1 := fun hc => ?_) (h2 := fun hc => ?_) | refine l_sp rfl rfl rfl (h1 := fun hc => ?_) (h2 := fun hc => ?_)))
            refine rn_mk (j + 1, B) ?_ (by first | omega | (dsimp only; omega)) (le_eq (by (repeat' first | exact .nil | refine .keep ?_ | refine .any ?_); first | done | fail) rfl rfl)
            exact ⟨by dsimp only; omega, hn.symm⟩
          | true =>
            rw [c1] at f1
            cases c2 : frB R (k + 1) j with
            | false =>
              rw [show okM R true k j = false by rw [okM, dnR, dnC, if_pos rfl, if_pos rfl, c2, Bool.and_false], if_neg Bool.false_ne_true, List.append_nil] at hn
              rw [c2] at f2
              repeat' first | apply w_seq | apply w_block | apply rb_n | apply rb_ret | apply rb_eq | refine rb_ne (by rfl) ?_ | apply w_exit | apply rt_exit | apply w_region | apply l_nil | apply rt_n | apply w_ret | apply rt_ret | apply w_skip | refine w_cond_t rfl ?_ | refine w_cond_f rfl ?_ | ((first | refine w_cnd rfl ?_ ?_ | refine w_cd rfl ?_ ?_ | refine w_cn rfl ?_ ?_ | refine w_cond rfl ?_ ?_) <;> intro hc) | (exfalso; omega) | (refine l_o ?_; first | refine l_op rfl (by first | (apply k_next; first | exact ops_nextA (n := 20) rfl rfl (by omega) hbt | fail) | (apply k_callf; first | exact ops_callf (d := 27) (hfc := f1) | exact ops_callf (d := 35) (hfc := f2) | fail) | fail) (hk := ?_) | refine l_op (hk := ?_) | (refine l_g ?_; first | refine l_y rfl rfl rfl ?_ | refine l_n rfl rfl rfl rfl (hk := ?_) | refine l_n' rfl rfl rfl (hk := ?_) | refine l_spnd rfl rfl rfl (h1 := fun hc => ?_) (h2 := fun hc => ?_) | refine l_spd rfl rfl rfl (h1 := fun hc => ?_) (h2 := fun hc => ?_) | refine l_spn rfl rfl rfl (h1 := fun hc => ?_) (h2 := fun hc => ?_) | refine l_sp rfl rfl rfl (h1 := fun hc => ?_) (h2 := fun hc => ?_)))
              refine rn_mk (j + 1, B) ?_ (by first | omega | (dsimp only; omega)) (le_eq (by (repeat' first | exact .nil | refine .keep ?_ | refine .any ?_); first | done | fail) rfl rfl)
              exact ⟨by dsimp only; omega, hn.symm⟩
            | true =>
              have ho : okM R true k j = true := by rw [okM, dnR, dnC, if_pos rfl, if_pos rfl, c1, c2]; rfl
              rw [ho, if_pos rfl] at hn
              rw [c2] at f2
              have hp := placed_ok g true k j ho
              generalize mvC R true k j = X at *
              repeat' first | apply w_seq | apply w_block | apply rb_n | apply rb_ret | apply rb_eq | refine rb_ne (by rfl) ?_ | apply w_exit | apply rt_exit | apply w_region | apply l_nil | apply rt_n | apply w_ret | apply rt_ret | apply w_skip | refine w_cond_t rfl ?_ | refine w_cond_f rfl ?_ | ((first | refine w_cnd rfl ?_ ?_ | refine w_cd rfl ?_ ?_ | refine w_cn rfl ?_ ?_ | refine w_cond rfl ?_ ?_) <;> intro hc) | (exfalso; omega) | (refine l_o ?_; first | refine l_op rfl (by first | (apply k_next; first | exact ops_nextA (n := 20) rfl rfl (by omega) hbt | fail) | (apply k_callf; first | exact ops_callf (d := 27) (hfc := f1) | exact ops_callf (d := 35) (hfc := f2) | exact ops_callv (d := 54) (hfc := hp) | fail) | fail) (hk := ?_) | refine l_op (hk := ?_) | (refine l_g ?_; first | refine l_y rfl rfl rfl ?_ | refine l_n rfl rfl rfl rfl (hk := ?_) | refine l_n' rfl rfl rfl (hk := ?_) | refine l_spnd rfl rfl rfl (h1 := fun hc => ?_) (h2 := fun hc => ?_) | refine l_spd rfl rfl rfl (h1 := fun hc => ?_) (h2 := fun hc => ?_) | refine l_spn rfl rfl rfl (h1 := fun hc => ?_) (h2 := fun hc => ?_) | refine l_sp rfl rfl rfl (h1 := fun hc => ?_) (h2 := fun hc => ?_)))
              refine rn_mk (j + 1, B ++ [X]) ⟨by dsimp only; omega, hn.symm⟩ (by dsimp only; omega) ?_
              simp only [s3, s4]
              refine le_trans (le_seal 8 B.length 0 1054 rfl (s2 _ _) rfl rfl (by simp) (namesL_map0 _ _ fun _ => rfl) (by decide) rfl (by simp only [oset, oerase, reduceIte, Nat.reduceEqDiff, RV.setCell, s1, List.set_cons_zero]; rfl)) ?_
              refine le_eq (by (repeat' first | exact .nil | refine .keep ?_ | refine .any ?_); first | done | fail) rfl ?_
              have s5 : List.map OBd B ++ [RV.agg [RV.ow 1 (List.map RV.str X)]] = (B ++ [X]).map OBd := by simp
              rw [s5]
        · obtain rfl : j = wdB R := by omega
          repeat' first | apply w_seq | apply w_block | apply rb_n | apply rb_ret | apply rb_eq | refine rb_ne (by rfl) ?_ | apply w_exit | apply rt_exit | apply w_region | apply l_nil | apply rt_n | apply w_ret | apply rt_ret | apply w_skip | refine w_cond_t rfl ?_ | refine w_cond_f rfl ?_ | ((first | refine w_cnd rfl ?_ ?_ | refine w_cd rfl ?_ ?_ | refine w_cn rfl ?_ ?_ | refine w_cond rfl ?_ ?_) <;> intro hc) | (exfalso; omega) | (refine l_o ?_; first | refine l_op rfl (by first | (apply k_next; first | exact ops_nextZ (n := 20) rfl rfl (by omega) | fail) | fail) (hk := ?_) | refine l_op (hk := ?_) | (refine l_g ?_; first | refine l_y rfl rfl rfl ?_ | refine l_n rfl rfl rfl rfl (hk := ?_) | refine l_n' rfl rfl rfl (hk := ?_) | refine l_spnd rfl rfl rfl (h1 := fun hc => ?_) (h2 := fun hc => ?_) | refine l_spd rfl rfl rfl (h1 := fun hc => ?_) (h2 := fun hc => ?_) | refine l_spn rfl rfl rfl (h1 := fun hc => ?_) (h2 := fun hc => ?_) | refine l_sp rfl rfl rfl (h1 := fun hc => ?_) (h2 := fun hc => ?_)))
          refine rn_mk (k + 1, B) ⟨by dsimp only; omega, by dsimp only; rw [mvD, ← hA, ← hB]⟩ (by dsimp only; omega) ?_
          refine le_dropd 20 (by simp only [nz]; rfl) (by simp only [nz, reduceIte, Nat.reduceEqDiff] <;> rfl) ?_
          refine le_eq (by (repeat' first | exact .nil | refine .keep ?_ | refine .any ?_); first | done | fail) rfl rfl
    · obtain rfl : k = R.length := by omega
      repeat' first | apply w_seq | apply w_block | apply rb_n | apply rb_ret | apply rb_eq | refine rb_ne (by rfl) ?_ | apply w_exit | apply rt_exit | apply w_region | apply l_nil | apply rt_n | apply w_ret | apply rt_ret | apply w_skip | refine w_cond_t rfl ?_ | refine w_cond_f rfl ?_ | ((first | refine w_cnd rfl ?_ ?_ | refine w_cd rfl ?_ ?_ | refine w_cn rfl ?_ ?_ | refine w_cond rfl ?_ ?_) <;> intro hc) | (exfalso; omega) | (refine l_o ?_; first | refine l_op (hk := ?_) | (refine l_g ?_; first | refine l_y rfl rfl rfl ?_ | refine l_n rfl rfl rfl rfl (hk := ?_) | refine l_n' rfl rfl rfl (hk := ?_) | refine l_spnd rfl rfl rfl (h1 := fun hc => ?_) (h2 := fun hc => ?_) | refine l_spd rfl rfl rfl (h1 := fun hc => ?_) (h2 := fun hc => ?_) | refine l_spn rfl rfl rfl (h1 := fun hc => ?_) (h2 := fun hc => ?_) | refine l_sp rfl rfl rfl (h1 := fun hc => ?_) (h2 := fun hc => ?_)))
      rw [← hA]
      refine en_endm ([(2, 1, [.agg [RSs R]])]) (hf := Tryd.results18) (hO := ?_) (hr := ?_)
      · rfl
      · rfl
theorem movesR_ok {R : Bd} (g : GdB R) : FCr Tryd.prog 18 [RBd R, RVb false] (.ow 1 ((mvD R false R.length).map OBd)) := by
  have h8 := g.n8
  have hw8 := g.w8
  have s1 : ∀ (P : List Bd) (e x : RV), (P.map OBd ++ [e]).set P.length x = P.map OBd ++ [x] := fun P e x => by rw [List.set_append_right _ _ (by simp)]; simp
  have s2 : ∀ (P : List Bd) (e : RV), (P.map OBd ++ [e])[P.length]? = some e := fun P e => by rw [List.getElem?_append_right (by simp)]; simp
  have s3 : ∀ (P : List Bd) (e : RV), (P.map OBd ++ [e]).length = P.length + 1 := fun P e => by simp
  have s4 : ∀ (P : List Bd) (x : Bd), (P ++ [x]).length = P.length + 1 := fun P x => by simp
  refine (fcr_in Tryd.func18 rfl (by simp only [Tryd.ntmps18, anys, List.length_cons, List.length_nil, Nat.reduceAdd, Nat.reduceSub, List.replicate_succ, List.replicate_zero, List.cons_append, List.nil_append] <;> rfl) ?_)
  repeat' first | apply w_seq | apply w_block | apply rb_n | apply rb_ret | apply rb_eq | refine rb_ne (by rfl) ?_ | apply w_exit | apply rt_exit | apply w_region | apply l_nil | apply rt_n | apply w_ret | apply rt_ret | apply w_skip | refine w_cond_t rfl ?_ | refine w_cond_f rfl ?_ | ((first | refine w_cnd rfl ?_ ?_ | refine w_cd rfl ?_ ?_ | refine w_cn rfl ?_ ?_ | refine w_cond rfl ?_ ?_) <;> intro hc) | (refine l_o ?_; first | refine l_op (hk := ?_) | (refine l_g ?_; first | refine l_y rfl rfl rfl ?_ | refine l_n rfl rfl rfl rfl (hk := ?_) | refine l_n' rfl rfl rfl (hk := ?_) | refine l_spnd rfl rfl rfl (h1 := fun hc => ?_) (h2 := fun hc => ?_) | refine l_spd rfl rfl rfl (h1 := fun hc => ?_) (h2 := fun hc => ?_) | refine l_spn rfl rfl rfl (h1 := fun hc => ?_) (h2 := fun hc => ?_) | refine l_sp rfl rfl rfl (h1 := fun hc => ?_) (h2 := fun hc => ?_)))
  refine w_loopm (ι := Nat × List Bd) (fun q => [(12, RVn q.1), (5, .ref 8 0 q.2.length), (6, .any), (7, .any), (8, .any)]) (fun q => [(8, 1, q.2.map OBd), (2, 1, [.agg [RSs R]])]) (fun q => q.1 ≤ R.length ∧ q.2 = mvD R false q.1) (fun q => R.length - q.1) (0, []) (h0 := ?_) (hs := ?_) (round := ?_)
  · exact ⟨by dsimp only; omega, rfl⟩
  · refine le_eq (by (repeat' first | exact .nil | refine .keep ?_ | refine .any ?_); first | done | fail) rfl rfl
  · intro ⟨k, A⟩ ⟨hk, hA⟩
    dsimp only at hk hA ⊢
    have hAl := mvD_len R false k
    rw [← hA] at hAl
    have hAl : A.length ≤ 64 := by have := Nat.mul_le_mul hk hw8; omega
    by_cases hkl : k < R.length
    · have hkw := g.w _ (List.getElem_mem hkl)
      repeat' first | apply w_seq | apply w_block | apply rb_n | apply rb_ret | apply rb_eq | refine rb_ne (by rfl) ?_ | apply w_exit | apply rt_exit | apply w_region | apply l_nil | apply rt_n | apply w_ret | apply rt_ret | apply w_skip | refine w_cond_t rfl ?_ | refine w_cond_f rfl ?_ | ((first | refine w_cnd rfl ?_ ?_ | refine w_cd rfl ?_ ?_ | refine w_cn rfl ?_ ?_ | refine w_cond rfl ?_ ?_) <;> intro hc) | (exfalso; omega) | (refine l_range (by kernel_rfl) (hk := fun b => ?_)) | (refine l_o ?_; first | refine l_op (hk := ?_) | (refine l_g ?_; first | refine l_y rfl rfl rfl ?_ | refine l_n rfl rfl rfl rfl (hk := ?_) | refine l_n' rfl rfl rfl (hk := ?_) | refine l_spnd rfl rfl rfl (h1 := fun hc => ?_) (h2 := fun hc => ?_) | refine l_spd rfl rfl rfl (h1 := fun hc => ?_) (h2 := fun hc => ?_) | refine l_spn rfl rfl rfl (h1 := fun hc => ?_) (h2 := fun hc => ?_) | refine l_sp rfl rfl rfl (h1 := fun hc => ?_) (h2 := fun hc => ?_)))
      refine w_loopm (ι := Nat × List Bd) (fun q => [(5, .ref 8 0 q.2.length), (7, .any)]) (fun q => [(20, 0, itEls b ⟨R[k].toArray⟩ q.1), (8, 1, q.2.map OBd), (2, 1, [.agg [RSs R]])]) (fun q => q.1 ≤ wdB R ∧ q.2 = A ++ mvRow R false k q.1) (fun q => wdB R - q.1) (0, A) (h0 := ?_) (hs := ?_) (round := ?_)
      · exact ⟨by dsimp only; omega, by simp [mvRow]⟩
      · refine le_eq (by (repeat' first | exact .nil | refine .keep ?_ | refine .any ?_); first | done | fail) rfl rfl
      · intro ⟨j, B⟩ ⟨hj, hB⟩
        dsimp only at hj hB ⊢
        have hBl := mvRow_len R false k j
        have hBl : B.length ≤ 72 := by rw [hB, List.length_append]; omega
        by_cases hjl : j < wdB R
        · have hbt : R[k][j].toNat < 128 := by rcases g.b _ (List.getElem_mem hkl) _ (List.getElem_mem (show j < R[k].length by omega)) with h | h <;> rw [h] <;> decide
          have f1 := free_ok g k j (by omega) (by omega)
          have f2 := free_ok g k (j + 1) (by omega) (by omega)
          have hn := mvRow_next R false k j A
          rw [← hB] at hn
          cases c1 : frB R k j with
          | false =>
            rw [show okM R false k j = false by rw [okM, c1, Bool.false_and], if_neg Bool.false_ne_true, List.append_nil] at hn
            rw [c1] at f1
            repeat' first | apply w_seq | apply w_block | apply rb_n | apply rb_ret | apply rb_eq | refine rb_ne (by rfl) ?_ | apply w_exit | apply rt_exit | apply w_region | apply l_nil | apply rt_n | apply w_ret | apply rt_ret | apply w_skip | refine w_cond_t rfl ?_ | refine w_cond_f rfl ?_ | ((first | refine w_cnd rfl ?_ ?_ | refine w_cd rfl ?_ ?_ | refine w_cn rfl ?_ ?_ | refine w_cond rfl ?_ ?_) <;> intro hc) | (exfalso; omega) | (refine l_o ?_; first | refine l_op rfl (by first | (apply k_next; first | exact ops_nextA (n := 20) rfl rfl (by omega) hbt | fail) | (apply k_callf; first | exact ops_callf (d := 27) (hfc := f1) | fail) | fail) (hk := ?_) | refine l_op (hk := ?_) | (refine l_g ?_; first | refine l_y rfl rfl rfl ?_ | refine l_n rfl rfl rfl rfl (hk := ?_) | refine l_n' rfl rfl rfl (hk := ?_) | refine l_spnd rfl rfl rfl (h1 := fun hc => ?_) (h2 := fun hc => ?_) | refine l_spd rfl rfl rfl (h1 := fun hc => ?_) (h2 := fun hc => ?_) | refine l_spn rfl rfl rfl (h1 := fun hc => ?_) (h2 := fun hc => ?_) | refine l_sp rfl rfl rfl (h1 := fun hc => ?_) (h2 := fun hc => ?_)))
            refine rn_mk (j + 1, B) ?_ (by first | omega | (dsimp only; omega)) (le_eq (by (repeat' first | exact .nil | refine .keep ?_ | refine .any ?_); first | done | fail) rfl rfl)
            exact ⟨by dsimp only; omega, hn.symm⟩
          | true =>
            rw [c1] at f1
            cases c2 : frB R k (j + 1) with
            | false =>
              rw [show okM R false k j = false by rw [okM, dnR, dnC, if_neg Bool.false_ne_true, if_neg Bool.false_ne_true, c2, Bool.and_false], if_neg Bool.false_ne_true, List.append_nil] at hn
              rw [c2] at f2
              repeat' first | apply w_seq | apply w_block | apply rb_n | apply rb_ret | apply rb_eq | refine rb_ne (by rfl) ?_ | apply w_exit | apply rt_exit | apply w_region | apply l_nil | apply rt_n | apply w_ret | apply rt_ret | apply w_skip | refine w_cond_t rfl ?_ | refine w_cond_f rfl ?_ | ((first | refine w_cnd rfl ?_ ?_ | refine w_cd rfl ?_ ?_ | refine w_cn rfl ?_ ?_ | refine w_cond rfl ?_ ?_) <;> intro hc) | (exfalso; omega) | (refine l_o ?_; first | refine l_op rfl (by first | (apply k_next; first | exact ops_nextA (n := 20) rfl rfl (by omega) hbt | fail) | (apply k_callf; first | exact ops_callf (d := 27) (hfc := f1) | exact ops_callf (d := 45) (hfc := f2) | fail) | fail) (hk := ?_) | refine l_op (hk := ?_) | (refine l_g ?_; first | refine l_y rfl rfl rfl ?_ | refine l_n rfl rfl rfl rfl (hk := ?_) | refine l_n' rfl rfl rfl (hk := ?_) | refine l_spnd rfl rfl rfl (h1 := fun hc => ?_) (h2 := fun hc => ?_) | refine l_spd rfl rfl rfl (h1 := fun hc => ?_) (h2 := fun hc => ?_) | refine l_spn rfl rfl rfl (h1 := fun hc => ?_) (h2 := fun hc => ?_) | refine l_sp rfl rfl rfl (h1 := fun hc => ?_) (h2 := fun hc => ?_)))
              refine rn_mk (j + 1, B) ?_ (by first | omega | (dsimp only; omega)) (le_eq (by (repeat' first | exact .nil | refine .keep ?_ | refine .any ?_); first | done | fail) rfl rfl)
              exact ⟨by dsimp only; omega, hn.symm⟩
            | true =>
              have ho : okM R false k j = true := by rw [okM, dnR, dnC, if_neg Bool.false_ne_true, if_neg Bool.false_ne_true, c1, c2]; rfl
              rw [ho, if_pos rfl] at hn
              rw [c2] at f2
              have hp := placed_ok g false k j ho
              generalize mvC R false k j = X at *
              repeat' first | apply w_seq | apply w_block | apply rb_n | apply rb_ret | apply rb_eq | refine rb_ne (by rfl) ?_ | apply w_exit | apply rt_exit | apply w_region | apply l_nil | apply rt_n | apply w_ret | apply rt_ret | apply w_skip | refine w_cond_t rfl ?_ | refine w_cond_f rfl ?_ | ((first | refine w_cnd rfl ?_ ?_ | refine w_cd rfl ?_ ?_ | refine w_cn rfl ?_ ?_ | refine w_cond rfl ?_ ?_) <;> intro hc) | (exfalso; omega) | (refine l_o ?_; first | refine l_op rfl (by first | (apply k_next; first | exact ops_nextA (n := 20) rfl rfl (by omega) hbt | fail) | (apply k_callf; first | exact ops_callf (d := 27) (hfc := f1) | exact ops_callf (d := 45) (hfc := f2) | exact ops_callv (d := 54) (hfc := hp) | fail) | fail) (hk := ?_) | refine l_op (hk := ?_) | (refine l_g ?_; first | refine l_y rfl rfl rfl ?_ | refine l_n rfl rfl rfl rfl (hk := ?_) | refine l_n' rfl rfl rfl (hk := ?_) | refine l_spnd rfl rfl rfl (h1 := fun hc => ?_) (h2 := fun hc => ?_) | refine l_spd rfl rfl rfl (h1 := fun hc => ?_) (h2 := fun hc => ?_) | refine l_spn rfl rfl rfl (h1 := fun hc => ?_) (h2 := fun hc => ?_) | refine l_sp rfl rfl rfl (h1 := fun hc => ?_) (h2 := fun hc => ?_)))
              refine rn_mk (j + 1, B ++ [X]) ⟨by dsimp only; omega, hn.symm⟩ (by dsimp only; omega) ?_
              simp only [s3, s4]
              refine le_trans (le_seal 8 B.length 0 1054 rfl (s2 _ _) rfl rfl (by simp) (namesL_map0 _ _ fun _ => rfl) (by decide) rfl (by simp only [oset, oerase, reduceIte, Nat.reduceEqDiff, RV.setCell, s1, List.set_cons_zero]; rfl)) ?_
              refine le_eq (by (repeat' first | exact .nil | refine .keep ?_ | refine .any ?_); first | done | fail) rfl ?_
              have s5 : List.map OBd B ++ [RV.agg [RV.ow 1 (List.map RV.str X)]] = (B ++ [X]).map OBd := by simp
              rw [s5]
        · obtain rfl : j = wdB R := by omega
          repeat' first | apply w_seq | apply w_block | apply rb_n | apply rb_ret | apply rb_eq | refine rb_ne (by rfl) ?_ | apply w_exit | apply rt_exit | apply w_region | apply l_nil | apply rt_n | apply w_ret | apply rt_ret | apply w_skip | refine w_cond_t rfl ?_ | refine w_cond_f rfl ?_ | ((first | refine w_cnd rfl ?_ ?_ | refine w_cd rfl ?_ ?_ | refine w_cn rfl ?_ ?_ | refine w_cond rfl ?_ ?_) <;> intro hc) | (exfalso; omega) | (refine l_o ?_; first | refine l_op rfl (by first | (apply k_next; first | exact ops_nextZ (n := 20) rfl rfl (by omega) | fail) | fail) (hk := ?_) | refine l_op (hk := ?_) | (refine l_g ?_; first | refine l_y rfl rfl rfl ?_ | refine l_n rfl rfl rfl rfl (hk := ?_) | refine l_n' rfl rfl rfl (hk := ?_) | refine l_spnd rfl rfl rfl (h1 := fun hc => ?_) (h2 := fun hc => ?_) | refine l_spd rfl rfl rfl (h1 := fun hc => ?_) (h2 := fun hc => ?_) | refine l_spn rfl rfl rfl (h1 := fun hc => ?_) (h2 := fun hc => ?_) | refine l_sp rfl rfl rfl (h1 := fun hc => ?_) (h2 := fun hc => ?_)))
          refine rn_mk (k + 1, B) ⟨by dsimp only; omega, by dsimp only; rw [mvD, ← hA, ← hB]⟩ (by dsimp only; omega) ?_
          refine le_dropd 20 (by simp only [nz]; rfl) (by simp only [nz, reduceIte, Nat.reduceEqDiff] <;> rfl) ?_
          refine le_eq (by (repeat' first | exact .nil | refine .keep ?_ | refine .any ?_); first | done | fail) rfl rfl
    · obtain rfl : k = R.length := by omega
      repeat' first | apply w_seq | apply w_block | apply rb_n | apply rb_ret | apply rb_eq | refine rb_ne (by rfl) ?_ | apply w_exit | apply rt_exit | apply w_region | apply l_nil | apply rt_n | apply w_ret | apply rt_ret | apply w_skip | refine w_cond_t rfl ?_ | refine w_cond_f rfl ?_ | ((first | refine w_cnd rfl ?_ ?_ | refine w_cd rfl ?_ ?_ | refine w_cn rfl ?_ ?_ | refine w_cond rfl ?_ ?_) <;> intro hc) | (exfalso; omega) | (refine l_o ?_; first | refine l_op (hk := ?_) | (refine l_g ?_; first | refine l_y rfl rfl rfl ?_ | refine l_n rfl rfl rfl rfl (hk := ?_) | refine l_n' rfl rfl rfl (hk := ?_) | refine l_spnd rfl rfl rfl (h1 := fun hc => ?_) (h2 := fun hc => ?_) | refine l_spd rfl rfl rfl (h1 := fun hc => ?_) (h2 := fun hc => ?_) | refine l_spn rfl rfl rfl (h1 := fun hc => ?_) (h2 := fun hc => ?_) | refine l_sp rfl rfl rfl (h1 := fun hc => ?_) (h2 := fun hc => ?_)))
      rw [← hA]
      refine en_endm ([(2, 1, [.agg [RSs R]])]) (hf := Tryd.results18) (hO := ?_) (hr := ?_)
      · rfl
      · rfl
theorem implMoves_ok (R : Bd) (left : Bool) (hl : R.length ≤ 1048576) (hs : ∀ r ∈ R, r.length ≤ 1048576) : FCr Tryd.prog 7 [RBd R, RVb left] (.tup [.ow 1 ((mvs R left).map OBd), RVb (gdB R)]) := by
  have hG := implGoodB_ok R hl hs
  unfold mvs
  cases hg : gdB R with
  | false =>
    rw [hg] at hG
    refine (fcr_in Tryd.func7 rfl (by simp only [Tryd.ntmps7, anys, List.length_cons, List.length_nil, Nat.reduceAdd, Nat.reduceSub, List.replicate_succ, List.replicate_zero, List.cons_append, List.nil_append] <;> rfl) ?_)
    repeat' first | apply w_seq | apply w_region | apply l_nil | apply rt_n | apply w_ret | apply rt_ret | apply w_skip | refine w_cond_t rfl ?_ | refine w_cond_f rfl ?_ | ((first | refine w_cnd rfl ?_ ?_ | refine w_cd rfl ?_ ?_ | refine w_cn rfl ?_ ?_ | refine w_cond rfl ?_ ?_) <;> intro hc) | (refine l_o ?_; first | refine l_op rfl (by first | (apply k_callf; first | exact ops_callf (hfc := hG) | fail) | fail) (hk := ?_) | refine l_op (hk := ?_))
    refine en_endn ([.ow 1 [], RVb false]) (hf := Tryd.results7) (hr := ?_); simp only [ne]; first | rfl | skip
  | true =>
    rw [hg] at hG
    have g := gdB_ok hg
    have hM : FCr Tryd.prog 18 [RBd R, RVb left] (.ow 1 ((mvD R left R.length).map OBd)) := by
      cases left with
      | true => exact movesL_ok g
      | false => exact movesR_ok g
    rw [if_pos rfl]
    refine (fcr_in Tryd.func7 rfl (by simp only [Tryd.ntmps7, anys, List.length_cons, List.length_nil, Nat.reduceAdd, Nat.reduceSub, List.replicate_succ, List.replicate_zero, List.cons_append, List.nil_append] <;> rfl) ?_)
    repeat' first | apply w_seq | apply w_region | apply l_nil | apply rt_n | apply w_ret | apply rt_ret | apply w_skip | refine w_cond_t rfl ?_ | refine w_cond_f rfl ?_ | ((first | refine w_cnd rfl ?_ ?_ | refine w_cd rfl ?_ ?_ | refine w_cn rfl ?_ ?_ | refine w_cond rfl ?_ ?_) <;> intro hc) | (refine l_o ?_; first | refine l_op rfl (by first | (apply k_callf; first | exact ops_callf (hfc := hG) | exact ops_callv (hfc := hM) | fail) | fail) (hk := ?_) | refine l_op (hk := ?_))
    refine en_endm ([(2, 1, [.agg [RSs R]])]) (hf := Tryd.results7) (hO := ?_) (hr := ?_)
    · rfl
    · rfl
end Go.Proofs.YtijjcakbhnolhaaDoor
