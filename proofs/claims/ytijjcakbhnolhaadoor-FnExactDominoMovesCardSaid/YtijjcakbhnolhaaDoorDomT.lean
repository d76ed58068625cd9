/- The reference's boards behind moves. -/
import Derived.Test.YtijjcakbhnolhaaDoorDomS
namespace Go.Proofs.YtijjcakbhnolhaaDoor
open Eng
attribute [local irreducible] OpS OpG FC FCr Rel Fl Ef DR Fs
attribute [local simp] RV.fzR_names
set_option linter.unusedSimpArgs false
set_option linter.unusedVariables false
set_option maxHeartbeats 0
set_option maxRecDepth 100000

namespace Eng
theorem l_at (d : Tmp) {P : Program} {ops : Array Oper} {op : Op} {ty : TypeId} {pos : String} {after : Array Edge} {gd : Option (Nat × Bool)} {rest : List Oper} {R : St → Prop} {s : St} (hk : L P ops (⟨some d, op, ty, pos, after, gd⟩ :: rest) R s) : L P ops (⟨some d, op, ty, pos, after, gd⟩ :: rest) R s := hk
end Eng
theorem clB_mv2 {R : Bd} (g : GdB R) (left : Bool) (r c : Nat) (C : List (List Bool)) (hC : C = clB R) (h1 : r < C.length) (h2 : dnR left r < (C.set r (C[r].set c false)).length) : bdC ((C.set r (C[r].set c false)).set (dnR left r) (((C.set r (C[r].set c false))[dnR left r]).set (dnC left c) false)) = mvC R left r c := by
  subst hC
  have := clB_mv g left r c
  rw [show (clB R).getD r [] = (clB R)[r] by simp [h1]] at this
  have e : ∀ (M : List (List Bool)) (i : Nat) (h : i < M.length), M.getD i [] = M[i] := fun M i h => by simp [h]
  rw [e _ _ h2] at this
  exact this
theorem mvRow_nexS (R : Bd) (left : Bool) (r k : Nat) (L : List Bd) : L ++ mvRow R left r (k + 1) = (L ++ mvRow R left r k) ++ if okM R left r k then [mvC R left r k] else [] := by rw [mvRow, List.append_assoc]
theorem l21MovesL_ok {R : Bd} (g : GdB R) : FCr Tryd.prog 15 [RBd R, RVb true] (.ow 1 ((mvD R true R.length).map OBd)) := by
  have h1 := g.n1
  have h8 := g.n8
  have hw8 := g.w8
  have s1 : ∀ (P : List Bd) (e x : RV), (P.map OBd ++ [e]).set P.length x = P.map OBd ++ [x] := fun P e x => by rw [List.set_append_right _ _ (by simp)]; simp
  have s2 : ∀ (P : List Bd) (e : RV), (P.map OBd ++ [e])[P.length]? = some e := fun P e => by rw [List.getElem?_append_right (by simp)]; simp
  have s3 : ∀ (P : List Bd) (e : RV), (P.map OBd ++ [e]).length = P.length + 1 := fun P e => by simp
  have s4 : ∀ (P : List Bd) (x : Bd), (P ++ [x]).length = P.length + 1 := fun P x => by simp
  have hCl2 := l21Cells_ok R (by omega) (fun r hr => by rw [g.w r hr]; exact hw8)
  have hIs := fun r c => l21Is_ok g r c
  have hat : ∀ (r : Nat) (h : r < (clB R).length), ((clB R)[r]).length = wdB R ∧ ∀ (c : Nat) (h2 : c < (clB R)[r].length), frB R r c = (clB R)[r][c] := fun r h => by
    rw [clB_len] at h
    have hlr := g.w _ (List.getElem_mem h)
    refine ⟨by rw [clB_at h, List.length_map, hlr], fun c h2 => ?_⟩
    have h3 : c < R[r].length := by rw [clB_at h, List.length_map] at h2; exact h2
    rw [frB, ceB_at h h3]
    simp [clB]
  have hmv := fun (r c : Nat) => clB_mv2 g true r c (clB R) rfl
  have hCl := clB_len R
  obtain ⟨C, hC⟩ : ∃ C, C = clB R := ⟨_, rfl⟩
  simp only [← hC] at hCl hCl2 hIs hat hmv
  refine (fcr_in Tryd.func15 rfl (by simp only [Tryd.ntmps15, anys, List.length_cons, List.length_nil, Nat.reduceAdd, Nat.reduceSub, List.replicate_succ, List.replicate_zero, List.cons_append, List.nil_append] <;> rfl) ?_)
  repeat' first | apply w_seq | apply w_block | apply rb_n | apply rb_ret | apply rb_eq | refine rb_ne (by rfl) ?_ | apply w_exit | apply rt_exit | apply w_region | apply l_nil | apply rt_n | apply w_ret | apply rt_ret | apply w_skip | refine w_cond_t rfl ?_ | refine w_cond_f rfl ?_ | ((first | refine w_cnd rfl ?_ ?_ | refine w_cd rfl ?_ ?_ | refine w_cn rfl ?_ ?_ | refine w_cond rfl ?_ ?_) <;> intro hc) | (refine l_o ?_; first | refine l_op rfl (by first | (apply k_callf; first | exact ops_callf (d := 14) (hfc := hCl2) | fail) | fail) (hk := ?_) | refine l_op (hk := ?_) | (refine l_g ?_; first | refine l_y rfl rfl rfl ?_ | refine l_n rfl rfl rfl rfl (hk := ?_) | refine l_n' rfl rfl rfl (hk := ?_) | refine l_spnd rfl rfl rfl (h1 := fun hc => ?_) (h2 := fun hc => ?_) | refine l_spd rfl rfl rfl (h1 := fun hc => ?_) (h2 := fun hc => ?_) | refine l_spn rfl rfl rfl (h1 := fun hc => ?_) (h2 := fun hc => ?_) | refine l_sp rfl rfl rfl (h1 := fun hc => ?_) (h2 := fun hc => ?_)))
  refine w_loopm (ι := Nat × List Bd) (fun q => [(9, RVn q.1), (5, .ref 12 0 q.2.length), (10, .any), (11, .any), (12, .any)]) (fun q => [(12, 1, q.2.map OBd), (2, 1, [.agg [RSs R]])]) (fun q => q.1 ≤ R.length ∧ q.2 = mvD R true q.1) (fun q => R.length - q.1) (0, []) (h0 := ?_) (hs := ?_) (round := ?_)
  · exact ⟨by dsimp only; omega, rfl⟩
  · refine le_eq (by (repeat' first | exact .nil | refine .keep ?_ | refine .any ?_); first | done | fail) rfl rfl
  · intro ⟨k, A⟩ ⟨hk, hA⟩
    dsimp only at hk hA ⊢
    have hAl := mvD_len R true k
    rw [← hA] at hAl
    have hAl : A.length ≤ 64 := by have := Nat.mul_le_mul hk hw8; omega
    by_cases hkl : k < R.length
    · have hkC : k < C.length := by omega
      have hkw := (hat k hkC).1
      repeat' first | apply w_seq | apply w_block | apply rb_n | apply rb_ret | apply rb_eq | refine rb_ne (by rfl) ?_ | apply w_exit | apply rt_exit | apply w_region | apply l_nil | apply rt_n | apply w_ret | apply rt_ret | apply w_skip | refine w_cond_t rfl ?_ | refine w_cond_f rfl ?_ | ((first | refine w_cnd rfl ?_ ?_ | refine w_cd rfl ?_ ?_ | refine w_cn rfl ?_ ?_ | refine w_cond rfl ?_ ?_) <;> intro hc) | (exfalso; omega) | (refine l_o ?_; first | refine l_op (hk := ?_) | (refine l_g ?_; first | refine l_y rfl rfl rfl ?_ | refine l_n rfl rfl rfl rfl (hk := ?_) | refine l_n' rfl rfl rfl (hk := ?_) | refine l_spnd rfl rfl rfl (h1 := fun hc => ?_) (h2 := fun hc => ?_) | refine l_spd rfl rfl rfl (h1 := fun hc => ?_) (h2 := fun hc => ?_) | refine l_spn rfl rfl rfl (h1 := fun hc => ?_) (h2 := fun hc => ?_) | refine l_sp rfl rfl rfl (h1 := fun hc => ?_) (h2 := fun hc => ?_)))
      refine w_loopm (ι := Nat × List Bd) (fun q => [(10, RVn q.1), (5, .ref 12 0 q.2.length), (11, .any)]) (fun q => [(12, 1, q.2.map OBd), (2, 1, [.agg [RSs R]])]) (fun q => q.1 ≤ wdB R ∧ q.2 = A ++ mvRow R true k q.1) (fun q => wdB R - q.1) (0, A) (h0 := ?_) (hs := ?_) (round := ?_)
      · exact ⟨by dsimp only; omega, by simp [mvRow]⟩
      · refine le_eq (by (repeat' first | exact .nil | refine .keep ?_ | refine .any ?_); first | done | fail) rfl rfl
      · intro ⟨j, B⟩ ⟨hj, hB⟩
        dsimp only at hj hB ⊢
        have hBl := mvRow_len R true k j
        have hBl : B.length ≤ 72 := by rw [hB, List.length_append]; omega
        by_cases hjl : j < wdB R
        · have hc1 := (hat k hkC).2 j (by omega)
          have f2 := hIs (k + 1) j (by omega) (by omega)
          have hn := mvRow_nexS R true k j A
          rw [← hB] at hn
          cases c1 : frB R k j with
          | false =>
            rw [show okM R true k j = false by rw [okM, c1, Bool.false_and], if_neg Bool.false_ne_true, List.append_nil] at hn
            rw [c1] at hc1
            repeat' first | apply w_seq | apply w_block | apply rb_n | apply rb_ret | apply rb_eq | refine rb_ne (by rfl) ?_ | apply w_exit | apply rt_exit | apply w_region | apply l_nil | apply rt_n | apply w_ret | apply rt_ret | apply w_skip | refine w_cond_t rfl ?_ | refine w_cond_f rfl ?_ | ((first | refine w_cnd rfl ?_ ?_ | refine w_cd rfl ?_ ?_ | refine w_cn rfl ?_ ?_ | refine w_cond rfl ?_ ?_) <;> intro hc) | (exfalso; omega) | (rw [← hc1]) | (refine l_o ?_; first | refine l_op rfl (by first | (apply k_add; first | exact ops_addn (a := k) (b := 1) rfl rfl (by omega) | exact ops_addn (a := j) (b := 0) rfl rfl (by omega) | fail) | (apply k_callf; first | exact ops_callf (d := 14) (hfc := hCl2) | fail) | fail) (hk := ?_) | refine l_op (hk := ?_) | (refine l_g ?_; first | refine l_y rfl rfl rfl ?_ | refine l_n rfl rfl rfl rfl (hk := ?_) | refine l_n' rfl rfl rfl (hk := ?_) | refine l_spnd rfl rfl rfl (h1 := fun hc => ?_) (h2 := fun hc => ?_) | refine l_spd rfl rfl rfl (h1 := fun hc => ?_) (h2 := fun hc => ?_) | refine l_spn rfl rfl rfl (h1 := fun hc => ?_) (h2 := fun hc => ?_) | refine l_sp rfl rfl rfl (h1 := fun hc => ?_) (h2 := fun hc => ?_)))
            refine rn_mk (j + 1, B) ?_ (by first | omega | (dsimp only; omega)) (le_eq (by (repeat' first | exact .nil | refine .keep ?_ | refine .any ?_); first | done | fail) rfl rfl)
            exact ⟨by dsimp only; omega, hn.symm⟩
          | true =>
            rw [c1] at hc1
            cases c2 : frB R (k + 1) j with
            | false =>
              rw [show okM R true k j = false by rw [okM, dnR, dnC, if_pos rfl, if_pos rfl, c2, Bool.and_false], if_neg Bool.false_ne_true, List.append_nil] at hn
              rw [c2] at f2
              repeat' first | apply w_seq | apply w_block | apply rb_n | apply rb_ret | apply rb_eq | refine rb_ne (by rfl) ?_ | apply w_exit | apply rt_exit | apply w_region | apply l_nil | apply rt_n | apply w_ret | apply rt_ret | apply w_skip | refine w_cond_t rfl ?_ | refine w_cond_f rfl ?_ | ((first | refine w_cnd rfl ?_ ?_ | refine w_cd rfl ?_ ?_ | refine w_cn rfl ?_ ?_ | refine w_cond rfl ?_ ?_) <;> intro hc) | (exfalso; omega) | (rw [← hc1]) | (refine l_o ?_; first | refine l_op rfl (by first | (apply k_add; first | exact ops_addn (a := k) (b := 1) rfl rfl (by omega) | exact ops_addn (a := j) (b := 0) rfl rfl (by omega) | fail) | (apply k_callf; first | exact ops_callf (d := 14) (hfc := hCl2) | exact ops_callf (d := 47) (hfc := f2) | fail) | fail) (hk := ?_) | refine l_op (hk := ?_) | (refine l_g ?_; first | refine l_y rfl rfl rfl ?_ | refine l_n rfl rfl rfl rfl (hk := ?_) | refine l_n' rfl rfl rfl (hk := ?_) | refine l_spnd rfl rfl rfl (h1 := fun hc => ?_) (h2 := fun hc => ?_) | refine l_spd rfl rfl rfl (h1 := fun hc => ?_) (h2 := fun hc => ?_) | refine l_spn rfl rfl rfl (h1 := fun hc => ?_) (h2 := fun hc => ?_) | refine l_sp rfl rfl rfl (h1 := fun hc => ?_) (h2 := fun hc => ?_)))
              refine rn_mk (j + 1, B) ?_ (by first | omega | (dsimp only; omega)) (le_eq (by (repeat' first | exact .nil | refine .keep ?_ | refine .any ?_); first | done | fail) rfl rfl)
              exact ⟨by dsimp only; omega, hn.symm⟩
            | true =>
              have ho : okM R true k j = true := by rw [okM, dnR, dnC, if_pos rfl, if_pos rfl, c1, c2]; rfl
              rw [ho, if_pos rfl] at hn
              rw [c2] at f2
              have hin := frB_in g c2
              have hX := hmv k j hkC (by rw [List.length_set]; show (k + 1) < C.length; omega)
              have hk2 : (k + 1) < C.length := by omega
              obtain ⟨C1, hC1⟩ : ∃ C1, C1 = C.set k (C[k].set j false) := ⟨_, rfl⟩
              have hC1l : C1.length = C.length := by rw [hC1, List.length_set]
              have hC1e : ∀ (h : (k + 1) < C1.length), C1[(k + 1)].length = wdB R := fun h => by
                subst hC1
                rw [List.getElem_set]
                split
                · rw [List.length_set, hkw]
                · exact (hat _ hk2).1
              have hC1r := hC1e (by omega)
              have hC1w : ∀ q ∈ C1, q.length ≤ 8 := fun q hq => by
                rw [hC1] at hq
                rcases List.mem_or_eq_of_mem_set hq with hq | rfl
                · obtain ⟨i, hi, rfl⟩ := List.getElem_of_mem hq
                  rw [(hat i hi).1]; exact hw8
                · rw [List.length_set, hkw]; exact hw8
              have hX : bdC (C1.set (k + 1) (C1[(k + 1)].set j false)) = mvC R true k j := by subst hC1; exact hX
              have hBd := l21Board_ok (C1.set (k + 1) (C1[(k + 1)].set j false)) (by rw [List.length_set]; omega) (fun q hq => by
                rcases List.mem_or_eq_of_mem_set hq with hq | rfl
                · exact hC1w q hq
                · rw [List.length_set]; exact hC1w _ (List.getElem_mem _))
              rw [hX] at hBd
              generalize mvC R true k j = X at *
              have hs55 : (List.map OBs C).set k (RV.ow 1 ((C[k].set j false).map RVb)) = C1.map OBs := by rw [hC1, List.map_set (f := OBs)]
              obtain ⟨C2, hC2⟩ : ∃ C2, C2 = C1.set (k + 1) (C1[(k + 1)].set j false) := ⟨_, rfl⟩
              have hC2l : C2.length = C.length := by rw [hC2, List.length_set]; exact hC1l
              have hs63 : (List.map OBs C1).set (k + 1) (RV.ow 1 ((C1[(k + 1)].set j false).map RVb)) = C2.map OBs := by subst hC2; symm; exact List.map_set
              rw [← hC2] at hBd
              have t1 := List.take_of_length_le (l := C2.map OBs) (i := C.length) (by rw [List.length_map]; omega)
              repeat' first | apply w_seq | apply w_block | apply rb_n | apply rb_ret | apply rb_eq | refine rb_ne (by rfl) ?_ | apply w_exit | apply rt_exit | apply w_region | apply l_nil | apply rt_n | apply w_ret | apply rt_ret | apply w_skip | refine w_cond_t rfl ?_ | refine w_cond_f rfl ?_ | ((first | refine w_cnd rfl ?_ ?_ | refine w_cd rfl ?_ ?_ | refine w_cn rfl ?_ ?_ | refine w_cond rfl ?_ ?_) <;> intro hc) | (exfalso; omega) | (rw [← hc1]) | (refine l_at 58 ?_; refine l_le _ (le_seal 51 k 0 55 rfl (List.getElem?_set_self (by rw [List.length_map]; omega)) rfl rfl (by simp) (namesL_map0 _ _ fun _ => rfl) (by decide) rfl (by simp only [oset, oerase, reduceIte, Nat.reduceEqDiff, RV.setCell, List.set_set, hs55]; rfl)) ?_) | (refine l_at 68 ?_; refine l_le _ (le_seal 51 (k + 1) 0 63 rfl (List.getElem?_set_self (by rw [List.length_map]; omega)) rfl rfl (by simp) (namesL_map0 _ _ fun _ => rfl) (by decide) rfl (by simp only [oset, oerase, reduceIte, Nat.reduceEqDiff, RV.setCell, List.set_set, hs63]; rfl)) ?_) | (refine l_o ?_; first | refine l_op rfl (by first | (apply k_add; first | exact ops_addn (a := k) (b := 1) rfl rfl (by omega) | exact ops_addn (a := j) (b := 0) rfl rfl (by omega) | fail) | (apply k_callf; first | exact ops_callv (d := 70) (hargs := by simp [view1, viewC, olook, nz, nf, t1, hC2l]) (hfc := hBd) | exact ops_callf (d := 14) (hfc := hCl2) | exact ops_callf (d := 47) (hfc := f2) | exact ops_callv (d := 51) (hfc := hCl2) | fail) | (apply k_load; first | exact ops_load_own (d := 55) rfl rfl (by rw [List.getElem?_map, List.getElem?_eq_getElem hkC]; rfl) rfl (by decide +kernel) (by simp [nm]) (by simp [nm]) | exact ops_load_own (d := 63) rfl rfl (by rw [List.getElem?_map, List.getElem?_eq_getElem (show (k + 1) < C1.length by omega)]; rfl) rfl (by decide +kernel) (by simp [nm]) (by simp [nm]) | fail) | fail) (hk := ?_) | refine l_op (hk := ?_) | (refine l_g ?_; first | refine l_y rfl rfl rfl ?_ | refine l_n rfl rfl rfl rfl (hk := ?_) | refine l_n' rfl rfl rfl (hk := ?_) | refine l_spnd rfl rfl rfl (h1 := fun hc => ?_) (h2 := fun hc => ?_) | refine l_spd rfl rfl rfl (h1 := fun hc => ?_) (h2 := fun hc => ?_) | refine l_spn rfl rfl rfl (h1 := fun hc => ?_) (h2 := fun hc => ?_) | refine l_sp rfl rfl rfl (h1 := fun hc => ?_) (h2 := fun hc => ?_)))
              refine rn_mk (j + 1, B ++ [X]) ⟨by dsimp only; omega, hn.symm⟩ (by dsimp only; omega) ?_
              simp only [s3, s4]
              refine le_dropd 51 (by simp only [nz]; rfl) (by simp only [nz, reduceIte, Nat.reduceEqDiff] <;> rfl) ?_
              refine le_trans (le_seal 12 B.length 0 1070 rfl (s2 _ _) rfl rfl (by simp) (namesL_map0 _ _ fun _ => rfl) (by decide) rfl (by simp only [oset, oerase, reduceIte, Nat.reduceEqDiff, RV.setCell, s1, List.set_cons_zero]; rfl)) ?_
              refine le_eq (by (repeat' first | exact .nil | refine .keep ?_ | refine .any ?_); first | done | fail) rfl ?_
              have s5 : List.map OBd B ++ [RV.agg [RV.ow 1 (List.map RV.str X)]] = (B ++ [X]).map OBd := by simp
              rw [s5]
        · obtain rfl : j = wdB R := by omega
          repeat' first | apply w_seq | apply w_block | apply rb_n | apply rb_ret | apply rb_eq | refine rb_ne (by rfl) ?_ | apply w_exit | apply rt_exit | apply w_region | apply l_nil | apply rt_n | apply w_ret | apply rt_ret | apply w_skip | refine w_cond_t rfl ?_ | refine w_cond_f rfl ?_ | ((first | refine w_cnd rfl ?_ ?_ | refine w_cd rfl ?_ ?_ | refine w_cn rfl ?_ ?_ | refine w_cond rfl ?_ ?_) <;> intro hc) | (exfalso; omega) | (refine l_o ?_; first | refine l_op (hk := ?_) | (refine l_g ?_; first | refine l_y rfl rfl rfl ?_ | refine l_n rfl rfl rfl rfl (hk := ?_) | refine l_n' rfl rfl rfl (hk := ?_) | refine l_spnd rfl rfl rfl (h1 := fun hc => ?_) (h2 := fun hc => ?_) | refine l_spd rfl rfl rfl (h1 := fun hc => ?_) (h2 := fun hc => ?_) | refine l_spn rfl rfl rfl (h1 := fun hc => ?_) (h2 := fun hc => ?_) | refine l_sp rfl rfl rfl (h1 := fun hc => ?_) (h2 := fun hc => ?_)))
          refine rn_mk (k + 1, B) ?_ (by first | omega | (dsimp only; omega)) (le_eq (by (repeat' first | exact .nil | refine .keep ?_ | refine .any ?_); first | done | fail) rfl rfl)
          exact ⟨by dsimp only; omega, by dsimp only; rw [mvD, ← hA, ← hB]⟩
    · obtain rfl : k = R.length := by omega
      repeat' first | apply w_seq | apply w_block | apply rb_n | apply rb_ret | apply rb_eq | refine rb_ne (by rfl) ?_ | apply w_exit | apply rt_exit | apply w_region | apply l_nil | apply rt_n | apply w_ret | apply rt_ret | apply w_skip | refine w_cond_t rfl ?_ | refine w_cond_f rfl ?_ | ((first | refine w_cnd rfl ?_ ?_ | refine w_cd rfl ?_ ?_ | refine w_cn rfl ?_ ?_ | refine w_cond rfl ?_ ?_) <;> intro hc) | (exfalso; omega) | (refine l_o ?_; first | refine l_op (hk := ?_) | (refine l_g ?_; first | refine l_y rfl rfl rfl ?_ | refine l_n rfl rfl rfl rfl (hk := ?_) | refine l_n' rfl rfl rfl (hk := ?_) | refine l_spnd rfl rfl rfl (h1 := fun hc => ?_) (h2 := fun hc => ?_) | refine l_spd rfl rfl rfl (h1 := fun hc => ?_) (h2 := fun hc => ?_) | refine l_spn rfl rfl rfl (h1 := fun hc => ?_) (h2 := fun hc => ?_) | refine l_sp rfl rfl rfl (h1 := fun hc => ?_) (h2 := fun hc => ?_)))
      rw [← hA]
      refine en_endm ([(2, 1, [.agg [RSs R]])]) (hf := Tryd.results15) (hO := ?_) (hr := ?_)
      · rfl
      · rfl
theorem l21MovesR_ok {R : Bd} (g : GdB R) : FCr Tryd.prog 15 [RBd R, RVb false] (.ow 1 ((mvD R false R.length).map OBd)) := by
  have h1 := g.n1
  have h8 := g.n8
  have hw8 := g.w8
  have s1 : ∀ (P : List Bd) (e x : RV), (P.map OBd ++ [e]).set P.length x = P.map OBd ++ [x] := fun P e x => by rw [List.set_append_right _ _ (by simp)]; simp
  have s2 : ∀ (P : List Bd) (e : RV), (P.map OBd ++ [e])[P.length]? = some e := fun P e => by rw [List.getElem?_append_right (by simp)]; simp
  have s3 : ∀ (P : List Bd) (e : RV), (P.map OBd ++ [e]).length = P.length + 1 := fun P e => by simp
  have s4 : ∀ (P : List Bd) (x : Bd), (P ++ [x]).length = P.length + 1 := fun P x => by simp
  have hCl2 := l21Cells_ok R (by omega) (fun r hr => by rw [g.w r hr]; exact hw8)
  have hIs := fun r c => l21Is_ok g r c
  have hat : ∀ (r : Nat) (h : r < (clB R).length), ((clB R)[r]).length = wdB R ∧ ∀ (c : Nat) (h2 : c < (clB R)[r].length), frB R r c = (clB R)[r][c] := fun r h => by
    rw [clB_len] at h
    have hlr := g.w _ (List.getElem_mem h)
    refine ⟨by rw [clB_at h, List.length_map, hlr], fun c h2 => ?_⟩
    have h3 : c < R[r].length := by rw [clB_at h, List.length_map] at h2; exact h2
    rw [frB, ceB_at h h3]
    simp [clB]
  have hmv := fun (r c : Nat) => clB_mv2 g false r c (clB R) rfl
  have hCl := clB_len R
  obtain ⟨C, hC⟩ : ∃ C, C = clB R := ⟨_, rfl⟩
  simp only [← hC] at hCl hCl2 hIs hat hmv
  refine (fcr_in Tryd.func15 rfl (by simp only [Tryd.ntmps15, anys, List.length_cons, List.length_nil, Nat.reduceAdd, Nat.reduceSub, List.replicate_succ, List.replicate_zero, List.cons_append, List.nil_append] <;> rfl) ?_)
  repeat' first | apply w_seq | apply w_block | apply rb_n | apply rb_ret | apply rb_eq | refine rb_ne (by rfl) ?_ | apply w_exit | apply rt_exit | apply w_region | apply l_nil | apply rt_n | apply w_ret | apply rt_ret | apply w_skip | refine w_cond_t rfl ?_ | refine w_cond_f rfl ?_ | ((first | refine w_cnd rfl ?_ ?_ | refine w_cd rfl ?_ ?_ | refine w_cn rfl ?_ ?_ | refine w_cond rfl ?_ ?_) <;> intro hc) | (refine l_o ?_; first | refine l_op rfl (by first | (apply k_callf; first | exact ops_callf (d := 14) (hfc := hCl2) | fail) | fail) (hk := ?_) | refine l_op (hk := ?_) | (refine l_g ?_; first | refine l_y rfl rfl rfl ?_ | refine l_n rfl rfl rfl rfl (hk := ?_) | refine l_n' rfl rfl rfl (hk := ?_) | refine l_spnd rfl rfl rfl (h1 := fun hc => ?_) (h2 := fun hc => ?_) | refine l_spd rfl rfl rfl (h1 := fun hc => ?_) (h2 := fun hc => ?_) | refine l_spn rfl rfl rfl (h1 := fun hc => ?_) (h2 := fun hc => ?_) | refine l_sp rfl rfl rfl (h1 := fun hc => ?_) (h2 := fun hc => ?_)))
  refine w_loopm (ι := Nat × List Bd) (fun q => [(9, RVn q.1), (5, .ref 12 0 q.2.length), (10, .any), (11, .any), (12, .any)]) (fun q => [(12, 1, q.2.map OBd), (2, 1, [.agg [RSs R]])]) (fun q => q.1 ≤ R.length ∧ q.2 = mvD R false q.1) (fun q => R.length - q.1) (0, []) (h0 := ?_) (hs := ?_) (round := ?_)
  · exact ⟨by dsimp only; omega, rfl⟩
  · refine le_eq (by (repeat' first | exact .nil | refine .keep ?_ | refine .any ?_); first | done | fail) rfl rfl
  · intro ⟨k, A⟩ ⟨hk, hA⟩
    dsimp only at hk hA ⊢
    have hAl := mvD_len R false k
    rw [← hA] at hAl
    have hAl : A.length ≤ 64 := by have := Nat.mul_le_mul hk hw8; omega
    by_cases hkl : k < R.length
    · have hkC : k < C.length := by omega
      have hkw := (hat k hkC).1
      repeat' first | apply w_seq | apply w_block | apply rb_n | apply rb_ret | apply rb_eq | refine rb_ne (by rfl) ?_ | apply w_exit | apply rt_exit | apply w_region | apply l_nil | apply rt_n | apply w_ret | apply rt_ret | apply w_skip | refine w_cond_t rfl ?_ | refine w_cond_f rfl ?_ | ((first | refine w_cnd rfl ?_ ?_ | refine w_cd rfl ?_ ?_ | refine w_cn rfl ?_ ?_ | refine w_cond rfl ?_ ?_) <;> intro hc) | (exfalso; omega) | (refine l_o ?_; first | refine l_op (hk := ?_) | (refine l_g ?_; first | refine l_y rfl rfl rfl ?_ | refine l_n rfl rfl rfl rfl (hk := ?_) | refine l_n' rfl rfl rfl (hk := ?_) | refine l_spnd rfl rfl rfl (h1 := fun hc => ?_) (h2 := fun hc => ?_) | refine l_spd rfl rfl rfl (h1 := fun hc => ?_) (h2 := fun hc => ?_) | refine l_spn rfl rfl rfl (h1 := fun hc => ?_) (h2 := fun hc => ?_) | refine l_sp rfl rfl rfl (h1 := fun hc => ?_) (h2 := fun hc => ?_)))
      refine w_loopm (ι := Nat × List Bd) (fun q => [(10, RVn q.1), (5, .ref 12 0 q.2.length), (11, .any)]) (fun q => [(12, 1, q.2.map OBd), (2, 1, [.agg [RSs R]])]) (fun q => q.1 ≤ wdB R ∧ q.2 = A ++ mvRow R false k q.1) (fun q => wdB R - q.1) (0, A) (h0 := ?_) (hs := ?_) (round := ?_)
      · exact ⟨by dsimp only; omega, by simp [mvRow]⟩
      · refine le_eq (by (repeat' first | exact .nil | refine .keep ?_ | refine .any ?_); first | done | fail) rfl rfl
      · intro ⟨j, B⟩ ⟨hj, hB⟩
        dsimp only at hj hB ⊢
        have hBl := mvRow_len R false k j
        have hBl : B.length ≤ 72 := by rw [hB, List.length_append]; omega
        by_cases hjl : j < wdB R
        · have hc1 := (hat k hkC).2 j (by omega)
          have f2 := hIs k (j + 1) (by omega) (by omega)
          have hn := mvRow_nexS R false k j A
          rw [← hB] at hn
          cases c1 : frB R k j with
          | false =>
            rw [show okM R false k j = false by rw [okM, c1, Bool.false_and], if_neg Bool.false_ne_true, List.append_nil] at hn
            rw [c1] at hc1
            repeat' first | apply w_seq | apply w_block | apply rb_n | apply rb_ret | apply rb_eq | refine rb_ne (by rfl) ?_ | apply w_exit | apply rt_exit | apply w_region | apply l_nil | apply rt_n | apply w_ret | apply rt_ret | apply w_skip | refine w_cond_t rfl ?_ | refine w_cond_f rfl ?_ | ((first | refine w_cnd rfl ?_ ?_ | refine w_cd rfl ?_ ?_ | refine w_cn rfl ?_ ?_ | refine w_cond rfl ?_ ?_) <;> intro hc) | (exfalso; omega) | (rw [← hc1]) | (refine l_o ?_; first | refine l_op rfl (by first | (apply k_add; first | exact ops_addn (a := k) (b := 0) rfl rfl (by omega) | exact ops_addn (a := j) (b := 1) rfl rfl (by omega) | fail) | (apply k_callf; first | exact ops_callf (d := 14) (hfc := hCl2) | fail) | fail) (hk := ?_) | refine l_op (hk := ?_) | (refine l_g ?_; first | refine l_y rfl rfl rfl ?_ | refine l_n rfl rfl rfl rfl (hk := ?_) | refine l_n' rfl rfl rfl (hk := ?_) | refine l_spnd rfl rfl rfl (h1 := fun hc => ?_) (h2 := fun hc => ?_) | refine l_spd rfl rfl rfl (h1 := fun hc => ?_) (h2 := fun hc => ?_) | refine l_spn rfl rfl rfl (h1 := fun hc => ?_) (h2 := fun hc => ?_) | refine l_sp rfl rfl rfl (h1 := fun hc => ?_) (h2 := fun hc => ?_)))
            refine rn_mk (j + 1, B) ?_ (by first | omega | (dsimp only; omega)) (le_eq (by (repeat' first | exact .nil | refine .keep ?_ | refine .any ?_); first | done | fail) rfl rfl)
            exact ⟨by dsimp only; omega, hn.symm⟩
          | true =>
            rw [c1] at hc1
            cases c2 : frB R k (j + 1) with
            | false =>
              rw [show okM R false k j = false by rw [okM, dnR, dnC, if_neg Bool.false_ne_true, if_neg Bool.false_ne_true, c2, Bool.and_false], if_neg Bool.false_ne_true, List.append_nil] at hn
              rw [c2] at f2
              repeat' first | apply w_seq | apply w_block | apply rb_n | apply rb_ret | apply rb_eq | refine rb_ne (by rfl) ?_ | apply w_exit | apply rt_exit | apply w_region | apply l_nil | apply rt_n | apply w_ret | apply rt_ret | apply w_skip | refine w_cond_t rfl ?_ | refine w_cond_f rfl ?_ | ((first | refine w_cnd rfl ?_ ?_ | refine w_cd rfl ?_ ?_ | refine w_cn rfl ?_ ?_ | refine w_cond rfl ?_ ?_) <;> intro hc) | (exfalso; omega) | (rw [← hc1]) | (refine l_o ?_; first | refine l_op rfl (by first | (apply k_add; first | exact ops_addn (a := k) (b := 0) rfl rfl (by omega) | exact ops_addn (a := j) (b := 1) rfl rfl (by omega) | fail) | (apply k_callf; first | exact ops_callf (d := 14) (hfc := hCl2) | exact ops_callf (d := 47) (hfc := f2) | fail) | fail) (hk := ?_) | refine l_op (hk := ?_) | (refine l_g ?_; first | refine l_y rfl rfl rfl ?_ | refine l_n rfl rfl rfl rfl (hk := ?_) | refine l_n' rfl rfl rfl (hk := ?_) | refine l_spnd rfl rfl rfl (h1 := fun hc => ?_) (h2 := fun hc => ?_) | refine l_spd rfl rfl rfl (h1 := fun hc => ?_) (h2 := fun hc => ?_) | refine l_spn rfl rfl rfl (h1 := fun hc => ?_) (h2 := fun hc => ?_) | refine l_sp rfl rfl rfl (h1 := fun hc => ?_) (h2 := fun hc => ?_)))
              refine rn_mk (j + 1, B) ?_ (by first | omega | (dsimp only; omega)) (le_eq (by (repeat' first | exact .nil | refine .keep ?_ | refine .any ?_); first | done | fail) rfl rfl)
              exact ⟨by dsimp only; omega, hn.symm⟩
            | true =>
              have ho : okM R false k j = true := by rw [okM, dnR, dnC, if_neg Bool.false_ne_true, if_neg Bool.false_ne_true, c1, c2]; rfl
              rw [ho, if_pos rfl] at hn
              rw [c2] at f2
              have hin := frB_in g c2
              have hX := hmv k j hkC (by rw [List.length_set]; show k < C.length; omega)
              have hk2 : k < C.length := by omega
              obtain ⟨C1, hC1⟩ : ∃ C1, C1 = C.set k (C[k].set j false) := ⟨_, rfl⟩
              have hC1l : C1.length = C.length := by rw [hC1, List.length_set]
              have hC1e : ∀ (h : k < C1.length), C1[k].length = wdB R := fun h => by
                subst hC1
                rw [List.getElem_set]
                split
                · rw [List.length_set, hkw]
                · exact (hat _ hk2).1
              have hC1r := hC1e (by omega)
              have hC1w : ∀ q ∈ C1, q.length ≤ 8 := fun q hq => by
                rw [hC1] at hq
                rcases List.mem_or_eq_of_mem_set hq with hq | rfl
                · obtain ⟨i, hi, rfl⟩ := List.getElem_of_mem hq
                  rw [(hat i hi).1]; exact hw8
                · rw [List.length_set, hkw]; exact hw8
              have hX : bdC (C1.set k (C1[k].set (j + 1) false)) = mvC R false k j := by subst hC1; exact hX
              have hBd := l21Board_ok (C1.set k (C1[k].set (j + 1) false)) (by rw [List.length_set]; omega) (fun q hq => by
                rcases List.mem_or_eq_of_mem_set hq with hq | rfl
                · exact hC1w q hq
                · rw [List.length_set]; exact hC1w _ (List.getElem_mem _))
              rw [hX] at hBd
              generalize mvC R false k j = X at *
              have hs55 : (List.map OBs C).set k (RV.ow 1 ((C[k].set j false).map RVb)) = C1.map OBs := by rw [hC1, List.map_set (f := OBs)]
              obtain ⟨C2, hC2⟩ : ∃ C2, C2 = C1.set k (C1[k].set (j + 1) false) := ⟨_, rfl⟩
              have hC2l : C2.length = C.length := by rw [hC2, List.length_set]; exact hC1l
              have hs63 : (List.map OBs C1).set k (RV.ow 1 ((C1[k].set (j + 1) false).map RVb)) = C2.map OBs := by subst hC2; symm; exact List.map_set
              rw [← hC2] at hBd
              have t1 := List.take_of_length_le (l := C2.map OBs) (i := C.length) (by rw [List.length_map]; omega)
              repeat' first | apply w_seq | apply w_block | apply rb_n | apply rb_ret | apply rb_eq | refine rb_ne (by rfl) ?_ | apply w_exit | apply rt_exit | apply w_region | apply l_nil | apply rt_n | apply w_ret | apply rt_ret | apply w_skip | refine w_cond_t rfl ?_ | refine w_cond_f rfl ?_ | ((first | refine w_cnd rfl ?_ ?_ | refine w_cd rfl ?_ ?_ | refine w_cn rfl ?_ ?_ | refine w_cond rfl ?_ ?_) <;> intro hc) | (exfalso; omega) | (rw [← hc1]) | (refine l_at 58 ?_; refine l_le _ (le_seal 51 k 0 55 rfl (List.getElem?_set_self (by rw [List.length_map]; omega)) rfl rfl (by simp) (namesL_map0 _ _ fun _ => rfl) (by decide) rfl (by simp only [oset, oerase, reduceIte, Nat.reduceEqDiff, RV.setCell, List.set_set, hs55]; rfl)) ?_) | (refine l_at 68 ?_; refine l_le _ (le_seal 51 k 0 63 rfl (List.getElem?_set_self (by rw [List.length_map]; omega)) rfl rfl (by simp) (namesL_map0 _ _ fun _ => rfl) (by decide) rfl (by simp only [oset, oerase, reduceIte, Nat.reduceEqDiff, RV.setCell, List.set_set, hs63]; rfl)) ?_) | (refine l_o ?_; first | refine l_op rfl (by first | (apply k_add; first | exact ops_addn (a := k) (b := 0) rfl rfl (by omega) | exact ops_addn (a := j) (b := 1) rfl rfl (by omega) | fail) | (apply k_callf; first | exact ops_callv (d := 70) (hargs := by simp [view1, viewC, olook, nz, nf, t1, hC2l]) (hfc := hBd) | exact ops_callf (d := 14) (hfc := hCl2) | exact ops_callf (d := 47) (hfc := f2) | exact ops_callv (d := 51) (hfc := hCl2) | fail) | (apply k_load; first | exact ops_load_own (d := 55) rfl rfl (by rw [List.getElem?_map, List.getElem?_eq_getElem hkC]; rfl) rfl (by decide +kernel) (by simp [nm]) (by simp [nm]) | exact ops_load_own (d := 63) rfl rfl (by rw [List.getElem?_map, List.getElem?_eq_getElem (show k < C1.length by omega)]; rfl) rfl (by decide +kernel) (by simp [nm]) (by simp [nm]) | fail) | fail) (hk := ?_) | refine l_op (hk := ?_) | (refine l_g ?_; first | refine l_y rfl rfl rfl ?_ | refine l_n rfl rfl rfl rfl (hk := ?_) | refine l_n' rfl rfl rfl (hk := ?_) | refine l_spnd rfl rfl rfl (h1 := fun hc => ?_) (h2 := fun hc => ?_) | refine l_spd rfl rfl rfl (h1 := fun hc => ?_) (h2 := fun hc => ?_) | refine l_spn rfl rfl rfl (h1 := fun hc => ?_) (h2 := fun hc => ?_) | refine l_sp rfl rfl rfl (h1 := fun hc => ?_) (h2 := fun hc => ?_)))
              refine rn_mk (j + 1, B ++ [X]) ⟨by dsimp only; omega, hn.symm⟩ (by dsimp only; omega) ?_
              simp only [s3, s4]
              refine le_dropd 51 (by simp only [nz]; rfl) (by simp only [nz, reduceIte, Nat.reduceEqDiff] <;> rfl) ?_
              refine le_trans (le_seal 12 B.length 0 1070 rfl (s2 _ _) rfl rfl (by simp) (namesL_map0 _ _ fun _ => rfl) (by decide) rfl (by simp only [oset, oerase, reduceIte, Nat.reduceEqDiff, RV.setCell, s1, List.set_cons_zero]; rfl)) ?_
              refine le_eq (by (repeat' first | exact .nil | refine .keep ?_ | refine .any ?_); first | done | fail) rfl ?_
              have s5 : List.map OBd B ++ [RV.agg [RV.ow 1 (List.map RV.str X)]] = (B ++ [X]).map OBd := by simp
              rw [s5]
        · obtain rfl : j = wdB R := by omega
          repeat' first | apply w_seq | apply w_block | apply rb_n | apply rb_ret | apply rb_eq | refine rb_ne (by rfl) ?_ | apply w_exit | apply rt_exit | apply w_region | apply l_nil | apply rt_n | apply w_ret | apply rt_ret | apply w_skip | refine w_cond_t rfl ?_ | refine w_cond_f rfl ?_ | ((first | refine w_cnd rfl ?_ ?_ | refine w_cd rfl ?_ ?_ | refine w_cn rfl ?_ ?_ | refine w_cond rfl ?_ ?_) <;> intro hc) | (exfalso; omega) | (refine l_o ?_; first | refine l_op (hk := ?_) | (refine l_g ?_; first | refine l_y rfl rfl rfl ?_ | refine l_n rfl rfl rfl rfl (hk := ?_) | refine l_n' rfl rfl rfl (hk := ?_) | refine l_spnd rfl rfl rfl (h1 := fun hc => ?_) (h2 := fun hc => ?_) | refine l_spd rfl rfl rfl (h1 := fun hc => ?_) (h2 := fun hc => ?_) | refine l_spn rfl rfl rfl (h1 := fun hc => ?_) (h2 := fun hc => ?_) | refine l_sp rfl rfl rfl (h1 := fun hc => ?_) (h2 := fun hc => ?_)))
          refine rn_mk (k + 1, B) ?_ (by first | omega | (dsimp only; omega)) (le_eq (by (repeat' first | exact .nil | refine .keep ?_ | refine .any ?_); first | done | fail) rfl rfl)
          exact ⟨by dsimp only; omega, by dsimp only; rw [mvD, ← hA, ← hB]⟩
    · obtain rfl : k = R.length := by omega
      repeat' first | apply w_seq | apply w_block | apply rb_n | apply rb_ret | apply rb_eq | refine rb_ne (by rfl) ?_ | apply w_exit | apply rt_exit | apply w_region | apply l_nil | apply rt_n | apply w_ret | apply rt_ret | apply w_skip | refine w_cond_t rfl ?_ | refine w_cond_f rfl ?_ | ((first | refine w_cnd rfl ?_ ?_ | refine w_cd rfl ?_ ?_ | refine w_cn rfl ?_ ?_ | refine w_cond rfl ?_ ?_) <;> intro hc) | (exfalso; omega) | (refine l_o ?_; first | refine l_op (hk := ?_) | (refine l_g ?_; first | refine l_y rfl rfl rfl ?_ | refine l_n rfl rfl rfl rfl (hk := ?_) | refine l_n' rfl rfl rfl (hk := ?_) | refine l_spnd rfl rfl rfl (h1 := fun hc => ?_) (h2 := fun hc => ?_) | refine l_spd rfl rfl rfl (h1 := fun hc => ?_) (h2 := fun hc => ?_) | refine l_spn rfl rfl rfl (h1 := fun hc => ?_) (h2 := fun hc => ?_) | refine l_sp rfl rfl rfl (h1 := fun hc => ?_) (h2 := fun hc => ?_)))
      rw [← hA]
      refine en_endm ([(2, 1, [.agg [RSs R]])]) (hf := Tryd.results15) (hO := ?_) (hr := ?_)
      · rfl
      · rfl
theorem specMoves_ok (R : Bd) (left : Bool) (hl : R.length ≤ 1048576) (hs : ∀ r ∈ R, r.length ≤ 1048576) : FCr Tryd.prog 5 [RBd R, RVb left] (.tup [.ow 1 ((mvs R left).map OBd), RVb (gdB R)]) := by
  have hG := specGoodB_ok R hl hs
  unfold mvs
  cases hg : gdB R with
  | false =>
    rw [hg] at hG
    refine (fcr_in Tryd.func5 rfl (by simp only [Tryd.ntmps5, anys, List.length_cons, List.length_nil, Nat.reduceAdd, Nat.reduceSub, List.replicate_succ, List.replicate_zero, List.cons_append, List.nil_append] <;> rfl) ?_)
    repeat' first | apply w_seq | apply w_region | apply l_nil | apply rt_n | apply w_ret | apply rt_ret | apply w_skip | refine w_cond_t rfl ?_ | refine w_cond_f rfl ?_ | ((first | refine w_cnd rfl ?_ ?_ | refine w_cd rfl ?_ ?_ | refine w_cn rfl ?_ ?_ | refine w_cond rfl ?_ ?_) <;> intro hc) | (refine l_o ?_; first | refine l_op rfl (by first | (apply k_callf; first | exact ops_callf (hfc := hG) | fail) | fail) (hk := ?_) | refine l_op (hk := ?_))
    refine en_endn ([.ow 1 [], RVb false]) (hf := Tryd.results5) (hr := ?_); simp only [ne]; first | rfl | skip
  | true =>
    rw [hg] at hG
    have g := gdB_ok hg
    have hM : FCr Tryd.prog 15 [RBd R, RVb left] (.ow 1 ((mvD R left R.length).map OBd)) := by
      cases left with
      | true => exact l21MovesL_ok g
      | false => exact l21MovesR_ok g
    rw [if_pos rfl]
    refine (fcr_in Tryd.func5 rfl (by simp only [Tryd.ntmps5, anys, List.length_cons, List.length_nil, Nat.reduceAdd, Nat.reduceSub, List.replicate_succ, List.replicate_zero, List.cons_append, List.nil_append] <;> rfl) ?_)
    repeat' first | apply w_seq | apply w_region | apply l_nil | apply rt_n | apply w_ret | apply rt_ret | apply w_skip | refine w_cond_t rfl ?_ | refine w_cond_f rfl ?_ | ((first | refine w_cnd rfl ?_ ?_ | refine w_cd rfl ?_ ?_ | refine w_cn rfl ?_ ?_ | refine w_cond rfl ?_ ?_) <;> intro hc) | (refine l_o ?_; first | refine l_op rfl (by first | (apply k_callf; first | exact ops_callf (hfc := hG) | exact ops_callv (hfc := hM) | fail) | fail) (hk := ?_) | refine l_op (hk := ?_))
    refine en_endm ([(2, 1, [.agg [RSs R]])]) (hf := Tryd.results5) (hO := ?_) (hr := ?_)
    · rfl
    · rfl
end Go.Proofs.YtijjcakbhnolhaaDoor
