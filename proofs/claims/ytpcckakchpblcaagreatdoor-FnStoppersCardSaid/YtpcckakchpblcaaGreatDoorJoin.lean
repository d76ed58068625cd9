/- joinedSides of the program. For all lists within the bounds that the theorem names. -/
import Derived.Test.YtpcckakchpblcaaGreatDoorCompact
import Derived.Test.YtpcckakchpblcaaGreatDoorJ13
import Derived.Test.YtpcckakchpblcaaGreatDoorJ21
namespace Go.Proofs.YtpcckakchpblcaaGreatDoor
open Eng
attribute [local irreducible] OpS OpG FC FCr Rel Fl Ef DR Fs
set_option linter.unusedSimpArgs false
set_option maxHeartbeats 0
set_option maxRecDepth 100000

theorem mul_bd {x : Int} {m : Nat} (h0 : 0 ≤ x) (h1 : x ≤ 1000) (hm : m ≤ 36) : 0 ≤ x * (m : Int) ∧ x * (m : Int) ≤ 36000 := by
  obtain ⟨a, rfl⟩ := Int.eq_ofNat_of_zero_le h0
  have h2 : a * m ≤ 1000 * 36 := Nat.mul_le_mul (by omega) hm
  have e : ((a : Int) * (m : Int)) = ((a * m : Nat) : Int) := by simp
  rw [e]; omega
theorem joinedSides_ok (A B : List (List Int)) (n : Nat) (hn : n ≤ 36) (hA : InI n A) (hB : InI B.length B) (la : A.length ≤ 36) (lb : B.length ≤ 36) (rA : ∀ l ∈ A, l.length ≤ 24) (rB : ∀ l ∈ B, l.length ≤ 24) :
    FCr Tryz.prog 31 [RIss A, RIss B] (OIss (jn A B)) := by
  refine (fcr_in Tryz.func31 rfl (by simp only [Tryz.ntmps31, anys, List.length_cons, List.length_nil, Nat.reduceAdd, Nat.reduceSub, List.replicate_succ, List.replicate_zero, List.cons_append, List.nil_append] <;> rfl) ?_)
  repeat' first
    | refine w_seq ?_
    | refine w_block ?_
    | refine rb_n ?_
    | refine rb_ret ?_
    | refine rb_eq ?_
    | refine rb_ne (by rfl) ?_
    | refine w_exit ?_
    | refine rt_exit ?_
    | refine w_region ?_
    | refine l_nil ?_
    | refine rt_n ?_
    | refine w_ret ?_
    | refine rt_ret ?_
    | refine w_skip ?_
    | refine w_cond_t rfl ?_
    | refine w_cond_f rfl ?_
    | refine w_cnd rfl (fun hc => ?_) (fun hc => ?_)
    | refine w_cd rfl (fun hc => ?_) (fun hc => ?_)
    | refine w_cn rfl (fun hc => ?_) (fun hc => ?_)
    | refine w_cond rfl (fun hc => ?_) (fun hc => ?_)
    | (refine l_o ?_; first | refine l_op (hk := ?_))
  refine w_loopm (ι := Nat × List (List Int)) (fun q => [(19, RVn q.1), (5, .ref 14 0 q.2.length), (14, .any)]) (fun q => [(14, 1, q.2.map OIs)]) (fun q => q.1 ≤ A.length ∧ q.2 = jnTo A B q.1) (fun q => A.length - q.1) (0, []) (h0 := ?_) (hs := ?_) (round := ?_)
  · exact ⟨by omega, rfl⟩
  · refine le_eq (by (repeat' first | exact .nil | refine .keep ?_ | refine .any ?_); first | done | fail) rfl rfl
  · intro ⟨i, out⟩ ⟨hi, ho⟩
    dsimp only at hi ho ⊢
    have hol : out.length ≤ 1296 := by
      rw [ho, jnTo_len]
      exact Nat.le_trans (Nat.mul_le_mul hi lb) (Nat.mul_le_mul la (Nat.le_refl 36))
    by_cases hil : i < A.length
    · have hrow := rA _ (List.getElem_mem hil)
      have hain : ∀ x ∈ A[i], 0 ≤ x ∧ x < n := hA _ (List.getElem_mem hil)
      have him := mul_bd (x := (i : Int)) (m := B.length) (by omega) (by omega) lb
      repeat' first
        | refine w_seq ?_
        | refine w_block ?_
        | refine rb_n ?_
        | refine rb_ret ?_
        | refine rb_eq ?_
        | refine rb_ne (by rfl) ?_
        | refine w_exit ?_
        | refine rt_exit ?_
        | refine w_region ?_
        | refine l_nil ?_
        | refine rt_n ?_
        | refine w_ret ?_
        | refine rt_ret ?_
        | refine w_skip ?_
        | refine w_cond_t rfl ?_
        | refine w_cond_f rfl ?_
        | refine w_cnd rfl (fun hc => ?_) (fun hc => ?_)
        | refine w_cd rfl (fun hc => ?_) (fun hc => ?_)
        | refine w_cn rfl (fun hc => ?_) (fun hc => ?_)
        | refine w_cond rfl (fun hc => ?_) (fun hc => ?_)
        | (exfalso; omega)
        | (refine l_o ?_; first | refine l_op (hk := ?_))
      refine w_loopm (ι := Nat × List (List Int)) (fun q => [(24, RVn q.1), (5, .ref 14 0 q.2.length)]) (fun q => [(14, 1, q.2.map OIs)]) (fun q => q.1 ≤ B.length ∧ q.2.length ≤ 1296 + q.1 ∧ q.2 = out ++ (List.range q.1).map (jnAt A B B.length i)) (fun q => B.length - q.1) (0, out) (h0 := ?_) (hs := ?_) (round := ?_)
      · exact ⟨by omega, by dsimp only; omega, by simp⟩
      · refine le_eq (by (repeat' first | exact .nil | refine .keep ?_ | refine .any ?_); first | done | fail) rfl rfl
      · intro ⟨k, O⟩ ⟨hk, hOl, hO⟩
        dsimp only at hk hOl hO ⊢
        by_cases hkl : k < B.length
        · have hrow2 := rB _ (List.getElem_mem hkl)
          have hbin : ∀ y ∈ B[k], 0 ≤ y ∧ y < B.length := hB _ (List.getElem_mem hkl)
          repeat' first
            | refine w_seq ?_
            | refine w_block ?_
            | refine rb_n ?_
            | refine rb_ret ?_
            | refine rb_eq ?_
            | refine rb_ne (by rfl) ?_
            | refine w_exit ?_
            | refine rt_exit ?_
            | refine w_region ?_
            | refine l_nil ?_
            | refine rt_n ?_
            | refine w_ret ?_
            | refine rt_ret ?_
            | refine w_skip ?_
            | refine w_cond_t rfl ?_
            | refine w_cond_f rfl ?_
            | refine w_cnd rfl (fun hc => ?_) (fun hc => ?_)
            | refine w_cd rfl (fun hc => ?_) (fun hc => ?_)
            | refine w_cn rfl (fun hc => ?_) (fun hc => ?_)
            | refine w_cond rfl (fun hc => ?_) (fun hc => ?_)
            | (exfalso; omega)
            | (refine l_o ?_; first | refine l_op (hk := ?_))
          refine w_loopm (ι := Nat × List Int) (fun q => [(33, RVn q.1), (9, .ref 27 0 q.2.length), (27, .any)]) (fun q => [(27, 1, q.2.map RVi), (14, 1, O.map OIs)]) (fun q => q.1 ≤ A[i].length ∧ q.2.length = q.1 ∧ q.2 = (A[i].take q.1).map (fun x : Int => x * (B.length : Nat) + (k : Nat))) (fun q => A[i].length - q.1) (0, []) (h0 := ?_) (hs := ?_) (round := ?_)
          · simp
          · refine le_eq (by (repeat' first | exact .nil | refine .keep ?_ | refine .any ?_); first | done | fail) rfl rfl
          · intro ⟨j, l1⟩ ⟨hj, hl1, he1⟩
            dsimp only at hj hl1 he1 ⊢
            by_cases hjl : j < A[i].length
            · have hx := hain _ (List.getElem_mem hjl)
              have hxm := mul_bd (x := A[i][j]) (m := B.length) hx.1 (by omega) lb
              repeat' first
                | refine w_seq ?_
                | refine w_block ?_
                | refine rb_n ?_
                | refine rb_ret ?_
                | refine rb_eq ?_
                | refine rb_ne (by rfl) ?_
                | refine w_exit ?_
                | refine rt_exit ?_
                | refine w_region ?_
                | refine l_nil ?_
                | refine rt_n ?_
                | refine w_ret ?_
                | refine rt_ret ?_
                | refine w_skip ?_
                | refine w_cond_t rfl ?_
                | refine w_cond_f rfl ?_
                | refine w_cnd rfl (fun hc => ?_) (fun hc => ?_)
                | refine w_cd rfl (fun hc => ?_) (fun hc => ?_)
                | refine w_cn rfl (fun hc => ?_) (fun hc => ?_)
                | refine w_cond rfl (fun hc => ?_) (fun hc => ?_)
                | (exfalso; omega)
                | (refine l_o ?_; first | refine l_op rfl (by first | (apply k_mul; first | exact ops_mul (m := A[i][j]) (n := ((B.length : Nat) : Int)) rfl rfl (by omega) (by omega) | fail) | (apply k_add; first | exact ops_add (m := A[i][j] * ((B.length : Nat) : Int)) (n := ((k : Nat) : Int)) rfl rfl (by omega) (by omega) | fail) | fail) (hk := ?_) | refine l_op (hk := ?_))
              refine rn_mk (j + 1, l1 ++ [A[i][j] * ((B.length : Nat) : Int) + ((k : Nat) : Int)]) ?_ (by first | omega | (dsimp only; omega)) (le_eq (by (repeat' first | exact .nil | refine .keep ?_ | refine .any ?_); first | done | fail) rfl rfl)
              refine ⟨by dsimp only; omega, by simp; omega, ?_⟩
              dsimp only
              rw [he1, List.take_succ_eq_append_getElem hjl, List.map_append]
              rfl
            · obtain rfl : j = A[i].length := by omega
              rw [List.take_length] at he1
              repeat' first
                | refine w_seq ?_
                | refine w_block ?_
                | refine rb_n ?_
                | refine rb_ret ?_
                | refine rb_eq ?_
                | refine rb_ne (by rfl) ?_
                | refine w_exit ?_
                | refine rt_exit ?_
                | refine w_region ?_
                | refine l_nil ?_
                | refine rt_n ?_
                | refine w_ret ?_
                | refine rt_ret ?_
                | refine w_skip ?_
                | refine w_cond_t rfl ?_
                | refine w_cond_f rfl ?_
                | refine w_cnd rfl (fun hc => ?_) (fun hc => ?_)
                | refine w_cd rfl (fun hc => ?_) (fun hc => ?_)
                | refine w_cn rfl (fun hc => ?_) (fun hc => ?_)
                | refine w_cond rfl (fun hc => ?_) (fun hc => ?_)
                | (exfalso; omega)
                | (refine l_o ?_; first | refine l_op (hk := ?_))
              refine w_loopm (ι := Nat × List Int) (fun q => [(51, RVn q.1), (9, .ref 27 0 q.2.length)]) (fun q => [(27, 1, q.2.map RVi), (14, 1, O.map OIs)]) (fun q => q.1 ≤ B[k].length ∧ q.2.length = l1.length + q.1 ∧ q.2 = l1 ++ (B[k].take q.1).map (fun y : Int => (i : Nat) * ((B.length : Nat) : Int) + y)) (fun q => B[k].length - q.1) (0, l1) (h0 := ?_) (hs := ?_) (round := ?_)
              · simp
              · refine le_eq (by (repeat' first | exact .nil | refine .keep ?_ | refine .any ?_); first | done | fail) rfl rfl
              · intro ⟨p, l2⟩ ⟨hp, hl2, he2⟩
                dsimp only at hp hl2 he2 ⊢
                by_cases hpl : p < B[k].length
                · have hy := hbin _ (List.getElem_mem hpl)
                  repeat' first
                    | refine w_seq ?_
                    | refine w_block ?_
                    | refine rb_n ?_
                    | refine rb_ret ?_
                    | refine rb_eq ?_
                    | refine rb_ne (by rfl) ?_
                    | refine w_exit ?_
                    | refine rt_exit ?_
                    | refine w_region ?_
                    | refine l_nil ?_
                    | refine rt_n ?_
                    | refine w_ret ?_
                    | refine rt_ret ?_
                    | refine w_skip ?_
                    | refine w_cond_t rfl ?_
                    | refine w_cond_f rfl ?_
                    | refine w_cnd rfl (fun hc => ?_) (fun hc => ?_)
                    | refine w_cd rfl (fun hc => ?_) (fun hc => ?_)
                    | refine w_cn rfl (fun hc => ?_) (fun hc => ?_)
                    | refine w_cond rfl (fun hc => ?_) (fun hc => ?_)
                    | (exfalso; omega)
                    | (refine l_o ?_; first | refine l_op rfl (by first | (apply k_mul; first | exact ops_mul (m := ((i : Nat) : Int)) (n := ((B.length : Nat) : Int)) rfl rfl (by omega) (by omega) | fail) | (apply k_add; first | exact ops_add (m := ((i : Nat) : Int) * ((B.length : Nat) : Int)) (n := B[k][p]) rfl rfl (by omega) (by omega) | fail) | fail) (hk := ?_) | refine l_op (hk := ?_))
                  refine rn_mk (p + 1, l2 ++ [((i : Nat) : Int) * ((B.length : Nat) : Int) + B[k][p]]) ?_ (by first | omega | (dsimp only; omega)) (le_eq (by (repeat' first | exact .nil | refine .keep ?_ | refine .any ?_); first | done | fail) rfl rfl)
                  refine ⟨by dsimp only; omega, by simp; omega, ?_⟩
                  dsimp only
                  rw [he2, List.take_succ_eq_append_getElem hpl, List.map_append, List.append_assoc]
                  rfl
                · obtain rfl : p = B[k].length := by omega
                  rw [List.take_length] at he2
                  have hboth : l2 = bothL A B B.length i k := by rw [he2, he1, bothL, gd hil, gd hkl]
                  have hS := sortI_ok l2 (by omega)
                  have hC := compact_ok (srtI l2) (by rw [srtI_len]; omega)
                  have hsl := srtI_len l2
                  rw [hsl] at hC
                  have hat : dd (srtI l2) = jnAt A B B.length i k := by rw [jnAt, hboth]
                  have hdl := dd_len (srtI l2)
                  generalize dd (srtI l2) = D at *
                  generalize srtI l2 = SS at *
                  repeat' first
                    | refine w_seq ?_
                    | refine w_block ?_
                    | refine rb_n ?_
                    | refine rb_ret ?_
                    | refine rb_eq ?_
                    | refine rb_ne (by rfl) ?_
                    | refine w_exit ?_
                    | refine rt_exit ?_
                    | refine w_region ?_
                    | refine l_nil ?_
                    | refine rt_n ?_
                    | refine w_ret ?_
                    | refine rt_ret ?_
                    | refine w_skip ?_
                    | refine w_cond_t rfl ?_
                    | refine w_cond_f rfl ?_
                    | refine w_cnd rfl (fun hc => ?_) (fun hc => ?_)
                    | refine w_cd rfl (fun hc => ?_) (fun hc => ?_)
                    | refine w_cn rfl (fun hc => ?_) (fun hc => ?_)
                    | refine w_cond rfl (fun hc => ?_) (fun hc => ?_)
                    | (exfalso; omega)
                    | (refine l_o ?_; first | refine l_op rfl (by first | (apply k_callf; first | exact ops_callG (d := 68) [27] [27] ([]) (hfc := hC) | exact ops_callm1 (d := 65) 27 (SS.map RVi) rfl rfl rfl (by kernel_rfl) hS (by simp [nm]) (by simp [nm]) (by simp [ns]) (by simp [RV.resOkT, RV.resOk, RV.isAgg, nm]) (by simp [ns]) (by simp [nz, nm]) (by simp [nz, nm]) | fail) | fail) (hk := ?_) | refine l_op (hk := ?_))
                  refine rn_mk (k + 1, O ++ [D]) ?_ (by first | omega | (dsimp only; omega)) (le_eq (by (repeat' first | exact .nil | refine .keep ?_ | refine .any ?_); first | done | fail) rfl rfl)
                  refine ⟨by dsimp only; omega, by simp; omega, ?_⟩
                  dsimp only
                  rw [hO, hat, List.range_succ, List.map_append, List.append_assoc]
                  rfl
        · obtain rfl : k = B.length := by omega
          repeat' first
            | refine w_seq ?_
            | refine w_block ?_
            | refine rb_n ?_
            | refine rb_ret ?_
            | refine rb_eq ?_
            | refine rb_ne (by rfl) ?_
            | refine w_exit ?_
            | refine rt_exit ?_
            | refine w_region ?_
            | refine l_nil ?_
            | refine rt_n ?_
            | refine w_ret ?_
            | refine rt_ret ?_
            | refine w_skip ?_
            | refine w_cond_t rfl ?_
            | refine w_cond_f rfl ?_
            | refine w_cnd rfl (fun hc => ?_) (fun hc => ?_)
            | refine w_cd rfl (fun hc => ?_) (fun hc => ?_)
            | refine w_cn rfl (fun hc => ?_) (fun hc => ?_)
            | refine w_cond rfl (fun hc => ?_) (fun hc => ?_)
            | (exfalso; omega)
            | (refine l_o ?_; first | refine l_op (hk := ?_))
          refine rn_mk (i + 1, O) ?_ (by first | omega | (dsimp only; omega)) (le_eq (by (repeat' first | exact .nil | refine .keep ?_ | refine .any ?_); first | done | fail) rfl rfl)
          refine ⟨by dsimp only; omega, ?_⟩
          dsimp only
          rw [hO, ho, jnTo_succ, jnRow]
    · obtain rfl : i = A.length := by omega
      rw [ho]
      repeat' first
        | refine w_seq ?_
        | refine w_block ?_
        | refine rb_n ?_
        | refine rb_ret ?_
        | refine rb_eq ?_
        | refine rb_ne (by rfl) ?_
        | refine w_exit ?_
        | refine rt_exit ?_
        | refine w_region ?_
        | refine l_nil ?_
        | refine rt_n ?_
        | refine w_ret ?_
        | refine rt_ret ?_
        | refine w_skip ?_
        | refine w_cond_t rfl ?_
        | refine w_cond_f rfl ?_
        | refine w_cnd rfl (fun hc => ?_) (fun hc => ?_)
        | refine w_cd rfl (fun hc => ?_) (fun hc => ?_)
        | refine w_cn rfl (fun hc => ?_) (fun hc => ?_)
        | refine w_cond rfl (fun hc => ?_) (fun hc => ?_)
        | (exfalso; omega)
        | (refine l_o ?_; first | refine l_op (hk := ?_))
      refine en_end (hf := Tryz.results31) (hr := ?_); simp only [ne, nf, nl, nr, lget, reduceIte, Nat.reduceEqDiff]; first | rfl | refine congrArg RVb ?_ | refine congrArg RVi ?_ | skip
end Go.Proofs.YtpcckakchpblcaaGreatDoor
