/- NamedLoop of the program. For all names. -/
import Derived.Test.YtpcckakchpblcaaGreatDoorRdLpP
namespace Go.Proofs.YtpcckakchpblcaaGreatDoor
open Eng
attribute [local irreducible] OpS OpG FC FCr Rel Fl Ef DR Fs
attribute [local simp] RV.fzR_names
set_option linter.unusedSimpArgs false
set_option maxHeartbeats 0
set_option maxRecDepth 100000
def nmF (t : List UInt8) : Bool × Nat := ((readLp t).isSome, (((readLp t).map (·.1)).getD []).length)
theorem nm_facts : txL.map nmF = [(true, 1), (true, 2), (true, 1), (true, 1), (true, 1), (true, 2), (true, 2), (true, 2)] := by decide +kernel
theorem nm_at {t : List UInt8} {i n : Nat} (h : (txL.map nmF)[i]? = some (true, n)) (ht : txL[i]? = some t) : (readLp t).isSome = true ∧ (((readLp t).map (·.1)).getD []).length = n := by
  rw [List.getElem?_map, ht] at h
  simp only [Option.map_some, nmF, Option.some.injEq, Prod.mk.injEq] at h
  exact h
theorem implNamed_ok (s : List UInt8) : FCr Tryz.prog 19 [RV.str s] (.tup [OLp (nmA (nmd s nmL txL)) (nmB (nmd s nmL txL)), RVi (nmI (nmd s nmL txL)), RVb (nmd s nmL txL).isSome]) := by
  have h0 := implRead_ok [124]
  obtain ⟨g0, f0⟩ := nm_at (t := [124]) (i := 0) (n := 1) (by rw [nm_facts]; rfl) rfl
  rw [loose_eq, g0] at h0
  have h1 := implRead_ok [124, 59, 48, 124, 48]
  obtain ⟨g1, f1⟩ := nm_at (t := [124, 59, 48, 124, 48]) (i := 1) (n := 2) (by rw [nm_facts]; rfl) rfl
  rw [loose_eq, g1] at h1
  have h2 := implRead_ok [48, 124]
  obtain ⟨g2, f2⟩ := nm_at (t := [48, 124]) (i := 2) (n := 1) (by rw [nm_facts]; rfl) rfl
  rw [loose_eq, g2] at h2
  have h3 := implRead_ok [124, 48]
  obtain ⟨g3, f3⟩ := nm_at (t := [124, 48]) (i := 3) (n := 1) (by rw [nm_facts]; rfl) rfl
  rw [loose_eq, g3] at h3
  have h4 := implRead_ok [48, 124, 48]
  obtain ⟨g4, f4⟩ := nm_at (t := [48, 124, 48]) (i := 4) (n := 1) (by rw [nm_facts]; rfl) rfl
  rw [loose_eq, g4] at h4
  have h5 := implRead_ok [124, 59, 48, 124, 49]
  obtain ⟨g5, f5⟩ := nm_at (t := [124, 59, 48, 124, 49]) (i := 5) (n := 2) (by rw [nm_facts]; rfl) rfl
  rw [loose_eq, g5] at h5
  have h6 := implRead_ok [124, 59, 49, 124, 48]
  obtain ⟨g6, f6⟩ := nm_at (t := [124, 59, 49, 124, 48]) (i := 6) (n := 2) (by rw [nm_facts]; rfl) rfl
  rw [loose_eq, g6] at h6
  have h7 := implRead_ok [124, 59, 48, 124]
  obtain ⟨g7, f7⟩ := nm_at (t := [124, 59, 48, 124]) (i := 7) (n := 2) (by rw [nm_facts]; rfl) rfl
  rw [loose_eq, g7] at h7
  generalize ha0 : ((readLp [124]).map (·.1)).getD [] = A0 at *
  generalize hb0 : ((readLp [124]).map (·.2)).getD [] = B0 at *
  generalize ha1 : ((readLp [124, 59, 48, 124, 48]).map (·.1)).getD [] = A1 at *
  generalize hb1 : ((readLp [124, 59, 48, 124, 48]).map (·.2)).getD [] = B1 at *
  generalize ha2 : ((readLp [48, 124]).map (·.1)).getD [] = A2 at *
  generalize hb2 : ((readLp [48, 124]).map (·.2)).getD [] = B2 at *
  generalize ha3 : ((readLp [124, 48]).map (·.1)).getD [] = A3 at *
  generalize hb3 : ((readLp [124, 48]).map (·.2)).getD [] = B3 at *
  generalize ha4 : ((readLp [48, 124, 48]).map (·.1)).getD [] = A4 at *
  generalize hb4 : ((readLp [48, 124, 48]).map (·.2)).getD [] = B4 at *
  generalize ha5 : ((readLp [124, 59, 48, 124, 49]).map (·.1)).getD [] = A5 at *
  generalize hb5 : ((readLp [124, 59, 48, 124, 49]).map (·.2)).getD [] = B5 at *
  generalize ha6 : ((readLp [124, 59, 49, 124, 48]).map (·.1)).getD [] = A6 at *
  generalize hb6 : ((readLp [124, 59, 49, 124, 48]).map (·.2)).getD [] = B6 at *
  generalize ha7 : ((readLp [124, 59, 48, 124]).map (·.1)).getD [] = A7 at *
  generalize hb7 : ((readLp [124, 59, 48, 124]).map (·.2)).getD [] = B7 at *
  refine (fcr_in Tryz.func19 rfl (by simp only [Tryz.ntmps19, anys, List.length_cons, List.length_nil, Nat.reduceAdd, Nat.reduceSub, List.replicate_succ, List.replicate_zero, List.cons_append, List.nil_append] <;> rfl) ?_)
  repeat' first
    | refine w_seq ?_
    | refine w_block ?_
    | refine rb_n ?_
    | refine rb_ret ?_
    | refine rb_eq ?_
    | refine rb_ne (by rfl) ?_
    | refine w_region ?_
    | refine l_nil ?_
    | refine rt_n ?_
    | refine w_ret ?_
    | refine rt_ret ?_
    | refine w_skip ?_
    | refine w_cond_t rfl ?_
    | refine w_cond_f rfl ?_
    | refine w_cnd rfl (fun hc => ?_) (fun hc => ?_)
    | refine w_cd rfl (fun hc => ?_) (fun hc => ?_)
    | refine w_cn rfl (fun hc => ?_) (fun hc => ?_)
    | refine w_cond rfl (fun hc => ?_) (fun hc => ?_)
    | (refine l_o ?_; first | refine l_eqnil rfl (by kernel_rfl) (by intro b; simp only [nz]; rfl) (fun b hb => ?_) | refine l_op rfl (by first | (apply k_callf; first | exact ops_callv (d := 29) (hfc := h0) | exact ops_callv (d := 29) (hfc := h1) | exact ops_callv (d := 29) (hfc := h2) | exact ops_callv (d := 29) (hfc := h3) | exact ops_callv (d := 29) (hfc := h4) | exact ops_callv (d := 29) (hfc := h5) | exact ops_callv (d := 29) (hfc := h6) | exact ops_callv (d := 29) (hfc := h7) | fail) | fail) (hk := ?_) | refine l_op (hk := ?_))
  · have hr : nmd s nmL txL = some [124] := by rw [hc]; decide
    rw [hr]
    refine en_le _ (le_drop 7 (by simp only [nz, nf, nl, nb, nr, ng, nq, nu, reduceIte, Nat.reduceEqDiff, Nat.reduceAdd]; rfl) (by simp only [nz, nf, nl, nb, nr, ng, nq, nu, reduceIte, Nat.reduceEqDiff, Nat.reduceAdd]; rfl)) ?_
    refine en_endm ([(2, 2, [.agg [.ref 100001029 0 A0.length, .ref 200001029 0 B0.length]])]) (hf := Tryz.results19) (hO := ?_) (hr := ?_)
    · rfl
    · show _ = RV.tup [OLp (((readLp [124]).map (·.1)).getD []) (((readLp [124]).map (·.2)).getD []), RVi (((((readLp [124]).map (·.1)).getD []).length : Int) - 1), RVb true]
      rw [ha0, hb0, f0]
      rfl
  · have hr : nmd s nmL txL = some [124, 59, 48, 124, 48] := by rw [hc]; decide
    rw [hr]
    refine en_le _ (le_drop 7 (by simp only [nz, nf, nl, nb, nr, ng, nq, nu, reduceIte, Nat.reduceEqDiff, Nat.reduceAdd]; rfl) (by simp only [nz, nf, nl, nb, nr, ng, nq, nu, reduceIte, Nat.reduceEqDiff, Nat.reduceAdd]; rfl)) ?_
    refine en_endm ([(2, 2, [.agg [.ref 100001029 0 A1.length, .ref 200001029 0 B1.length]])]) (hf := Tryz.results19) (hO := ?_) (hr := ?_)
    · rfl
    · show _ = RV.tup [OLp (((readLp [124, 59, 48, 124, 48]).map (·.1)).getD []) (((readLp [124, 59, 48, 124, 48]).map (·.2)).getD []), RVi (((((readLp [124, 59, 48, 124, 48]).map (·.1)).getD []).length : Int) - 1), RVb true]
      rw [ha1, hb1, f1]
      rfl
  · have hr : nmd s nmL txL = some [48, 124] := by rw [hc]; decide
    rw [hr]
    refine en_le _ (le_drop 7 (by simp only [nz, nf, nl, nb, nr, ng, nq, nu, reduceIte, Nat.reduceEqDiff, Nat.reduceAdd]; rfl) (by simp only [nz, nf, nl, nb, nr, ng, nq, nu, reduceIte, Nat.reduceEqDiff, Nat.reduceAdd]; rfl)) ?_
    refine en_endm ([(2, 2, [.agg [.ref 100001029 0 A2.length, .ref 200001029 0 B2.length]])]) (hf := Tryz.results19) (hO := ?_) (hr := ?_)
    · rfl
    · show _ = RV.tup [OLp (((readLp [48, 124]).map (·.1)).getD []) (((readLp [48, 124]).map (·.2)).getD []), RVi (((((readLp [48, 124]).map (·.1)).getD []).length : Int) - 1), RVb true]
      rw [ha2, hb2, f2]
      rfl
  · have hr : nmd s nmL txL = some [124, 48] := by rw [hc]; decide
    rw [hr]
    refine en_le _ (le_drop 7 (by simp only [nz, nf, nl, nb, nr, ng, nq, nu, reduceIte, Nat.reduceEqDiff, Nat.reduceAdd]; rfl) (by simp only [nz, nf, nl, nb, nr, ng, nq, nu, reduceIte, Nat.reduceEqDiff, Nat.reduceAdd]; rfl)) ?_
    refine en_endm ([(2, 2, [.agg [.ref 100001029 0 A3.length, .ref 200001029 0 B3.length]])]) (hf := Tryz.results19) (hO := ?_) (hr := ?_)
    · rfl
    · show _ = RV.tup [OLp (((readLp [124, 48]).map (·.1)).getD []) (((readLp [124, 48]).map (·.2)).getD []), RVi (((((readLp [124, 48]).map (·.1)).getD []).length : Int) - 1), RVb true]
      rw [ha3, hb3, f3]
      rfl
  · have hr : nmd s nmL txL = some [48, 124, 48] := by rw [hc]; decide
    rw [hr]
    refine en_le _ (le_drop 7 (by simp only [nz, nf, nl, nb, nr, ng, nq, nu, reduceIte, Nat.reduceEqDiff, Nat.reduceAdd]; rfl) (by simp only [nz, nf, nl, nb, nr, ng, nq, nu, reduceIte, Nat.reduceEqDiff, Nat.reduceAdd]; rfl)) ?_
    refine en_endm ([(2, 2, [.agg [.ref 100001029 0 A4.length, .ref 200001029 0 B4.length]])]) (hf := Tryz.results19) (hO := ?_) (hr := ?_)
    · rfl
    · show _ = RV.tup [OLp (((readLp [48, 124, 48]).map (·.1)).getD []) (((readLp [48, 124, 48]).map (·.2)).getD []), RVi (((((readLp [48, 124, 48]).map (·.1)).getD []).length : Int) - 1), RVb true]
      rw [ha4, hb4, f4]
      rfl
  · have hr : nmd s nmL txL = some [124, 59, 48, 124, 49] := by rw [hc]; decide
    rw [hr]
    refine en_le _ (le_drop 7 (by simp only [nz, nf, nl, nb, nr, ng, nq, nu, reduceIte, Nat.reduceEqDiff, Nat.reduceAdd]; rfl) (by simp only [nz, nf, nl, nb, nr, ng, nq, nu, reduceIte, Nat.reduceEqDiff, Nat.reduceAdd]; rfl)) ?_
    refine en_endm ([(2, 2, [.agg [.ref 100001029 0 A5.length, .ref 200001029 0 B5.length]])]) (hf := Tryz.results19) (hO := ?_) (hr := ?_)
    · rfl
    · show _ = RV.tup [OLp (((readLp [124, 59, 48, 124, 49]).map (·.1)).getD []) (((readLp [124, 59, 48, 124, 49]).map (·.2)).getD []), RVi (((((readLp [124, 59, 48, 124, 49]).map (·.1)).getD []).length : Int) - 1), RVb true]
      rw [ha5, hb5, f5]
      rfl
  · have hr : nmd s nmL txL = some [124, 59, 49, 124, 48] := by rw [hc]; decide
    rw [hr]
    refine en_le _ (le_drop 7 (by simp only [nz, nf, nl, nb, nr, ng, nq, nu, reduceIte, Nat.reduceEqDiff, Nat.reduceAdd]; rfl) (by simp only [nz, nf, nl, nb, nr, ng, nq, nu, reduceIte, Nat.reduceEqDiff, Nat.reduceAdd]; rfl)) ?_
    refine en_endm ([(2, 2, [.agg [.ref 100001029 0 A6.length, .ref 200001029 0 B6.length]])]) (hf := Tryz.results19) (hO := ?_) (hr := ?_)
    · rfl
    · show _ = RV.tup [OLp (((readLp [124, 59, 49, 124, 48]).map (·.1)).getD []) (((readLp [124, 59, 49, 124, 48]).map (·.2)).getD []), RVi (((((readLp [124, 59, 49, 124, 48]).map (·.1)).getD []).length : Int) - 1), RVb true]
      rw [ha6, hb6, f6]
      rfl
  · have hr : nmd s nmL txL = some [124, 59, 48, 124] := by rw [hc]; decide
    rw [hr]
    refine en_le _ (le_drop 7 (by simp only [nz, nf, nl, nb, nr, ng, nq, nu, reduceIte, Nat.reduceEqDiff, Nat.reduceAdd]; rfl) (by simp only [nz, nf, nl, nb, nr, ng, nq, nu, reduceIte, Nat.reduceEqDiff, Nat.reduceAdd]; rfl)) ?_
    refine en_endm ([(2, 2, [.agg [.ref 100001029 0 A7.length, .ref 200001029 0 B7.length]])]) (hf := Tryz.results19) (hO := ?_) (hr := ?_)
    · rfl
    · show _ = RV.tup [OLp (((readLp [124, 59, 48, 124]).map (·.1)).getD []) (((readLp [124, 59, 48, 124]).map (·.2)).getD []), RVi (((((readLp [124, 59, 48, 124]).map (·.1)).getD []).length : Int) - 1), RVb true]
      rw [ha7, hb7, f7]
      rfl
  · have hr : nmd s nmL txL = none := by
      unfold nmL txL
      simp only [nmd]
      repeat rw [if_neg (fun h => absurd h.symm (by assumption))]
    rw [hr]
    refine en_endn ([OLp [] [], RVi 0, RVb false]) (hf := Tryz.results19) (hr := ?_); simp only [ne]; first | rfl | skip
end Go.Proofs.YtpcckakchpblcaaGreatDoor
/- The program's on and off. No condition. -/
namespace Go.Proofs.YtpcckakchpblcaaGreatDoor
open Eng
attribute [local irreducible] OpS OpG FC FCr Rel Fl Ef DR Fs
set_option linter.unusedSimpArgs false
set_option maxHeartbeats 0
set_option maxRecDepth 100000
theorem named_on : FCr Tryz.prog 19 [RV.str [111, 110]] (.tup [OLp [[0]] [[]], RVi 0, RVb true]) := by
  have h := implNamed_ok [111, 110]
  have e : nmd [111, 110] nmL txL = some [48, 124] := by decide
  have e2 : readLp [48, 124] = some ([[0]], [[]]) := by decide +kernel
  rw [e] at h
  simp only [nmA, nmB, nmI, e2, Option.map_some, Option.getD_some, Option.isSome_some, List.length_cons, List.length_nil] at h
  exact h
theorem named_off : FCr Tryz.prog 19 [RV.str [111, 102, 102]] (.tup [OLp [[]] [[0]], RVi 0, RVb true]) := by
  have h := implNamed_ok [111, 102, 102]
  have e : nmd [111, 102, 102] nmL txL = some [124, 48] := by decide
  have e2 : readLp [124, 48] = some ([[]], [[0]]) := by decide +kernel
  rw [e] at h
  simp only [nmA, nmB, nmI, e2, Option.map_some, Option.getD_some, Option.isSome_some, List.length_cons, List.length_nil] at h
  exact h
end Go.Proofs.YtpcckakchpblcaaGreatDoor
