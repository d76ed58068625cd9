/- ReadLoop of the reference. For all texts of the lengths that the theorems name. -/
import Derived.Test.YtpcckakchpblcaaGreatDoorJ8
import Derived.Test.YtpcckakchpblcaaGreatDoorText2
namespace Go.Proofs.YtpcckakchpblcaaGreatDoor
open Eng
attribute [local irreducible] OpS OpG FC FCr Rel Fl Ef DR Fs
set_option linter.unusedSimpArgs false
set_option maxHeartbeats 0
set_option maxRecDepth 100000

theorem spl_small (b : UInt8) : ∀ (acc s : List UInt8), (spl b acc s).length ≤ s.length + 1 ∧ ∀ x ∈ spl b acc s, x.length ≤ acc.length + s.length
  | acc, [] => by simp [spl]
  | acc, c :: cs => by
    rw [spl]
    split
    · have h := spl_small b [] cs
      refine ⟨by simp only [List.length_cons]; omega, fun x hx => ?_⟩
      rcases List.mem_cons.1 hx with rfl | hx
      · simp
      · have := h.2 x hx; simp only [List.length_cons, List.length_nil] at *; omega
    · have h := spl_small b (acc ++ [c]) cs
      refine ⟨by simp only [List.length_cons]; omega, fun x hx => ?_⟩
      have := h.2 x hx
      simp only [List.length_append, List.length_cons, List.length_nil] at *; omega
/-- Numbers read one by one. -/
def rdAll : List (List UInt8) → Option (List Int)
  | [] => some []
  | p :: ps => match readI p with
    | none => none
    | some n => (rdAll ps).map (n :: ·)
def listI (s : List UInt8) : Option (List Int) := if s = [] then some [] else rdAll (spl 44 [] s)
theorem rdAll_at {ps : List (List UInt8)} {i : Nat} (h : i < ps.length) : rdAll (ps.drop i) = match readI ps[i] with
    | none => none
    | some n => (rdAll (ps.drop (i + 1))).map (n :: ·) := by
  rw [List.drop_eq_getElem_cons h, rdAll]
theorem l25List_ok (s : List UInt8) (hs : s.length ≤ 1000000000) : FCr Tryz.prog 110 [RV.str s] (.tup [OIs ((listI s).getD []), RVb (listI s).isSome]) := by
  unfold listI
  by_cases he : s = []
  · subst he
    rw [if_pos rfl]
    refine (fcr_in Tryz.func110 rfl (by simp only [Tryz.ntmps110, anys, List.length_cons, List.length_nil, Nat.reduceAdd, Nat.reduceSub, List.replicate_succ, List.replicate_zero, List.cons_append, List.nil_append] <;> rfl) ?_)
    repeat' first
      | refine w_seq ?_
      | refine w_block ?_
      | refine rb_n ?_
      | refine rb_ret ?_
      | refine rb_eq ?_
      | refine rb_ne (by rfl) ?_
      | refine w_exit ?_
      | refine rt_exit ?_
      | refine w_region ?_
      | refine l_nil ?_
      | refine rt_n ?_
      | refine w_ret ?_
      | refine rt_ret ?_
      | refine w_skip ?_
      | refine w_cond_t rfl ?_
      | refine w_cond_f rfl ?_
      | refine w_cnd rfl (fun hc => ?_) (fun hc => ?_)
      | refine w_cd rfl (fun hc => ?_) (fun hc => ?_)
      | refine w_cn rfl (fun hc => ?_) (fun hc => ?_)
      | refine w_cond rfl (fun hc => ?_) (fun hc => ?_)
      | (refine l_o ?_; first | refine l_eqnil rfl (by kernel_rfl) (by intro b; simp only [nz]; rfl) (fun b hb => ?_) | refine l_op (hk := ?_))
    all_goals first
      | (exfalso; exact absurd rfl hc)
      | (refine en_end (hf := Tryz.results110) (hr := ?_); simp only [ne, nf, nl, nr, lget, reduceIte, Nat.reduceEqDiff]; first | rfl | refine congrArg RVb ?_ | refine congrArg RVi ?_ | skip; done)
      | trace_state
  · rw [if_neg he]
    obtain ⟨hn, hx⟩ := spl_small 44 [] s
    have hS := l1Split_ok s 44 (by omega)
    generalize spl 44 [] s = ps at *
    generalize hr : rdAll ps = r
    refine (fcr_in Tryz.func110 rfl (by simp only [Tryz.ntmps110, anys, List.length_cons, List.length_nil, Nat.reduceAdd, Nat.reduceSub, List.replicate_succ, List.replicate_zero, List.cons_append, List.nil_append] <;> rfl) ?_)
    repeat' first
      | refine w_seq ?_
      | refine w_block ?_
      | refine rb_n ?_
      | refine rb_ret ?_
      | refine rb_eq ?_
      | refine rb_ne (by rfl) ?_
      | refine w_exit ?_
      | refine rt_exit ?_
      | refine w_region ?_
      | refine l_nil ?_
      | refine rt_n ?_
      | refine w_ret ?_
      | refine rt_ret ?_
      | refine w_skip ?_
      | refine w_cond_t rfl ?_
      | refine w_cond_f rfl ?_
      | refine w_cnd rfl (fun hc => ?_) (fun hc => ?_)
      | refine w_cd rfl (fun hc => ?_) (fun hc => ?_)
      | refine w_cn rfl (fun hc => ?_) (fun hc => ?_)
      | refine w_cond rfl (fun hc => ?_) (fun hc => ?_)
      | (exfalso; exact he hc)
      | (refine l_o ?_; first | refine l_eqnil rfl (by kernel_rfl) (by intro b; simp only [nz]; rfl) (fun b hb => ?_) | refine l_op rfl (by first | (apply k_callf; first | exact ops_callf (hfc := hS) | fail) | fail) (hk := ?_) | refine l_op (hk := ?_))
    refine w_loopm (ι := Nat × List Int) (fun q => [(6, RVn q.1), (4, .ref 9 0 q.2.length), (9, .any), (7, .any), (8, .any)]) (fun q => [(9, 1, q.2.map RVi)]) (fun q => q.1 ≤ ps.length ∧ q.2.length = q.1 ∧ (rdAll (ps.drop q.1)).map (q.2 ++ ·) = r) (fun q => ps.length - q.1) (0, []) (h0 := ?_) (hs := ?_) (round := ?_)
    · exact ⟨by omega, rfl, by simp [hr]⟩
    · refine le_eq (by (repeat' first | exact .nil | refine .keep ?_ | refine .any ?_); first | done | fail) rfl rfl
    · intro ⟨i, out⟩ ⟨hi, hol, hg⟩
      dsimp only at hi hol hg ⊢
      by_cases hil : i < ps.length
      · have hR := l1Read_ok ps[i] (by have := hx _ (List.getElem_mem hil); simp at this; omega)
        rw [rdAll_at hil] at hg
        cases hri : readI ps[i] with
        | none =>
          rw [hri] at hg hR
          simp only [Option.map_none] at hg
          subst hg
          repeat' first
            | refine w_seq ?_
            | refine w_block ?_
            | refine rb_n ?_
            | refine rb_ret ?_
            | refine rb_eq ?_
            | refine rb_ne (by rfl) ?_
            | refine w_exit ?_
            | refine rt_exit ?_
            | refine w_region ?_
            | refine l_nil ?_
            | refine rt_n ?_
            | refine w_ret ?_
            | refine rt_ret ?_
            | refine w_skip ?_
            | refine w_cond_t rfl ?_
            | refine w_cond_f rfl ?_
            | refine w_cnd rfl (fun hc => ?_) (fun hc => ?_)
            | refine w_cd rfl (fun hc => ?_) (fun hc => ?_)
            | refine w_cn rfl (fun hc => ?_) (fun hc => ?_)
            | refine w_cond rfl (fun hc => ?_) (fun hc => ?_)
            | (exfalso; omega)
            | (refine l_o ?_; first | refine l_eqnil rfl (by kernel_rfl) (by intro b; simp only [nz]; rfl) (fun b hb => ?_) | refine l_op rfl (by first | (apply k_callf; first | exact ops_callf (hfc := hR) | fail) | fail) (hk := ?_) | refine l_op (hk := ?_))
          refine en_endn ([.ow 1 [], RVb false]) (hf := Tryz.results110) (hr := ?_); simp only [ne]; first | rfl | skip
        | some n =>
          rw [hri] at hg hR
          repeat' first
            | refine w_seq ?_
            | refine w_block ?_
            | refine rb_n ?_
            | refine rb_ret ?_
            | refine rb_eq ?_
            | refine rb_ne (by rfl) ?_
            | refine w_exit ?_
            | refine rt_exit ?_
            | refine w_region ?_
            | refine l_nil ?_
            | refine rt_n ?_
            | refine w_ret ?_
            | refine rt_ret ?_
            | refine w_skip ?_
            | refine w_cond_t rfl ?_
            | refine w_cond_f rfl ?_
            | refine w_cnd rfl (fun hc => ?_) (fun hc => ?_)
            | refine w_cd rfl (fun hc => ?_) (fun hc => ?_)
            | refine w_cn rfl (fun hc => ?_) (fun hc => ?_)
            | refine w_cond rfl (fun hc => ?_) (fun hc => ?_)
            | (exfalso; omega)
            | (refine l_o ?_; first | refine l_eqnil rfl (by kernel_rfl) (by intro b; simp only [nz]; rfl) (fun b hb => ?_) | refine l_op rfl (by first | (apply k_callf; first | exact ops_callf (hfc := hR) | fail) | fail) (hk := ?_) | refine l_op (hk := ?_))
          refine rn_mk (i + 1, out ++ [n]) ?_ (by first | omega | (dsimp only; omega)) (le_eq (by (repeat' first | exact .nil | refine .keep ?_ | refine .any ?_); first | done | fail) rfl rfl)
          refine ⟨by dsimp only; omega, by simp; omega, ?_⟩
          dsimp only at hg ⊢
          rw [← hg, Option.map_map]
          congr 1
          funext z
          simp
      · obtain rfl : i = ps.length := by omega
        rw [List.drop_eq_nil_of_le (Nat.le_refl _), rdAll] at hg
        simp only [Option.map_some, List.append_nil] at hg
        subst hg
        repeat' first
          | refine w_seq ?_
          | refine w_block ?_
          | refine rb_n ?_
          | refine rb_ret ?_
          | refine rb_eq ?_
          | refine rb_ne (by rfl) ?_
          | refine w_exit ?_
          | refine rt_exit ?_
          | refine w_region ?_
          | refine l_nil ?_
          | refine rt_n ?_
          | refine w_ret ?_
          | refine rt_ret ?_
          | refine w_skip ?_
          | refine w_cond_t rfl ?_
          | refine w_cond_f rfl ?_
          | refine w_cnd rfl (fun hc => ?_) (fun hc => ?_)
          | refine w_cd rfl (fun hc => ?_) (fun hc => ?_)
          | refine w_cn rfl (fun hc => ?_) (fun hc => ?_)
          | refine w_cond rfl (fun hc => ?_) (fun hc => ?_)
          | (exfalso; omega)
          | (refine l_o ?_; first | refine l_eqnil rfl (by kernel_rfl) (by intro b; simp only [nz]; rfl) (fun b hb => ?_) | refine l_op (hk := ?_))
        refine en_end (hf := Tryz.results110) (hr := ?_); simp only [ne, nf, nl, nr, lget, reduceIte, Nat.reduceEqDiff]; first | rfl | refine congrArg RVb ?_ | refine congrArg RVi ?_ | skip
/-- A place: what Left may go to, what Right may go to. -/
def placeI (s : List UInt8) : Option (List Int × List Int) :=
  if (spl 124 [] s).length = 2 then
    match listI ((spl 124 [] s).getD 0 []), listI ((spl 124 [] s).getD 1 []) with
    | some l, some r => some (l, r)
    | _, _ => none
  else none
def placesI : List (List UInt8) → Option (List (List Int) × List (List Int))
  | [] => some ([], [])
  | p :: ps => match placeI p with
    | none => none
    | some q => (placesI ps).map fun z => (q.1 :: z.1, q.2 :: z.2)
def readLp (s : List UInt8) : Option (List (List Int) × List (List Int)) :=
  if 4000 < s.length then none else
  match placesI (spl 59 [] s) with
  | none => none
  | some q => if goodLp q.1 q.2 then some q else none
theorem placesI_at {ps : List (List UInt8)} {i : Nat} (h : i < ps.length) : placesI (ps.drop i) = match placeI ps[i] with
    | none => none
    | some q => (placesI (ps.drop (i + 1))).map fun z => (q.1 :: z.1, q.2 :: z.2) := by
  rw [List.drop_eq_getElem_cons h, placesI]
theorem specRead_ok (s : List UInt8) : FCr Tryz.prog 81 [RV.str s] (.tup [OLp (((readLp s).map (·.1)).getD []) (((readLp s).map (·.2)).getD []), RVb (readLp s).isSome]) := by
  unfold readLp
  by_cases hs : 4000 < s.length
  · rw [if_pos hs]
    refine (fcr_in Tryz.func81 rfl (by simp only [Tryz.ntmps81, anys, List.length_cons, List.length_nil, Nat.reduceAdd, Nat.reduceSub, List.replicate_succ, List.replicate_zero, List.cons_append, List.nil_append] <;> rfl) ?_)
    repeat' first
      | refine w_seq ?_
      | refine w_block ?_
      | refine rb_n ?_
      | refine rb_ret ?_
      | refine rb_eq ?_
      | refine rb_ne (by rfl) ?_
      | refine w_exit ?_
      | refine rt_exit ?_
      | refine w_region ?_
      | refine l_nil ?_
      | refine rt_n ?_
      | refine w_ret ?_
      | refine rt_ret ?_
      | refine w_skip ?_
      | refine w_cond_t rfl ?_
      | refine w_cond_f rfl ?_
      | refine w_cnd rfl (fun hc => ?_) (fun hc => ?_)
      | refine w_cd rfl (fun hc => ?_) (fun hc => ?_)
      | refine w_cn rfl (fun hc => ?_) (fun hc => ?_)
      | refine w_cond rfl (fun hc => ?_) (fun hc => ?_)
      | (exfalso; omega)
      | (refine l_o ?_; first | refine l_op (hk := ?_) | (refine l_g ?_; first | refine l_y rfl rfl rfl ?_ | refine l_n rfl rfl rfl rfl (hk := ?_) | refine l_n' rfl rfl rfl (hk := ?_) | refine l_spnd rfl rfl rfl (h1 := fun hc => ?_) (h2 := fun hc => ?_) | refine l_spd rfl rfl rfl (h1 := fun hc => ?_) (h2 := fun hc => ?_) | refine l_spn rfl rfl rfl (h1 := fun hc => ?_) (h2 := fun hc => ?_) | refine l_sp rfl rfl rfl (h1 := fun hc => ?_) (h2 := fun hc => ?_)))
    refine en_endn ([OLp [] [], RVb false]) (hf := Tryz.results81) (hr := ?_); simp only [ne]; first | rfl | skip
  · rw [if_neg hs]
    obtain ⟨hn, hx⟩ := spl_small 59 [] s
    have hS := l1Split_ok s 59 (by omega)
    generalize spl 59 [] s = ps at *
    generalize hr : placesI ps = r
    refine (fcr_in Tryz.func81 rfl (by simp only [Tryz.ntmps81, anys, List.length_cons, List.length_nil, Nat.reduceAdd, Nat.reduceSub, List.replicate_succ, List.replicate_zero, List.cons_append, List.nil_append] <;> rfl) ?_)
    repeat' first
      | refine w_seq ?_
      | refine w_block ?_
      | refine rb_n ?_
      | refine rb_ret ?_
      | refine rb_eq ?_
      | refine rb_ne (by rfl) ?_
      | refine w_exit ?_
      | refine rt_exit ?_
      | refine w_region ?_
      | refine l_nil ?_
      | refine rt_n ?_
      | refine w_ret ?_
      | refine rt_ret ?_
      | refine w_skip ?_
      | refine w_cond_t rfl ?_
      | refine w_cond_f rfl ?_
      | refine w_cnd rfl (fun hc => ?_) (fun hc => ?_)
      | refine w_cd rfl (fun hc => ?_) (fun hc => ?_)
      | refine w_cn rfl (fun hc => ?_) (fun hc => ?_)
      | refine w_cond rfl (fun hc => ?_) (fun hc => ?_)
      | (exfalso; omega)
      | (refine l_o ?_; first | refine l_op rfl (by first | (apply k_callf; first | exact ops_callf (hfc := hS) | fail) | fail) (hk := ?_) | refine l_op (hk := ?_) | (refine l_g ?_; first | refine l_y rfl rfl rfl ?_ | refine l_n rfl rfl rfl rfl (hk := ?_) | refine l_n' rfl rfl rfl (hk := ?_) | refine l_spnd rfl rfl rfl (h1 := fun hc => ?_) (h2 := fun hc => ?_) | refine l_spd rfl rfl rfl (h1 := fun hc => ?_) (h2 := fun hc => ?_) | refine l_spn rfl rfl rfl (h1 := fun hc => ?_) (h2 := fun hc => ?_) | refine l_sp rfl rfl rfl (h1 := fun hc => ?_) (h2 := fun hc => ?_)))
    refine w_le _ (le_trans (le_nw 4 rfl (.agg (.now (k := 1) (by decide) (.now (k := 1) (by decide) .nil)) .nil) (by simp only [nz, nf, nl, nb, nr, ng, nq, nu, reduceIte, Nat.reduceEqDiff, Nat.reduceAdd]; rfl)) (le_trans (le_open 4 0 0 5056 rfl rfl rfl (by simp [nm]) (by simp only [nz, nf, nl, nb, nr, ng, nq, nu, reduceIte, Nat.reduceEqDiff, Nat.reduceAdd]; rfl)) (le_open 4 0 1 5062 rfl rfl rfl (by simp [nm]) (by simp only [nz, nf, nl, nb, nr, ng, nq, nu, reduceIte, Nat.reduceEqDiff, Nat.reduceAdd]; rfl)))) ?_
    refine w_loopm (ι := Nat × List (List Int) × List (List Int)) (fun q => [(6, RVn q.1), (7, .any), (8, .any), (9, .any), (10, .any), (11, .any)]) (fun q => [(5062, 1, q.2.2.map OIs), (5056, 1, q.2.1.map OIs), (4, 2, [.agg [.ref 5056 0 q.2.1.length, .ref 5062 0 q.2.2.length]]), (2, 2, [.agg [.v (.slice none 0 0), .v (.slice none 0 0)]])]) (fun q => q.1 ≤ ps.length ∧ q.2.1.length = q.1 ∧ q.2.2.length = q.1 ∧ (placesI (ps.drop q.1)).map (fun z => (q.2.1 ++ z.1, q.2.2 ++ z.2)) = r) (fun q => ps.length - q.1) (0, [], []) (h0 := ?_) (hs := ?_) (round := ?_)
    · exact ⟨by omega, rfl, rfl, by simp [hr]⟩
    · refine le_eq (by (repeat' first | exact .nil | refine .keep ?_ | refine .any ?_); first | done | fail) rfl rfl
    · intro ⟨i, A, B⟩ ⟨hi, hA, hB, hg⟩
      dsimp only at hi hA hB hg ⊢
      by_cases hil : i < ps.length
      · have hp4 : ps[i].length ≤ 4000 := by have := hx _ (List.getElem_mem hil); simp at this; omega
        have hP := l1Split_ok ps[i] 124 (by omega)
        obtain ⟨hpn, hpx⟩ := spl_small 124 [] ps[i]
        rw [placesI_at hil, placeI] at hg
        generalize spl 124 [] ps[i] = pp at *
        by_cases h2 : pp.length = 2
        · rw [if_pos h2, gd (by omega), gd (by omega)] at hg
          have hL := l25List_ok pp[0] (by have := hpx _ (List.getElem_mem (show 0 < pp.length by omega)); simp at this; omega)
          have hR := l25List_ok pp[1] (by have := hpx _ (List.getElem_mem (show 1 < pp.length by omega)); simp at this; omega)
          cases hl : listI pp[0] with
          | none =>
            rw [hl] at hg hL
            simp only [Option.map_none] at hg
            subst hg
            repeat' first
              | refine w_seq ?_
              | refine w_block ?_
              | refine rb_n ?_
              | refine rb_ret ?_
              | refine rb_eq ?_
              | refine rb_ne (by rfl) ?_
              | refine w_exit ?_
              | refine rt_exit ?_
              | refine w_region ?_
              | refine l_nil ?_
              | refine rt_n ?_
              | refine w_ret ?_
              | refine rt_ret ?_
              | refine w_skip ?_
              | refine w_cond_t rfl ?_
              | refine w_cond_f rfl ?_
              | refine w_cnd rfl (fun hc => ?_) (fun hc => ?_)
              | refine w_cd rfl (fun hc => ?_) (fun hc => ?_)
              | refine w_cn rfl (fun hc => ?_) (fun hc => ?_)
              | refine w_cond rfl (fun hc => ?_) (fun hc => ?_)
              | (exfalso; omega)
              | (refine l_o ?_; first | refine l_op rfl (by first | (apply k_indexAddr; first | exact ops_idx_map (f := RV.str) (l := pp) (i := 0) rfl rfl (by omega) (by kernel_rfl) (by kernel_rfl) | exact ops_idx_map (f := RV.str) (l := pp) (i := 1) rfl rfl (by omega) (by kernel_rfl) (by kernel_rfl) | fail) | (apply k_callf; first | exact ops_callv (d := 38) (hfc := hL) | exact ops_callv (d := 45) (hfc := hR) | exact ops_callf (hfc := hP) | fail) | fail) (hk := ?_) | refine l_op (hk := ?_) | (refine l_g ?_; first | refine l_y rfl rfl rfl ?_ | refine l_n rfl rfl rfl rfl (hk := ?_) | refine l_n' rfl rfl rfl (hk := ?_) | refine l_spnd rfl rfl rfl (h1 := fun hc => ?_) (h2 := fun hc => ?_) | refine l_spd rfl rfl rfl (h1 := fun hc => ?_) (h2 := fun hc => ?_) | refine l_spn rfl rfl rfl (h1 := fun hc => ?_) (h2 := fun hc => ?_) | refine l_sp rfl rfl rfl (h1 := fun hc => ?_) (h2 := fun hc => ?_)))
            refine en_endn ([OLp [] [], RVb false]) (hf := Tryz.results81) (hr := ?_); simp only [ne]; first | rfl | skip
          | some l =>
            cases hl2 : listI pp[1] with
            | none =>
              rw [hl] at hg hL
              rw [hl2] at hg hR
              simp only [Option.map_none] at hg
              subst hg
              repeat' first
                | refine w_seq ?_
                | refine w_block ?_
                | refine rb_n ?_
                | refine rb_ret ?_
                | refine rb_eq ?_
                | refine rb_ne (by rfl) ?_
                | refine w_exit ?_
                | refine rt_exit ?_
                | refine w_region ?_
                | refine l_nil ?_
                | refine rt_n ?_
                | refine w_ret ?_
                | refine rt_ret ?_
                | refine w_skip ?_
                | refine w_cond_t rfl ?_
                | refine w_cond_f rfl ?_
                | refine w_cnd rfl (fun hc => ?_) (fun hc => ?_)
                | refine w_cd rfl (fun hc => ?_) (fun hc => ?_)
                | refine w_cn rfl (fun hc => ?_) (fun hc => ?_)
                | refine w_cond rfl (fun hc => ?_) (fun hc => ?_)
                | (exfalso; omega)
                | (refine l_o ?_; first | refine l_op rfl (by first | (apply k_indexAddr; first | exact ops_idx_map (f := RV.str) (l := pp) (i := 0) rfl rfl (by omega) (by kernel_rfl) (by kernel_rfl) | exact ops_idx_map (f := RV.str) (l := pp) (i := 1) rfl rfl (by omega) (by kernel_rfl) (by kernel_rfl) | fail) | (apply k_callf; first | exact ops_callv (d := 38) (hfc := hL) | exact ops_callv (d := 45) (hfc := hR) | exact ops_callf (hfc := hP) | fail) | fail) (hk := ?_) | refine l_op (hk := ?_) | (refine l_g ?_; first | refine l_y rfl rfl rfl ?_ | refine l_n rfl rfl rfl rfl (hk := ?_) | refine l_n' rfl rfl rfl (hk := ?_) | refine l_spnd rfl rfl rfl (h1 := fun hc => ?_) (h2 := fun hc => ?_) | refine l_spd rfl rfl rfl (h1 := fun hc => ?_) (h2 := fun hc => ?_) | refine l_spn rfl rfl rfl (h1 := fun hc => ?_) (h2 := fun hc => ?_) | refine l_sp rfl rfl rfl (h1 := fun hc => ?_) (h2 := fun hc => ?_)))
              refine en_endn ([OLp [] [], RVb false]) (hf := Tryz.results81) (hr := ?_); simp only [ne]; first | rfl | skip
            | some l2 =>
              rw [hl] at hg hL
              rw [hl2] at hg hR
              simp only [Option.getD_some, Option.isSome_some] at hL hR
              dsimp only at hg
              repeat' first
                | refine w_seq ?_
                | refine w_block ?_
                | refine rb_n ?_
                | refine rb_ret ?_
                | refine rb_eq ?_
                | refine rb_ne (by rfl) ?_
                | refine w_exit ?_
                | refine rt_exit ?_
                | refine w_region ?_
                | refine l_nil ?_
                | refine rt_n ?_
                | refine w_ret ?_
                | refine rt_ret ?_
                | refine w_skip ?_
                | refine w_cond_t rfl ?_
                | refine w_cond_f rfl ?_
                | refine w_cnd rfl (fun hc => ?_) (fun hc => ?_)
                | refine w_cd rfl (fun hc => ?_) (fun hc => ?_)
                | refine w_cn rfl (fun hc => ?_) (fun hc => ?_)
                | refine w_cond rfl (fun hc => ?_) (fun hc => ?_)
                | (exfalso; omega)
                | (refine l_at_append (d := some 59) ?_; refine l_le _ (le_fg 4 rfl (.agg (.ref (.keep .nil)) .nil) (by simp only [nz, nf, nl, nb, nr, ng, nq, nu, reduceIte, Nat.reduceEqDiff, Nat.reduceAdd]; rfl)) ?_)
                | (refine l_at_append (d := some 65) ?_; refine l_le _ (le_fg 4 rfl (.agg (.keep (.ref .nil)) .nil) (by simp only [nz, nf, nl, nb, nr, ng, nq, nu, reduceIte, Nat.reduceEqDiff, Nat.reduceAdd]; rfl)) ?_)
                | (refine l_o ?_; first | refine l_op rfl (by first | (apply k_indexAddr; first | exact ops_idx_map (f := RV.str) (l := pp) (i := 0) rfl rfl (by omega) (by kernel_rfl) (by kernel_rfl) | exact ops_idx_map (f := RV.str) (l := pp) (i := 1) rfl rfl (by omega) (by kernel_rfl) (by kernel_rfl) | fail) | (apply k_callf; first | exact ops_callv (d := 38) (hfc := hL) | exact ops_callv (d := 45) (hfc := hR) | exact ops_callf (hfc := hP) | fail) | fail) (hk := ?_) | refine l_op (hk := ?_) | (refine l_g ?_; first | refine l_y rfl rfl rfl ?_ | refine l_n rfl rfl rfl rfl (hk := ?_) | refine l_n' rfl rfl rfl (hk := ?_) | refine l_spnd rfl rfl rfl (h1 := fun hc => ?_) (h2 := fun hc => ?_) | refine l_spd rfl rfl rfl (h1 := fun hc => ?_) (h2 := fun hc => ?_) | refine l_spn rfl rfl rfl (h1 := fun hc => ?_) (h2 := fun hc => ?_) | refine l_sp rfl rfl rfl (h1 := fun hc => ?_) (h2 := fun hc => ?_)))

              refine rn_mk (i + 1, A ++ [l], B ++ [l2]) ?_ (by first | omega | (dsimp only; omega)) (le_eq (by (repeat' first | exact .nil | refine .keep ?_ | refine .any ?_); first | done | fail) rfl rfl)
              refine ⟨by dsimp only; omega, by simp; omega, by simp; omega, ?_⟩
              dsimp only
              rw [← hg, Option.map_map]
              congr 1
              funext z
              simp
        · rw [if_neg h2] at hg
          simp only [Option.map_none] at hg
          subst hg
          repeat' first
            | refine w_seq ?_
            | refine w_block ?_
            | refine rb_n ?_
            | refine rb_ret ?_
            | refine rb_eq ?_
            | refine rb_ne (by rfl) ?_
            | refine w_exit ?_
            | refine rt_exit ?_
            | refine w_region ?_
            | refine l_nil ?_
            | refine rt_n ?_
            | refine w_ret ?_
            | refine rt_ret ?_
            | refine w_skip ?_
            | refine w_cond_t rfl ?_
            | refine w_cond_f rfl ?_
            | refine w_cnd rfl (fun hc => ?_) (fun hc => ?_)
            | refine w_cd rfl (fun hc => ?_) (fun hc => ?_)
            | refine w_cn rfl (fun hc => ?_) (fun hc => ?_)
            | refine w_cond rfl (fun hc => ?_) (fun hc => ?_)
            | (exfalso; omega)
            | (refine l_o ?_; first | refine l_op rfl (by first | (apply k_callf; first | exact ops_callf (hfc := hP) | fail) | fail) (hk := ?_) | refine l_op (hk := ?_) | (refine l_g ?_; first | refine l_y rfl rfl rfl ?_ | refine l_n rfl rfl rfl rfl (hk := ?_) | refine l_n' rfl rfl rfl (hk := ?_) | refine l_spnd rfl rfl rfl (h1 := fun hc => ?_) (h2 := fun hc => ?_) | refine l_spd rfl rfl rfl (h1 := fun hc => ?_) (h2 := fun hc => ?_) | refine l_spn rfl rfl rfl (h1 := fun hc => ?_) (h2 := fun hc => ?_) | refine l_sp rfl rfl rfl (h1 := fun hc => ?_) (h2 := fun hc => ?_)))
          refine en_endn ([OLp [] [], RVb false]) (hf := Tryz.results81) (hr := ?_); simp only [ne]; first | rfl | skip
      · obtain rfl : i = ps.length := by omega
        rw [List.drop_eq_nil_of_le (Nat.le_refl _), placesI] at hg
        simp only [Option.map_some, List.append_nil] at hg
        subst hg
        have hG := specGood_ok A B
        dsimp only
        cases hgo : goodLp A B with
        | false =>
          rw [hgo] at hG
          repeat' first
            | refine w_seq ?_
            | refine w_block ?_
            | refine rb_n ?_
            | refine rb_ret ?_
            | refine rb_eq ?_
            | refine rb_ne (by rfl) ?_
            | refine w_exit ?_
            | refine rt_exit ?_
            | refine w_region ?_
            | refine l_nil ?_
            | refine rt_n ?_
            | refine w_ret ?_
            | refine rt_ret ?_
            | refine w_skip ?_
            | refine w_cond_t rfl ?_
            | refine w_cond_f rfl ?_
            | refine w_cnd rfl (fun hc => ?_) (fun hc => ?_)
            | refine w_cd rfl (fun hc => ?_) (fun hc => ?_)
            | refine w_cn rfl (fun hc => ?_) (fun hc => ?_)
            | refine w_cond rfl (fun hc => ?_) (fun hc => ?_)
            | (exfalso; omega)
            | (refine l_o ?_; first | refine l_op rfl (by first | (apply k_callf; first | exact ops_callz (hfc := hG) | fail) | fail) (hk := ?_) | refine l_op (hk := ?_) | (refine l_g ?_; first | refine l_y rfl rfl rfl ?_ | refine l_n rfl rfl rfl rfl (hk := ?_) | refine l_n' rfl rfl rfl (hk := ?_) | refine l_spnd rfl rfl rfl (h1 := fun hc => ?_) (h2 := fun hc => ?_) | refine l_spd rfl rfl rfl (h1 := fun hc => ?_) (h2 := fun hc => ?_) | refine l_spn rfl rfl rfl (h1 := fun hc => ?_) (h2 := fun hc => ?_) | refine l_sp rfl rfl rfl (h1 := fun hc => ?_) (h2 := fun hc => ?_)))
          refine en_endn ([OLp [] [], RVb false]) (hf := Tryz.results81) (hr := ?_); simp only [ne]; first | rfl | skip
        | true =>
          rw [hgo] at hG
          repeat' first
            | refine w_seq ?_
            | refine w_block ?_
            | refine rb_n ?_
            | refine rb_ret ?_
            | refine rb_eq ?_
            | refine rb_ne (by rfl) ?_
            | refine w_exit ?_
            | refine rt_exit ?_
            | refine w_region ?_
            | refine l_nil ?_
            | refine rt_n ?_
            | refine w_ret ?_
            | refine rt_ret ?_
            | refine w_skip ?_
            | refine w_cond_t rfl ?_
            | refine w_cond_f rfl ?_
            | refine w_cnd rfl (fun hc => ?_) (fun hc => ?_)
            | refine w_cd rfl (fun hc => ?_) (fun hc => ?_)
            | refine w_cn rfl (fun hc => ?_) (fun hc => ?_)
            | refine w_cond rfl (fun hc => ?_) (fun hc => ?_)
            | (exfalso; omega)
            | (refine l_o ?_; first | refine l_op rfl (by first | (apply k_callf; first | exact ops_callz (hfc := hG) | fail) | fail) (hk := ?_) | refine l_op (hk := ?_) | (refine l_g ?_; first | refine l_y rfl rfl rfl ?_ | refine l_n rfl rfl rfl rfl (hk := ?_) | refine l_n' rfl rfl rfl (hk := ?_) | refine l_spnd rfl rfl rfl (h1 := fun hc => ?_) (h2 := fun hc => ?_) | refine l_spd rfl rfl rfl (h1 := fun hc => ?_) (h2 := fun hc => ?_) | refine l_spn rfl rfl rfl (h1 := fun hc => ?_) (h2 := fun hc => ?_) | refine l_sp rfl rfl rfl (h1 := fun hc => ?_) (h2 := fun hc => ?_)))
          refine en_le _ (le_drop 4 (by simp only [nz, nf, nl, nb, nr, ng, nq, nu, reduceIte, Nat.reduceEqDiff, Nat.reduceAdd]; rfl) (by simp only [nz, nf, nl, nb, nr, ng, nq, nu, reduceIte, Nat.reduceEqDiff, Nat.reduceAdd]; rfl)) ?_
          refine en_endm ([(2, 2, [.agg [.ref 5056 0 A.length, .ref 5062 0 B.length]])]) (hf := Tryz.results81) (hO := ?_) (hr := ?_)
          · rfl
          · rfl
end Go.Proofs.YtpcckakchpblcaaGreatDoor
