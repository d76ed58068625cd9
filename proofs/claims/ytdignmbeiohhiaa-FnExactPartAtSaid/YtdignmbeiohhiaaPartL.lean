/- PartAt of the program and of the reference, and the drawn law. For all forms and places. -/
import Derived.Test.YtdignmbeiohhiaaFormN
import Derived.Test.YtdignmbeiohhiaaMarkF
import Derived.Test.YtdignmbeiohhiaaPartI
namespace Go.Proofs.Ytdignmbeiohhiaa
open Eng
attribute [local irreducible] OpS OpG FC FCr Rel Fl Ef DR Fs
attribute [local simp] RV.fzR_names
set_option linter.unusedSimpArgs false
set_option maxHeartbeats 0
set_option maxRecDepth 100000

def prtOk (F : List NdI) (a : Int) : Bool := goodF F && decide (0 ≤ a ∧ a < F.length)
def prt (F : List NdI) (a : Int) : List Nd := if prtOk F a = true then partF (ndN F) (usdF (ndN F) a.toNat) (a.toNat + 1) else []
theorem implPart_ok (F : List NdI) (a : Int) : FCr Try.prog 60 [RFm F, RVi a] (.tup [.agg [.ow 2 ((prt F a).map ONd)], RVb (prtOk F a)]) := by
  have hG := implGoodF_ok F
  unfold prt
  cases ho : prtOk F a with
  | false =>
    rw [if_neg (by simp)]
    unfold prtOk at ho
    cases hg : goodF F with
    | false =>
      rw [hg] at hG
      refine (fcr_in Try.func60 rfl (by simp only [Try.ntmps60, anys, List.length_cons, List.length_nil, Nat.reduceAdd, Nat.reduceSub, List.replicate_succ, List.replicate_zero, List.cons_append, List.nil_append] <;> rfl) ?_)
      repeat' first
        | refine w_seq ?_
        | refine w_region ?_
        | refine l_nil ?_
        | refine rt_n ?_
        | refine w_ret ?_
        | refine rt_ret ?_
        | refine w_skip ?_
        | refine w_cond_t rfl ?_
        | refine w_cond_f rfl ?_
        | refine w_cnd rfl (fun hc => ?_) (fun hc => ?_)
        | refine w_cd rfl (fun hc => ?_) (fun hc => ?_)
        | refine w_cn rfl (fun hc => ?_) (fun hc => ?_)
        | refine w_cond rfl (fun hc => ?_) (fun hc => ?_)
        | (refine l_o ?_; first | refine l_op rfl (by first | (apply k_callf; first | exact ops_callf (d := 7) (hfc := hG) | fail) | fail) (hk := ?_) | refine l_op (hk := ?_) | (refine l_g ?_; first | refine l_y rfl rfl rfl ?_ | refine l_n rfl rfl rfl rfl (hk := ?_) | refine l_n' rfl rfl rfl (hk := ?_) | refine l_spnd rfl rfl rfl (h1 := fun hc => ?_) (h2 := fun hc => ?_) | refine l_spd rfl rfl rfl (h1 := fun hc => ?_) (h2 := fun hc => ?_) | refine l_spn rfl rfl rfl (h1 := fun hc => ?_) (h2 := fun hc => ?_) | refine l_sp rfl rfl rfl (h1 := fun hc => ?_) (h2 := fun hc => ?_)))
      refine en_endn ([.agg [.ow 2 []], RVb false]) (hf := Try.results60) (hr := ?_); simp only [ne]; first | rfl | skip
    | true =>
      rw [hg] at hG ho
      have hn := (gdF hg).n2
      have hx : ¬ (0 ≤ a ∧ a < F.length) := by simpa using ho
      by_cases h0 : a < 0
      · refine (fcr_in Try.func60 rfl (by simp only [Try.ntmps60, anys, List.length_cons, List.length_nil, Nat.reduceAdd, Nat.reduceSub, List.replicate_succ, List.replicate_zero, List.cons_append, List.nil_append] <;> rfl) ?_)
        repeat' first
          | refine w_seq ?_
          | refine w_region ?_
          | refine l_nil ?_
          | refine rt_n ?_
          | refine w_ret ?_
          | refine rt_ret ?_
          | refine w_skip ?_
          | refine w_cond_t rfl ?_
          | refine w_cond_f rfl ?_
          | refine w_cnd rfl (fun hc => ?_) (fun hc => ?_)
          | refine w_cd rfl (fun hc => ?_) (fun hc => ?_)
          | refine w_cn rfl (fun hc => ?_) (fun hc => ?_)
          | refine w_cond rfl (fun hc => ?_) (fun hc => ?_)
          | (exfalso; omega)
          | (refine l_o ?_; first | refine l_op rfl (by first | (apply k_callf; first | exact ops_callf (d := 7) (hfc := hG) | fail) | fail) (hk := ?_) | refine l_op (hk := ?_) | (refine l_g ?_; first | refine l_y rfl rfl rfl ?_ | refine l_n rfl rfl rfl rfl (hk := ?_) | refine l_n' rfl rfl rfl (hk := ?_) | refine l_spnd rfl rfl rfl (h1 := fun hc => ?_) (h2 := fun hc => ?_) | refine l_spd rfl rfl rfl (h1 := fun hc => ?_) (h2 := fun hc => ?_) | refine l_spn rfl rfl rfl (h1 := fun hc => ?_) (h2 := fun hc => ?_) | refine l_sp rfl rfl rfl (h1 := fun hc => ?_) (h2 := fun hc => ?_)))
        refine en_endn ([.agg [.ow 2 []], RVb false]) (hf := Try.results60) (hr := ?_); simp only [ne]; first | rfl | skip
      · refine (fcr_in Try.func60 rfl (by simp only [Try.ntmps60, anys, List.length_cons, List.length_nil, Nat.reduceAdd, Nat.reduceSub, List.replicate_succ, List.replicate_zero, List.cons_append, List.nil_append] <;> rfl) ?_)
        repeat' first
          | refine w_seq ?_
          | refine w_region ?_
          | refine l_nil ?_
          | refine rt_n ?_
          | refine w_ret ?_
          | refine rt_ret ?_
          | refine w_skip ?_
          | refine w_cond_t rfl ?_
          | refine w_cond_f rfl ?_
          | refine w_cnd rfl (fun hc => ?_) (fun hc => ?_)
          | refine w_cd rfl (fun hc => ?_) (fun hc => ?_)
          | refine w_cn rfl (fun hc => ?_) (fun hc => ?_)
          | refine w_cond rfl (fun hc => ?_) (fun hc => ?_)
          | (exfalso; omega)
          | (refine l_o ?_; first | refine l_op rfl (by first | (apply k_callf; first | exact ops_callf (d := 7) (hfc := hG) | fail) | fail) (hk := ?_) | refine l_op (hk := ?_) | (refine l_g ?_; first | refine l_y rfl rfl rfl ?_ | refine l_n rfl rfl rfl rfl (hk := ?_) | refine l_n' rfl rfl rfl (hk := ?_) | refine l_spnd rfl rfl rfl (h1 := fun hc => ?_) (h2 := fun hc => ?_) | refine l_spd rfl rfl rfl (h1 := fun hc => ?_) (h2 := fun hc => ?_) | refine l_spn rfl rfl rfl (h1 := fun hc => ?_) (h2 := fun hc => ?_) | refine l_sp rfl rfl rfl (h1 := fun hc => ?_) (h2 := fun hc => ?_)))
        refine en_endn ([.agg [.ow 2 []], RVb false]) (hf := Try.results60) (hr := ?_); simp only [ne]; first | rfl | skip
  | true =>
    rw [if_pos rfl]
    unfold prtOk at ho
    rw [Bool.and_eq_true, decide_eq_true_eq] at ho
    obtain ⟨hg, h0, h1⟩ := ho
    rw [hg] at hG
    have hF := gdF hg
    have hn2 := hF.n2
    have hfl := ndN_len F
    obtain ⟨i, rfl⟩ : ∃ i : Nat, a = i := ⟨a.toNat, by omega⟩
    rw [show ((i : Int)).toNat = i from rfl]
    have hP := part_ok (ndN F) hF.okn.ok i (by omega) (by omega)
    have heq := hF.okn.eq
    unfold RFm at hG ⊢
    rw [heq] at hG ⊢
    rw [← hfl] at hn2 h1
    generalize partF (ndN F) (usdF (ndN F) i) (i + 1) = R at *
    generalize ndN F = f at *
    clear heq
    refine (fcr_in Try.func60 rfl (by simp only [Try.ntmps60, anys, List.length_cons, List.length_nil, Nat.reduceAdd, Nat.reduceSub, List.replicate_succ, List.replicate_zero, List.cons_append, List.nil_append] <;> rfl) ?_)
    repeat' first
      | refine w_seq ?_
      | refine w_region ?_
      | refine l_nil ?_
      | refine rt_n ?_
      | refine w_ret ?_
      | refine rt_ret ?_
      | refine w_skip ?_
      | refine w_cond_t rfl ?_
      | refine w_cond_f rfl ?_
      | refine w_cnd rfl (fun hc => ?_) (fun hc => ?_)
      | refine w_cd rfl (fun hc => ?_) (fun hc => ?_)
      | refine w_cn rfl (fun hc => ?_) (fun hc => ?_)
      | refine w_cond rfl (fun hc => ?_) (fun hc => ?_)
      | (exfalso; omega)
      | (refine l_o ?_; first | refine l_op rfl (by first | (apply k_callf; first | exact ops_callf (d := 7) (hfc := hG) | exact ops_callv (d := 23) (hfc := hP) | fail) | fail) (hk := ?_) | refine l_op (hk := ?_) | (refine l_g ?_; first | refine l_y rfl rfl rfl ?_ | refine l_n rfl rfl rfl rfl (hk := ?_) | refine l_n' rfl rfl rfl (hk := ?_) | refine l_spnd rfl rfl rfl (h1 := fun hc => ?_) (h2 := fun hc => ?_) | refine l_spd rfl rfl rfl (h1 := fun hc => ?_) (h2 := fun hc => ?_) | refine l_spn rfl rfl rfl (h1 := fun hc => ?_) (h2 := fun hc => ?_) | refine l_sp rfl rfl rfl (h1 := fun hc => ?_) (h2 := fun hc => ?_)))
    refine en_end (hf := Try.results60) (hr := ?_); simp only [ne, nf, nl, nr, lget, reduceIte, Nat.reduceEqDiff]; first | rfl | refine congrArg RVb ?_ | refine congrArg RVi ?_ | skip
theorem l3Part_ok (f : List Nd) (ok : OkF f) (srt : Srt f) (i : Nat) (hi : i < f.length) (hN : f.length ≤ 120) (h24 : ∀ k, (nd f k).1.length ≤ 24 ∧ (nd f k).2.length ≤ 24) :
    FCr Try.prog 106 [.agg [.sh (f.map RNd)], RVn i] (.agg [.ow 2 ((partF f (usdF f i) (i + 1)).map RNd)]) := by
  have hA := add_ok f ok hN h24
  obtain ⟨b1, b2, b3⟩ := gd_book ok srt
  have hbl : (addTo f f.length).1.length = f.length := by have := congrArg List.length b1; rwa [bkN_len] at this
  have hI := addTo_ok ok f.length (Nat.le_refl _)
  have hM := form_ok (addTo f f.length).1 i (by omega) (by omega) (fun e he => by
    obtain ⟨k, hk, rfl⟩ := List.getElem_of_mem he
    have e1 : (bkB (addTo f f.length).1).getD k 0 = (addTo f f.length).1[k].2 := by
      rw [gdp (by rw [bkB_len]; exact hk)]; simp [bkB]
    have := brn_bd ok (n := f.length) k (by omega)
    rw [b2] at e1
    rw [← e1]; show (brn f f.length).getD k 0 ≤ _
    omega) (by rw [b1]; exact ok)
  rw [b1, b2, frm_of_srt ok srt hi (usdF_closed ok i) (usdF_root i)] at hM
  have hBk : RBk (addTo f f.length).1 = .agg [.ow 2 (f.map RNd), .ow 1 ((bnF f).map RVn)] := by
    rw [show RBk (addTo f f.length).1 = .agg [.ow 2 ((bkN (addTo f f.length).1).map RNd), .ow 1 ((bkB (addTo f f.length).1).map RVn)] from rfl, b1, b2]
  rw [hBk] at hA hM
  have hBk0 : RBk [] = .agg [.ow 2 [], .ow 1 []] := rfl
  rw [hBk0] at hA
  rw [b3] at hA
  have hrl : (List.range f.length).length = f.length := List.length_range
  have hri : ∀ h, (List.range f.length)[i]'h = i := fun h => List.getElem_range h
  generalize List.range f.length = rg at *
  generalize bnF f = B at *
  generalize partF f (usdF f i) (i + 1) = R at *
  clear hBk hBk0 b1 b2 b3
  refine (fcr_in Try.func106 rfl (by simp only [Try.ntmps106, anys, List.length_cons, List.length_nil, Nat.reduceAdd, Nat.reduceSub, List.replicate_succ, List.replicate_zero, List.cons_append, List.nil_append] <;> rfl) ?_)
  repeat' first
    | refine w_seq ?_
    | refine w_region ?_
    | refine l_nil ?_
    | refine rt_n ?_
    | refine w_ret ?_
    | refine rt_ret ?_
    | refine w_skip ?_
    | (refine l_at_callf (d := some 11) ?_; refine l_le _ (le_nw 8 rfl (.agg (.now (k := 2) (by decide) (.now (k := 1) (by decide) .nil)) .nil) (by simp only [nz, nf, nl, nb, nr, ng, nq, nu, reduceIte, Nat.reduceEqDiff, Nat.reduceAdd]; rfl)) ?_)
    | (simp only [hri])
    | (refine l_o ?_; first | refine l_op rfl (by first | (apply k_callf; first | exact ops_callP (d := 11) 8 [.agg [.ow 2 (f.map RNd), .ow 1 (B.map RVn)]] (hfc := hA) | exact ops_callP (d := 17) 8 [.agg [.ow 2 (f.map RNd), .ow 1 (B.map RVn)]] (hfc := hM) | fail) | fail) (hk := ?_) | refine l_op (hk := ?_))
  refine en_end (hf := Try.results106) (hr := ?_); simp only [ne, nf, nl, nr, lget, reduceIte, Nat.reduceEqDiff]; first | rfl | refine congrArg RVb ?_ | refine congrArg RVi ?_ | skip
theorem specPart_ok (F : List NdI) (a : Int) : FCr Try.prog 59 [RFm F, RVi a] (.tup [.agg [.ow 2 ((prt F a).map RNd)], RVb (prtOk F a)]) := by
  have hG := specGoodF_ok F
  unfold prt
  cases ho : prtOk F a with
  | false =>
    rw [if_neg (by simp)]
    unfold prtOk at ho
    cases hg : goodF F with
    | false =>
      rw [hg] at hG
      refine (fcr_in Try.func59 rfl (by simp only [Try.ntmps59, anys, List.length_cons, List.length_nil, Nat.reduceAdd, Nat.reduceSub, List.replicate_succ, List.replicate_zero, List.cons_append, List.nil_append] <;> rfl) ?_)
      repeat' first
        | refine w_seq ?_
        | refine w_region ?_
        | refine l_nil ?_
        | refine rt_n ?_
        | refine w_ret ?_
        | refine rt_ret ?_
        | refine w_skip ?_
        | refine w_cond_t rfl ?_
        | refine w_cond_f rfl ?_
        | refine w_cnd rfl (fun hc => ?_) (fun hc => ?_)
        | refine w_cd rfl (fun hc => ?_) (fun hc => ?_)
        | refine w_cn rfl (fun hc => ?_) (fun hc => ?_)
        | refine w_cond rfl (fun hc => ?_) (fun hc => ?_)
        | (refine l_o ?_; first | refine l_op rfl (by first | (apply k_callf; first | exact ops_callf (d := 7) (hfc := hG) | fail) | fail) (hk := ?_) | refine l_op (hk := ?_) | (refine l_g ?_; first | refine l_y rfl rfl rfl ?_ | refine l_n rfl rfl rfl rfl (hk := ?_) | refine l_n' rfl rfl rfl (hk := ?_) | refine l_spnd rfl rfl rfl (h1 := fun hc => ?_) (h2 := fun hc => ?_) | refine l_spd rfl rfl rfl (h1 := fun hc => ?_) (h2 := fun hc => ?_) | refine l_spn rfl rfl rfl (h1 := fun hc => ?_) (h2 := fun hc => ?_) | refine l_sp rfl rfl rfl (h1 := fun hc => ?_) (h2 := fun hc => ?_)))
      refine en_endn ([.agg [.ow 2 []], RVb false]) (hf := Try.results59) (hr := ?_); simp only [ne]; first | rfl | skip
    | true =>
      rw [hg] at hG ho
      have hn1 := (gdF hg).n1
      have hn := (gdF hg).n2
      have hx : ¬ (0 ≤ a ∧ a < F.length) := by simpa using ho
      have hL := l1In_ok a 0 ((F.length - 1 : Nat) : Int)
      rw [show (decide (0 ≤ a) && decide (a ≤ ((F.length - 1 : Nat) : Int))) = false by
        rw [← Bool.decide_and, decide_eq_false_iff_not]; omega] at hL
      refine (fcr_in Try.func59 rfl (by simp only [Try.ntmps59, anys, List.length_cons, List.length_nil, Nat.reduceAdd, Nat.reduceSub, List.replicate_succ, List.replicate_zero, List.cons_append, List.nil_append] <;> rfl) ?_)
      repeat' first
        | refine w_seq ?_
        | refine w_region ?_
        | refine l_nil ?_
        | refine rt_n ?_
        | refine w_ret ?_
        | refine rt_ret ?_
        | refine w_skip ?_
        | refine w_cond_t rfl ?_
        | refine w_cond_f rfl ?_
        | refine w_cnd rfl (fun hc => ?_) (fun hc => ?_)
        | refine w_cd rfl (fun hc => ?_) (fun hc => ?_)
        | refine w_cn rfl (fun hc => ?_) (fun hc => ?_)
        | refine w_cond rfl (fun hc => ?_) (fun hc => ?_)
        | (exfalso; omega)
        | (refine l_o ?_; first | refine l_op rfl (by first | (apply k_sub; first | exact ops_subn (a := F.length) (b := 1) rfl rfl (by omega) (by omega) | fail) | (apply k_callf; first | exact ops_callf (d := 7) (hfc := hG) | exact ops_callf (d := 15) (hfc := hL) | fail) | fail) (hk := ?_) | refine l_op (hk := ?_) | (refine l_g ?_; first | refine l_y rfl rfl rfl ?_ | refine l_n rfl rfl rfl rfl (hk := ?_) | refine l_n' rfl rfl rfl (hk := ?_) | refine l_spnd rfl rfl rfl (h1 := fun hc => ?_) (h2 := fun hc => ?_) | refine l_spd rfl rfl rfl (h1 := fun hc => ?_) (h2 := fun hc => ?_) | refine l_spn rfl rfl rfl (h1 := fun hc => ?_) (h2 := fun hc => ?_) | refine l_sp rfl rfl rfl (h1 := fun hc => ?_) (h2 := fun hc => ?_)))
      refine en_endn ([.agg [.ow 2 []], RVb false]) (hf := Try.results59) (hr := ?_); simp only [ne]; first | rfl | skip
  | true =>
    rw [if_pos rfl]
    unfold prtOk at ho
    rw [Bool.and_eq_true, decide_eq_true_eq] at ho
    obtain ⟨hg, h0, h1⟩ := ho
    rw [hg] at hG
    have hF := gdF hg
    have hn1 := hF.n1
    have hn2 := hF.n2
    have hfl := ndN_len F
    obtain ⟨i, rfl⟩ : ∃ i : Nat, a = i := ⟨a.toNat, by omega⟩
    rw [show ((i : Int)).toNat = i from rfl]
    have hP := l3Part_ok (ndN F) hF.okn.ok hF.srt i (by omega) (by omega) hF.okn.l24
    have hL := l1In_ok i 0 ((F.length - 1 : Nat) : Int)
    rw [show (decide (0 ≤ (i : Int)) && decide ((i : Int) ≤ ((F.length - 1 : Nat) : Int))) = true by
        rw [← Bool.decide_and, decide_eq_true_iff]; omega] at hL
    have heq := hF.okn.eq
    unfold RFm at hG ⊢
    rw [heq] at hG ⊢
    rw [← hfl] at hn1 hn2 h1 hL
    generalize partF (ndN F) (usdF (ndN F) i) (i + 1) = R at *
    generalize ndN F = f at *
    clear heq
    refine (fcr_in Try.func59 rfl (by simp only [Try.ntmps59, anys, List.length_cons, List.length_nil, Nat.reduceAdd, Nat.reduceSub, List.replicate_succ, List.replicate_zero, List.cons_append, List.nil_append] <;> rfl) ?_)
    repeat' first
      | refine w_seq ?_
      | refine w_region ?_
      | refine l_nil ?_
      | refine rt_n ?_
      | refine w_ret ?_
      | refine rt_ret ?_
      | refine w_skip ?_
      | refine w_cond_t rfl ?_
      | refine w_cond_f rfl ?_
      | refine w_cnd rfl (fun hc => ?_) (fun hc => ?_)
      | refine w_cd rfl (fun hc => ?_) (fun hc => ?_)
      | refine w_cn rfl (fun hc => ?_) (fun hc => ?_)
      | refine w_cond rfl (fun hc => ?_) (fun hc => ?_)
      | (exfalso; omega)
      | (refine l_o ?_; first | refine l_op rfl (by first | (apply k_sub; first | exact ops_subn (a := f.length) (b := 1) rfl rfl (by omega) (by omega) | fail) | (apply k_callf; first | exact ops_callf (d := 7) (hfc := hG) | exact ops_callf (d := 15) (hfc := hL) | exact ops_call (d := 21) (hfc := hP) | fail) | fail) (hk := ?_) | refine l_op (hk := ?_) | (refine l_g ?_; first | refine l_y rfl rfl rfl ?_ | refine l_n rfl rfl rfl rfl (hk := ?_) | refine l_n' rfl rfl rfl (hk := ?_) | refine l_spnd rfl rfl rfl (h1 := fun hc => ?_) (h2 := fun hc => ?_) | refine l_spd rfl rfl rfl (h1 := fun hc => ?_) (h2 := fun hc => ?_) | refine l_spn rfl rfl rfl (h1 := fun hc => ?_) (h2 := fun hc => ?_) | refine l_sp rfl rfl rfl (h1 := fun hc => ?_) (h2 := fun hc => ?_)))
    refine en_end (hf := Try.results59) (hr := ?_); simp only [ne, nf, nl, nr, lget, reduceIte, Nat.reduceEqDiff]; first | rfl | refine congrArg RVb ?_ | refine congrArg RVi ?_ | skip
/-- Nodes over whole numbers. -/
def toI (P : List Nd) : List NdI := P.map fun n => (n.1.map fun x : Nat => (x : Int), n.2.map fun x : Nat => (x : Int))
theorem toI_O (P : List Nd) : P.map ONd = (toI P).map ONdI := by
  unfold toI
  rw [List.map_map]
  refine List.map_congr_left fun n _ => ?_
  show ONd n = ONdI (_, _)
  simp [ONd, ONdI, ONs, OIs, List.map_map, Function.comp_def]
theorem toI_R (P : List Nd) : P.map RNd = (toI P).map RNdI := by
  unfold toI
  rw [List.map_map]
  refine List.map_congr_left fun n _ => ?_
  show RNd n = RNdI (_, _)
  simp [RNd, RNdI, RNs, RIs, List.map_map, Function.comp_def]
theorem lensF_bd : ∀ (L : List NdI), (∀ r ∈ L, r.1.length ≤ 120 ∧ r.2.length ≤ 120) → lensF L L.length ≤ 240 * L.length
  | [], _ => by simp [lensF]
  | r :: rs, h => by
    have h1 := h r (List.mem_cons_self ..)
    have h2 := lensF_bd rs fun q hq => h q (List.mem_cons_of_mem _ hq)
    simp only [List.length_cons, lensF]
    omega
theorem prt_small (F : List NdI) (a : Int) : (toI (prt F a)).length ≤ 120 ∧ ∀ r ∈ toI (prt F a), r.1.length ≤ 120 ∧ r.2.length ≤ 120 := by
  unfold prt
  split
  · rename_i ho
    unfold prtOk at ho
    rw [Bool.and_eq_true, decide_eq_true_eq] at ho
    obtain ⟨hg, h0, h1⟩ := ho
    have hF := gdF hg
    have hn2 := hF.n2
    have hfl := ndN_len F
    refine ⟨?_, fun r hr => ?_⟩
    · unfold toI
      rw [List.length_map, partF_len]
      have := rk_le (usdF (ndN F) a.toNat) (a.toNat + 1)
      omega
    · unfold toI partF at hr
      rw [List.map_map] at hr
      obtain ⟨k, _, rfl⟩ := List.mem_map.1 hr
      have h24 := hF.okn.l24 k
      simp only [Function.comp, nodeOf, List.length_map]
      omega
  · simp [toI]
theorem lawPart_ok (F : List NdI) (a : Int) : FCr Try.prog 12 [RFm F, RVi a] (RVb true) := by
  have hz := szForm_ok F 1048576 (by omega) (by omega)
  refine (fcr_in Try.func12 rfl (by simp only [Try.ntmps12, anys, List.length_cons, List.length_nil, Nat.reduceAdd, Nat.reduceSub, List.replicate_succ, List.replicate_zero, List.cons_append, List.nil_append] <;> rfl) ?_)
  repeat' first
    | refine w_seq ?_
    | refine w_region ?_
    | refine l_nil ?_
    | refine rt_n ?_
    | refine w_ret ?_
    | refine rt_ret ?_
    | refine w_skip ?_
    | refine w_cond_t rfl ?_
    | refine w_cond_f rfl ?_
    | refine w_cnd rfl (fun hc => ?_) (fun hc => ?_)
    | refine w_cd rfl (fun hc => ?_) (fun hc => ?_)
    | refine w_cn rfl (fun hc => ?_) (fun hc => ?_)
    | refine w_cond rfl (fun hc => ?_) (fun hc => ?_)
    | (refine l_o ?_; first | refine l_op rfl (by first | (apply k_callf; first | exact ops_callz (hfc := hz) | fail) | fail) (hk := ?_) | refine l_op (hk := ?_) | (refine l_g ?_; first | refine l_y rfl rfl rfl ?_ | refine l_n rfl rfl rfl rfl (hk := ?_) | refine l_n' rfl rfl rfl (hk := ?_) | refine l_spnd rfl rfl rfl (h1 := fun hc => ?_) (h2 := fun hc => ?_) | refine l_spd rfl rfl rfl (h1 := fun hc => ?_) (h2 := fun hc => ?_) | refine l_spn rfl rfl rfl (h1 := fun hc => ?_) (h2 := fun hc => ?_) | refine l_sp rfl rfl rfl (h1 := fun hc => ?_) (h2 := fun hc => ?_)))
    | refine d_nil ?_
    | (refine d_o ?_; first | refine d_fl (hk := ?_) | refine d_ef rfl (by first | exact .callz (hfc := hz) | exact .callzY (hfc := hz) | fail) (hk := ?_) | refine d_ef (hk := ?_) | (refine d_g ?_; first | refine d_spnd rfl rfl rfl (h1 := fun hc => ?_) (h2 := fun hc => ?_) | refine d_spd rfl rfl rfl (h1 := fun hc => ?_) (h2 := fun hc => ?_) | refine d_spn rfl rfl rfl (h1 := fun hc => ?_) (h2 := fun hc => ?_) | refine d_sp rfl rfl rfl (h1 := fun hc => ?_) (h2 := fun hc => ?_)))
    | (refine w_o ?_; first | refine w_draw (id := 10) (fun _ => true) (fun k => [2, 3].contains k) [[], []] 64 (by kernel_rfl) rfl (by kernel_rfl) (by simp [nm, nset, -List.map_take, -List.map_drop]) ?_)
  · refine en_one (hf := Try.results12) (h := ?_); simp only [lget]; first | refine congrArg RVb ?_ | refine congrArg RVi ?_ | skip
  have hs := smFm_of (l := F) (left := 1048576) (by omega) (by omega)
  have hm := lensF_szFm (L := F) (left := 1048576) (by omega)
  have hm2 := (szFm_lens (l := F) (left := 1048576) (by omega)).1
  have hM := markForm_ok F 1 (by omega) (by omega)
  have hS := specPart_ok F a
  have hI := implPart_ok F a
  obtain ⟨c1, c2⟩ := prt_small F a
  rw [toI_R] at hS
  rw [toI_O] at hI
  generalize toI (prt F a) = A at *
  generalize prtOk F a = o at *
  have c3 := lensF_bd A c2
  have hMA := markForm_ok A 1 (by omega) (by omega)
  have hB := markF_all 1 A
  have l1 := markF_length 1 A A.length
  have hH := heldForm_ok (markF 1 A A.length) 1 (by omega) (by rw [hB.1]; omega)
  rw [hB.2, hB.1, if_pos rfl] at hH
  have t1 := List.take_of_length_le (l := (markF 1 A A.length).map ONdI) (i := A.length) (by simp [l1])
  clear hB
  repeat' first
    | refine w_seq ?_
    | refine w_region ?_
    | refine l_nil ?_
    | refine rt_n ?_
    | refine w_ret ?_
    | refine rt_ret ?_
    | refine w_skip ?_
    | refine w_cond_t rfl ?_
    | refine w_cond_f rfl ?_
    | refine w_cnd rfl (fun hc => ?_) (fun hc => ?_)
    | refine w_cd rfl (fun hc => ?_) (fun hc => ?_)
    | refine w_cn rfl (fun hc => ?_) (fun hc => ?_)
    | refine w_cond rfl (fun hc => ?_) (fun hc => ?_)
    | (refine l_o ?_; first | refine l_op rfl (by first | (apply k_callf; first | exact ops_callz (by simp [view1, viewC, olook, nz, nf, l1, t1, fz_ONdI]) rfl (by kernel_rfl) hH (by simp [ns]) | exact ops_callm1 (d := 52) 1029 ((markF 1 F F.length).map ONdI) rfl rfl rfl (by kernel_rfl) hM (by simp [nm]) (by simp [nm]) (by simp [ns]) (by simp [RV.resOkT, RV.resOk, RV.isAgg, nm]) (by simp [ns]) (by simp [nz, nm]) (by simp [nz, nm]) | exact ops_callm1 (d := 68) 100001033 ((markF 1 A A.length).map ONdI) rfl rfl rfl (by kernel_rfl) hMA (by simp [nm]) (by simp [nm]) (by simp [ns]) (by simp [RV.resOkT, RV.resOk, RV.isAgg, nm]) (by simp [ns]) (by simp [nz, nm]) (by simp [nz, nm]) | exact ops_callv (d := 29) (hfc := toForm_ok F hs) | exact ops_callf (d := 25) (hfc := hS) | exact ops_callv (d := 33) (hfc := hI) | exact ops_callz (d := 48) (hfc := eqForm_ok F F) | exact ops_callz (hfc := toForm_ok F hs) | exact ops_callz (hfc := hI) | exact ops_callz (hfc := eqForm_ok A A) | fail) | fail) (hk := ?_) | refine l_op (hk := ?_) | (refine l_g ?_; first | refine l_y rfl rfl rfl ?_ | refine l_n rfl rfl rfl rfl (hk := ?_) | refine l_n' rfl rfl rfl (hk := ?_) | refine l_spnd rfl rfl rfl (h1 := fun hc => ?_) (h2 := fun hc => ?_) | refine l_spd rfl rfl rfl (h1 := fun hc => ?_) (h2 := fun hc => ?_) | refine l_spn rfl rfl rfl (h1 := fun hc => ?_) (h2 := fun hc => ?_) | refine l_sp rfl rfl rfl (h1 := fun hc => ?_) (h2 := fun hc => ?_)))
    | refine d_nil ?_
    | (refine d_o ?_; first | refine d_fl (hk := ?_) | refine d_ef rfl (by first | exact .callv (d := 29) (hfc := toForm_ok F hs) | exact .callf (d := 25) (hfc := hS) | exact .callv (d := 33) (hfc := hI) | exact .callz (d := 48) (hfc := eqForm_ok F F) | exact .callz (hfc := toForm_ok F hs) | exact .callz (hfc := hI) | exact .callz (hfc := eqForm_ok A A) | exact .callvY (d := 29) (hfc := toForm_ok F hs) | exact .callfY (d := 25) (hfc := hS) | exact .callvY (d := 33) (hfc := hI) | exact .callzY (d := 48) (hfc := eqForm_ok F F) | exact .callzY (hfc := toForm_ok F hs) | exact .callzY (hfc := hI) | exact .callzY (hfc := eqForm_ok A A) | fail) (hk := ?_) | refine d_ef (hk := ?_) | (refine d_g ?_; first | refine d_spnd rfl rfl rfl (h1 := fun hc => ?_) (h2 := fun hc => ?_) | refine d_spd rfl rfl rfl (h1 := fun hc => ?_) (h2 := fun hc => ?_) | refine d_spn rfl rfl rfl (h1 := fun hc => ?_) (h2 := fun hc => ?_) | refine d_sp rfl rfl rfl (h1 := fun hc => ?_) (h2 := fun hc => ?_)))
    | (refine w_o ?_; first | refine w_draw (id := 10) (roL [2, 8, 1029]) (fun k => [2, 3].contains k) [[], []] 64 (by kernel_rfl) rfl (by kernel_rfl) (by simp [nm, nset, -List.map_take, -List.map_drop]) ?_)
  all_goals first
    | exact absurd rfl hc
    | (exfalso; omega)
    | (refine en_one (hf := Try.results12) (h := ?_); simp only [lget]; first | refine congrArg RVb ?_ | refine congrArg RVi ?_ | skip; done)
    | trace_state
end Go.Proofs.Ytdignmbeiohhiaa
