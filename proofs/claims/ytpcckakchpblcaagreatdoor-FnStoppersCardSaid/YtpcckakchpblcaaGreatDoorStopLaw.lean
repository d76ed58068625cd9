/- The reference's IsStopper and LongestTurns answer as the program's; the drawn laws of both answer true. For all loops and places. -/
import Derived.Test.YtpcckakchpblcaaGreatDoorJ31
import Derived.Test.YtpcckakchpblcaaGreatDoorSpecTurns
namespace Go.Proofs.YtpcckakchpblcaaGreatDoor
open Eng
attribute [local irreducible] OpS OpG FC FCr Rel Fl Ef DR Fs
set_option linter.unusedSimpArgs false
set_option maxHeartbeats 0
set_option maxRecDepth 100000

theorem l1Has_ok (l : List Int) (x : Int) : FCr Tryz.prog 36 [RIs l, RVi x] (RVb (decide (x ∈ l))) := by
  refine fcr_lens fun hL => ?_
  simp only [lnk] at hL
  refine (fcr_in Tryz.func36 rfl (by simp only [Tryz.ntmps36, anys, List.length_cons, List.length_nil, Nat.reduceAdd, Nat.reduceSub, List.replicate_succ, List.replicate_zero, List.cons_append, List.nil_append] <;> rfl) ?_)
  repeat' first
    | refine w_seq ?_
    | refine w_block ?_
    | refine rb_n ?_
    | refine rb_ret ?_
    | refine rb_eq ?_
    | refine rb_ne (by rfl) ?_
    | refine w_exit ?_
    | refine rt_exit ?_
    | refine w_region ?_
    | refine l_nil ?_
    | refine rt_n ?_
    | refine w_ret ?_
    | refine rt_ret ?_
    | refine w_skip ?_
    | refine w_cond_t rfl ?_
    | refine w_cond_f rfl ?_
    | refine w_cnd rfl (fun hc => ?_) (fun hc => ?_)
    | refine w_cd rfl (fun hc => ?_) (fun hc => ?_)
    | refine w_cn rfl (fun hc => ?_) (fun hc => ?_)
    | refine w_cond rfl (fun hc => ?_) (fun hc => ?_)
    | (refine l_o ?_; first | refine l_eqnil rfl (by kernel_rfl) (by intro b; simp only [nz]; rfl) (fun b hb => ?_) | refine l_op (hk := ?_))
  refine w_loopk (ι := Nat) (fun k => [(5, RVn k)]) (fun k => k ≤ l.length ∧ (x ∈ l.drop k ↔ x ∈ l)) (fun k => l.length - k) 0 (h0 := ?_) (hs := ?_) (round := ?_)
  · simp
  · refine le_eq (by (repeat' first | exact .nil | refine .keep ?_ | refine .any ?_); first | done | fail) rfl rfl
  · intro k ⟨hk, hm⟩
    by_cases hkl : k < l.length
    · rw [List.drop_eq_getElem_cons hkl, List.mem_cons] at hm
      repeat' first
        | refine w_seq ?_
        | refine w_block ?_
        | refine rb_n ?_
        | refine rb_ret ?_
        | refine rb_eq ?_
        | refine rb_ne (by rfl) ?_
        | refine w_exit ?_
        | refine rt_exit ?_
        | refine w_region ?_
        | refine l_nil ?_
        | refine rt_n ?_
        | refine w_ret ?_
        | refine rt_ret ?_
        | refine w_skip ?_
        | refine w_cond_t rfl ?_
        | refine w_cond_f rfl ?_
        | refine w_cnd rfl (fun hc => ?_) (fun hc => ?_)
        | refine w_cd rfl (fun hc => ?_) (fun hc => ?_)
        | refine w_cn rfl (fun hc => ?_) (fun hc => ?_)
        | refine w_cond rfl (fun hc => ?_) (fun hc => ?_)
        | (exfalso; omega)
        | (refine l_o ?_; first | refine l_eqnil rfl (by kernel_rfl) (by intro b; simp only [nz]; rfl) (fun b hb => ?_) | refine l_op (hk := ?_))
      · refine en_one (hf := Tryz.results36) (h := ?_); simp only [lget]; first | refine congrArg RVb ?_ | refine congrArg RVi ?_ | skip
        rw [eq_comm, decide_eq_true_eq]
        exact hm.1 (.inl hc.symm)
      · refine rn_mk (k + 1) ?_ (by first | omega | (dsimp only; omega)) (le_eq (by (repeat' first | exact .nil | refine .keep ?_ | refine .any ?_); first | done | fail) rfl rfl)
        exact ⟨by omega, by rw [← hm]; exact ⟨.inr, fun h => h.resolve_left (fun e => hc e.symm)⟩⟩
    · rw [List.drop_eq_nil_of_le (by omega)] at hm
      repeat' first
        | refine w_seq ?_
        | refine w_block ?_
        | refine rb_n ?_
        | refine rb_ret ?_
        | refine rb_eq ?_
        | refine rb_ne (by rfl) ?_
        | refine w_exit ?_
        | refine rt_exit ?_
        | refine w_region ?_
        | refine l_nil ?_
        | refine rt_n ?_
        | refine w_ret ?_
        | refine rt_ret ?_
        | refine w_skip ?_
        | refine w_cond_t rfl ?_
        | refine w_cond_f rfl ?_
        | refine w_cnd rfl (fun hc => ?_) (fun hc => ?_)
        | refine w_cd rfl (fun hc => ?_) (fun hc => ?_)
        | refine w_cn rfl (fun hc => ?_) (fun hc => ?_)
        | refine w_cond rfl (fun hc => ?_) (fun hc => ?_)
        | (exfalso; omega)
        | (refine l_o ?_; first | refine l_eqnil rfl (by kernel_rfl) (by intro b; simp only [nz]; rfl) (fun b hb => ?_) | refine l_op (hk := ?_))
      refine en_one (hf := Tryz.results36) (h := ?_); simp only [lget]; first | refine congrArg RVb ?_ | refine congrArg RVi ?_ | skip
      rw [eq_comm, decide_eq_false_iff_not, ← hm]
      simp
def lst (L R : List (List Int)) : List Int := sweeps (nxtG L R) (2 * L.length) (2 * L.length + 1)
theorem lst_len {L R} : (lst L R).length = 2 * L.length := sweeps_len _
theorem l26G {L R} (h : goodLp L R = true) : FCr Tryz.prog 37 [RLp L R] (OIs (lst L R)) := by
  have g := goodN h
  have hN := l26Longest_ok (toN L) (toN R) g.inside (by rw [toN_len]; have := g.len; omega) (fun l hl => by have := g.lL l hl; omega) (fun l hl => by have := g.lR l hl; omega)
  have e : RLp L R = .agg [RNss (toN L), RNss (toN R)] := by show RV.agg _ = _; rw [g.eL, g.eR]
  rw [e]
  rw [toN_len] at hN
  exact hN
theorem gdM {l : List Int} {i : Nat} (h : i < l.length) : l.getD i (-1) = l[i] := by rw [List.getD_eq_getElem?_getD, List.getElem?_eq_getElem h]; rfl
theorem lst_dfs {L R} (h : goodLp L R = true) : if (dfsG L R).1 then ∀ i (hi : i < (lst L R).length), (lst L R)[i] = ((dfsG L R).2.2.getD i 0 : Nat) else (-1 : Int) ∈ lst L R := by
  have hal := nxtOf_alt (goodN h).inside
  rw [toN_len] at hal
  have hin : In (nxtG L R) (2 * L.length) := fun a k hk => (hal a k hk).1
  have hll := lst_len (L := L) (R := R)
  have hle : ∀ k, (q0 (2 * L.length)).1.getD k 0 = 0 := fun k => getD_rep _ k
  have hle2 : ∀ k, (q0 (2 * L.length)).2.getD k 0 = 0 := fun k => getD_rep _ k
  have hi0 : Inv (nxtG L R) (2 * L.length) (q0 (2 * L.length)) := ⟨by simp [q0], by simp [q0], fun b hb => by rw [hle] at hb; omega, fun b _ => hle2 b, fun b => by rw [hle]; omega⟩
  have h1 := allD_ok hin (List.range (2 * L.length)) (q0 (2 * L.length)) (fun s hs => List.mem_range.1 hs) hi0 (fun g => by rw [hle]; omega)
  have h2 := (allD_wk hin (List.range (2 * L.length)) (q0 (2 * L.length)) (fun s hs => List.mem_range.1 hs) (by simp [q0]) (by simp [q0]) (q0_bd _) (fun k => by rw [hle]; omega))
  rw [show allD (nxtG L R) (2 * L.length) (List.range (2 * L.length)) (q0 (2 * L.length)) = dfsG L R from rfl] at h1 h2
  unfold lst at *
  generalize dfsG L R = d at *
  generalize nxtG L R = nx at *
  generalize 2 * L.length = n at *
  by_cases c : d.1 = true
  · rw [if_pos c] at h1 ⊢
    obtain ⟨a1, a2, a3⟩ := h1
    have ht : ∀ i, i < n → d.2.2.getD i 0 = mx d.2.2 (nx.getD i []) := fun i hi => (a1.bl i (a2 i (List.mem_range.2 hi))).2
    intro i hi
    have hi2 : i < n := by omega
    have hb := (h2.bd i).1
    have hc := cbk_le (q := d.2)
    rw [h2.l1] at hc
    have := sweeps_done hin ht (n + 1) i hi2 (by omega)
    rw [gdM hi] at this
    exact this
  · rw [if_neg c] at h1 ⊢
    obtain ⟨x, hx, k, hk, hr⟩ := h1
    have := sweeps_cyc (nxt := nx) (n := n) (n + 1) x ⟨k, hk, hr⟩
    rw [gdM (by omega)] at this
    rw [← this]
    exact List.getElem_mem _
theorem lst_stops {L R} (h : goodLp L R = true) : (decide ((-1 : Int) ∈ lst L R)) = !(dfsG L R).1 := by
  have h1 := lst_dfs h
  cases c : (dfsG L R).1 with
  | true =>
    rw [c, if_pos rfl] at h1
    simp only [Bool.not_true, decide_eq_false_iff_not]
    intro hm
    obtain ⟨i, hi, e⟩ := List.getElem_of_mem hm
    rw [h1 i hi] at e
    omega
  | false =>
    rw [c, if_neg (by decide)] at h1
    simpa using h1
theorem specStopper_ok (L R : List (List Int)) : FCr Tryz.prog 16 [RLp L R] (RVb (stops L R)) := by
  cases hg : goodLp L R with
  | false =>
    have h1 : stops L R = false := by simp [stops, hg]
    rw [h1]
    refine (fcr_in Tryz.func16 rfl (by simp only [Tryz.ntmps16, anys, List.length_cons, List.length_nil, Nat.reduceAdd, Nat.reduceSub, List.replicate_succ, List.replicate_zero, List.cons_append, List.nil_append] <;> rfl) ?_)
    repeat' first
      | refine w_seq ?_
      | refine w_region ?_
      | refine l_nil ?_
      | refine rt_n ?_
      | refine w_ret ?_
      | refine rt_ret ?_
      | refine w_skip ?_
      | (refine l_o ?_; first | refine l_op rfl (by first | (apply k_callf; first | exact ops_callf (hfc := hg ▸ specGood_ok L R) | fail) | fail) (hk := ?_) | refine l_op (hk := ?_) | (refine l_g ?_; first | refine l_y rfl rfl rfl ?_ | refine l_n rfl rfl rfl rfl (hk := ?_) | refine l_n' rfl rfl rfl (hk := ?_) | refine l_spnd rfl rfl rfl (h1 := fun hc => ?_) (h2 := fun hc => ?_) | refine l_spd rfl rfl rfl (h1 := fun hc => ?_) (h2 := fun hc => ?_) | refine l_spn rfl rfl rfl (h1 := fun hc => ?_) (h2 := fun hc => ?_) | refine l_sp rfl rfl rfl (h1 := fun hc => ?_) (h2 := fun hc => ?_)))
    refine en_end (hf := Tryz.results16) (hr := ?_); simp only [ne, nf, nl, nr, lget, reduceIte, Nat.reduceEqDiff]; first | rfl | refine congrArg RVb ?_ | refine congrArg RVi ?_ | skip
  | true =>
    have h1 : stops L R = !(decide ((-1 : Int) ∈ lst L R)) := by rw [lst_stops hg]; simp [stops, hg]
    have hT := l26G hg
    have hH := l1Has_ok (lst L R) (-1)
    rw [h1]
    refine (fcr_in Tryz.func16 rfl (by simp only [Tryz.ntmps16, anys, List.length_cons, List.length_nil, Nat.reduceAdd, Nat.reduceSub, List.replicate_succ, List.replicate_zero, List.cons_append, List.nil_append] <;> rfl) ?_)
    repeat' first
      | refine w_seq ?_
      | refine w_region ?_
      | refine l_nil ?_
      | refine rt_n ?_
      | refine w_ret ?_
      | refine rt_ret ?_
      | refine w_skip ?_
      | (refine l_o ?_; first | refine l_op rfl (by first | (apply k_callf; first | exact ops_callf (hfc := hg ▸ specGood_ok L R) | exact ops_callf (hfc := hT) | exact ops_callf (hfc := hH) | fail) | fail) (hk := ?_) | refine l_op (hk := ?_) | (refine l_g ?_; first | refine l_y rfl rfl rfl ?_ | refine l_n rfl rfl rfl rfl (hk := ?_) | refine l_n' rfl rfl rfl (hk := ?_) | refine l_spnd rfl rfl rfl (h1 := fun hc => ?_) (h2 := fun hc => ?_) | refine l_spd rfl rfl rfl (h1 := fun hc => ?_) (h2 := fun hc => ?_) | refine l_spn rfl rfl rfl (h1 := fun hc => ?_) (h2 := fun hc => ?_) | refine l_sp rfl rfl rfl (h1 := fun hc => ?_) (h2 := fun hc => ?_)))
    refine en_end (hf := Tryz.results16) (hr := ?_); simp only [ne, nf, nl, nr, lget, reduceIte, Nat.reduceEqDiff]; first | rfl | refine congrArg RVb ?_ | refine congrArg RVi ?_ | skip
end Go.Proofs.YtpcckakchpblcaaGreatDoor
