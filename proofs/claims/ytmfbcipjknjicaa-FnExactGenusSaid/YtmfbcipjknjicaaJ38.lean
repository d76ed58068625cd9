/- The program's new memo, and a position's misere value. For all arguments. -/
import Derived.Test.YtmfbcipjknjicaaCallM
import Derived.Test.YtmfbcipjknjicaaHpG
import Derived.Test.YtmfbcipjknjicaaMisV
import Derived.Test.YtmfbcipjknjicaaSpV
namespace Go.Proofs.Ytmfbcipjknjicaa
open Eng
attribute [local irreducible] OpS OpG FC FCr Rel Fl Ef DR Fs
attribute [local simp] RV.fzR_names
set_option linter.unusedSimpArgs false
set_option linter.unusedVariables false
set_option maxHeartbeats 0
set_option maxRecDepth 100000

theorem newMisere_ok (c : List Int) : FC Try.prog 39 [RIs c] [] fun rv O => ∃ b : Nat, True ∧ rv = .agg [RIs c, .v (.map (some b))] ∧ O = [(4, 0, MSI b [])] := by
  refine (fc_in Try.func39 rfl (by simp only [Try.ntmps39, anys, List.length_cons, List.length_nil, Nat.reduceAdd, Nat.reduceSub, List.replicate_succ, List.replicate_zero, List.cons_append, List.nil_append] <;> rfl) ?_)
  repeat' first
    | refine w_seq ?_
    | refine w_region ?_
    | refine l_nil ?_
    | refine rt_n ?_
    | refine w_ret ?_
    | refine rt_ret ?_
    | refine w_skip ?_
    | (refine l_o ?_; first | refine l_op (hk := ?_))
  refine l_makeSI (hk := fun b => ?_)
  repeat' first
    | refine w_seq ?_
    | refine w_region ?_
    | refine l_nil ?_
    | refine rt_n ?_
    | refine w_ret ?_
    | refine rt_ret ?_
    | refine w_skip ?_
    | (refine l_o ?_; first | refine l_op (hk := ?_))
  refine en_ex b trivial ?_
  refine en_le _ (le_perm [2, 4] rfl rfl) ?_
  refine en_endm ([(2, 2, [RV.agg [RIs c, .v (.map (some b))]])]) (hf := Try.results39) (hO := ?_) (hr := ?_)
  · rfl
  · rfl
theorem sum_fill : ∀ (h : List Int), (∀ x ∈ h, 0 ≤ x) → (fillH h).sum = h.sum
  | [], _ => rfl
  | x :: xs, hx => by
    have ih := sum_fill xs fun y hy => hx y (by simp [hy])
    have h0 := hx x (by simp)
    unfold fillH at ih ⊢
    rw [List.filter_cons]
    split
    · rw [List.sum_cons, List.sum_cons, ih]
    · rename_i hn
      have hn : ¬ 0 < x := by simpa using hn
      rw [ih, List.sum_cons]; omega
theorem fillH_vld {h : List Int} (hg : ghp h = true) {n : Nat} (hs : h.sum ≤ n) (hn : n ≤ 20 := by omega) : vld (fillH h) 0 0 := by
  simp only [ghp, Bool.and_eq_true, decide_eq_true_eq] at hg
  obtain ⟨h1, h2⟩ := ghpF_pos hg.2
  refine ⟨⟨fillH_pos, ?_⟩, ?_, .inl ⟨rfl, rfl⟩⟩
  · unfold fillH; exact h2.filter _
  · rw [sum_fill h fun x hx => (h1 x hx).1]; omega
theorem small_ok (c h : List Int) (m : Nat) (hc : c.length ≤ 1048576) (hl : h.length ≤ 1048576) (hm : m ≤ 1000) : FCr Try.prog 38 [RIs c, RIs h, RVn m] (RVb (gcode c && ghp h && decide (h.sum ≤ m))) := by
  have hC := goodCode_ok c hc
  have hH := goodHeaps_ok h hl
  have hT : ghp h = true → FCr Try.prog 73 [RIs h] (RVi h.sum) := fun e => by
    simp only [ghp, Bool.and_eq_true, decide_eq_true_eq] at e
    exact total_ok h e.1 (fun x hx => ghpF_pos e.2 |>.1 x hx)
  generalize gcode c = a at *
  generalize ghp h = b at *
  refine (fcr_in Try.func38 rfl (by simp only [Try.ntmps38, anys, List.length_cons, List.length_nil, Nat.reduceAdd, Nat.reduceSub, List.replicate_succ, List.replicate_zero, List.cons_append, List.nil_append] <;> rfl) ?_)
  cases a with
  | false =>
    repeat' first
      | refine w_seq ?_
      | refine w_region ?_
      | refine l_nil ?_
      | refine rt_n ?_
      | refine w_ret ?_
      | refine rt_ret ?_
      | refine w_skip ?_
      | (refine l_o ?_; first | refine l_op rfl (by first | (apply k_callf; first | exact ops_callf (hfc := hC) | fail) | fail) (hk := ?_) | refine l_op (hk := ?_) | (refine l_g ?_; first | refine l_y rfl rfl rfl ?_ | refine l_n rfl rfl rfl rfl (hk := ?_) | refine l_n' rfl rfl rfl (hk := ?_) | refine l_spnd rfl rfl rfl (h1 := fun hc => ?_) (h2 := fun hc => ?_) | refine l_spd rfl rfl rfl (h1 := fun hc => ?_) (h2 := fun hc => ?_) | refine l_spn rfl rfl rfl (h1 := fun hc => ?_) (h2 := fun hc => ?_) | refine l_sp rfl rfl rfl (h1 := fun hc => ?_) (h2 := fun hc => ?_)))
    refine en_one (hf := Try.results38) (h := ?_); simp only [lget]; first | refine congrArg RVb ?_ | refine congrArg RVi ?_ | skip
    rfl
  | true =>
    cases b with
    | false =>
      repeat' first
        | refine w_seq ?_
        | refine w_region ?_
        | refine l_nil ?_
        | refine rt_n ?_
        | refine w_ret ?_
        | refine rt_ret ?_
        | refine w_skip ?_
        | (refine l_o ?_; first | refine l_op rfl (by first | (apply k_callf; first | exact ops_callf (hfc := hC) | exact ops_callf (hfc := hH) | fail) | fail) (hk := ?_) | refine l_op (hk := ?_) | (refine l_g ?_; first | refine l_y rfl rfl rfl ?_ | refine l_n rfl rfl rfl rfl (hk := ?_) | refine l_n' rfl rfl rfl (hk := ?_) | refine l_spnd rfl rfl rfl (h1 := fun hc => ?_) (h2 := fun hc => ?_) | refine l_spd rfl rfl rfl (h1 := fun hc => ?_) (h2 := fun hc => ?_) | refine l_spn rfl rfl rfl (h1 := fun hc => ?_) (h2 := fun hc => ?_) | refine l_sp rfl rfl rfl (h1 := fun hc => ?_) (h2 := fun hc => ?_)))
      refine en_one (hf := Try.results38) (h := ?_); simp only [lget]; first | refine congrArg RVb ?_ | refine congrArg RVi ?_ | skip
      rfl
    | true =>
      have hT := hT rfl
      repeat' first
        | refine w_seq ?_
        | refine w_region ?_
        | refine l_nil ?_
        | refine rt_n ?_
        | refine w_ret ?_
        | refine rt_ret ?_
        | refine w_skip ?_
        | (refine l_o ?_; first | refine l_op rfl (by first | (apply k_callf; first | exact ops_callf (hfc := hC) | exact ops_callf (hfc := hH) | exact ops_callf (hfc := hT) | fail) | fail) (hk := ?_) | refine l_op (hk := ?_) | (refine l_g ?_; first | refine l_y rfl rfl rfl ?_ | refine l_n rfl rfl rfl rfl (hk := ?_) | refine l_n' rfl rfl rfl (hk := ?_) | refine l_spnd rfl rfl rfl (h1 := fun hc => ?_) (h2 := fun hc => ?_) | refine l_spd rfl rfl rfl (h1 := fun hc => ?_) (h2 := fun hc => ?_) | refine l_spn rfl rfl rfl (h1 := fun hc => ?_) (h2 := fun hc => ?_) | refine l_sp rfl rfl rfl (h1 := fun hc => ?_) (h2 := fun hc => ?_)))
      refine en_one (hf := Try.results38) (h := ?_); simp only [lget]; first | refine congrArg RVb ?_ | refine congrArg RVi ?_ | skip
      rfl
end Go.Proofs.Ytmfbcipjknjicaa
/- The program's winning moves of misere play. For all arguments. -/
namespace Go.Proofs.Ytmfbcipjknjicaa
open Eng
attribute [local irreducible] OpS OpG FC FCr Rel Fl Ef DR Fs
attribute [local simp] RV.fzR_names
set_option linter.unusedSimpArgs false
set_option linter.unusedVariables false
set_option maxHeartbeats 0
set_option maxRecDepth 100000

/-- A choice of what is kept behind each value. -/
theorem nx_all {c : List Int} (hc : gcode c = true) : ∃ nx : List Int → Nat → Nat → Mem → Mem, ∀ p t o m, vld p t o → memOk c m → memOk c (nx p t o m) ∧ VC c p t o m (nx p t o m) := by
  classical
  refine ⟨fun p t' o' m => if H : ∃ m', memOk c m' ∧ VC c p t' o' m m' then H.choose else m, fun p t' o' m h1 h3 => ?_⟩
  have H := value_all c hc _ p t' o' m h1 (Nat.lt_succ_self _) h3
  dsimp only
  rw [dif_pos H]
  exact H.choose_spec
end Go.Proofs.Ytmfbcipjknjicaa
/- The program's row of misere values of single heaps. For all arguments. -/
namespace Go.Proofs.Ytmfbcipjknjicaa
open Eng
attribute [local irreducible] OpS OpG FC FCr Rel Fl Ef DR Fs
attribute [local simp] RV.fzR_names
set_option linter.unusedSimpArgs false
set_option linter.unusedVariables false
set_option maxHeartbeats 0
set_option maxRecDepth 100000

end Go.Proofs.Ytmfbcipjknjicaa
/- The reference's misere values, winning moves and rows. For all arguments. -/
namespace Go.Proofs.Ytmfbcipjknjicaa
open Eng
attribute [local irreducible] OpS OpG FC FCr Rel Fl Ef DR Fs
attribute [local simp] RV.fzR_names
set_option linter.unusedSimpArgs false
set_option linter.unusedVariables false
set_option maxHeartbeats 0
set_option maxRecDepth 100000

theorem sbook_new (c : List Int) : ∃ K0 V0 : List Int, bookOk c K0 V0 ∧ FC Try.prog 42 [RIs c] [] fun rv O => rv = .ptr 9 0 0 ∧ O = [(9, 3, [.agg [RIs c, .ref 6 0 8192, .ref 7 0 8192]]), (6, 1, K0.map RVi), (7, 1, V0.map RVi)] := ⟨_, _, bookOk_new c, l19New_ok c⟩
namespace Eng
theorem l_book {P : Program} {d : Tmp} {ty : TypeId} {pos : String} {after : Array Edge} {ops : Array Oper} {rest R} {fr : List RV} {O : List Bk} {f args ats} {c K0 V0 : List Int} (δ n a b : Nat)
    (hfc : FC P f [RIs c] [] fun rv O' => rv = .ptr 9 0 0 ∧ O' = [(9, 3, [.agg [RIs c, .ref 6 0 8192, .ref 7 0 8192]]), (6, 1, K0.map RVi), (7, 1, V0.map RVi)])
    (hn : 9 + δ = n := by rfl) (ha : 6 + δ = a := by rfl) (hb : 7 + δ = b := by rfl)
    (hargs : args.toList.map (⟨fr, O⟩ : St).get = [RIs c] := by rfl) (hc : callable P f = true := by kernel_rfl) (hlt : n < 1000000000000 := by decide)
    (hm : n ∉ RV.namesL fr ∧ a ∉ RV.namesL fr ∧ b ∉ RV.namesL fr := by simp [nm]) (hmO : n ∉ onames O ∧ a ∉ onames O ∧ b ∉ onames O := by simp [nm, onames]) {fr' : List RV} (e : lset fr d (.ptr n 0 0) = fr' := by simp only [lset] <;> rfl)
    (hk : L P ops rest R ⟨fr', (n, 3, [.agg [RIs c, .ref a 0 8192, .ref b 0 8192]]) :: (a, 1, K0.map RVi) :: (b, 1, V0.map RVi) :: O⟩) : L P ops (⟨some d, .call ⟨.value (.func f), args, ats⟩, ty, pos, after, none⟩ :: rest) R ⟨fr, O⟩ := by
  subst hn; subst ha; subst hb; subst e
  have h := ops_callN (P := P) (s := ⟨fr, O⟩) (d := d) (ty := ty) (pos := pos) (after := after) (f := f) (args := args) (ats := ats) δ hfc hargs (by rw [hargs]; rfl) hc (by
    intro q hq
    simp [onames, nm] at hq
    have hq : q = 9 ∨ q = 6 ∨ q = 7 := by omega
    rcases hq with rfl | rfl | rfl
    · exact ⟨hlt, hm.1, hmO.1⟩
    · exact ⟨by omega, hm.2.1, hmO.2.1⟩
    · exact ⟨by omega, hm.2.2, hmO.2.2⟩)
  have e2 : renO (· + δ) [(9, 3, [RV.agg [RIs c, .ref 6 0 8192, .ref 7 0 8192]]), (6, 1, K0.map RVi), (7, 1, V0.map RVi)] ++ O = (9 + δ, 3, [.agg [RIs c, .ref (6 + δ) 0 8192, .ref (7 + δ) 0 8192]]) :: (6 + δ, 1, K0.map RVi) :: (7 + δ, 1, V0.map RVi) :: O := by
    have hi : ∀ l : List Int, RV.renL (· + δ) (l.map RVi) = l.map RVi := fun l => renL_id (by simp [nm])
    have hi2 : RV.renL (· + δ) [RV.agg [RIs c, .ref 6 0 8192, .ref 7 0 8192]] = [RV.agg [RIs c, .ref (6 + δ) 0 8192, .ref (7 + δ) 0 8192]] := by simp [ng]
    simp only [renO, hi, hi2, List.cons_append, List.nil_append]
  rw [e2] at h
  exact l_op rfl h (e := rfl) (hk := hk)
end Eng
theorem srt0_fill {h : List Int} (hg : ghp h = true) : srt0 h = fillH h := by
  simp only [ghp, Bool.and_eq_true, decide_eq_true_eq] at hg
  obtain ⟨h1, h2⟩ := ghpF_pos hg.2
  have e : (h.filter fun x => decide (x ≠ 0)) = fillH h := by
    unfold fillH
    refine List.filter_congr fun x hx => ?_
    have := (h1 x hx).1
    simp only [ne_eq, decide_eq_decide]; omega
  rw [srt0, e]
  exact (srtI_of (List.Perm.refl _) (by unfold fillH; exact h2.filter _)).symm
/-- A choice of what the table is behind each value. -/
theorem bx_all {c : List Int} (hc : gcode c = true) : ∃ nx : List Int → Nat → Nat → Bok → Bok, ∀ p t o B, vld p t o → bookOk c B.1 B.2 → bookOk c (nx p t o B).1 (nx p t o B).2 ∧ SVC c p t o B (nx p t o B) := by
  classical
  refine ⟨fun p t' o' B => if H : ∃ B' : Bok, bookOk c B'.1 B'.2 ∧ SVC c p t' o' B B' then H.choose else B, fun p t' o' B h1 h3 => ?_⟩
  have H := svalue_all c hc _ p t' o' B h1 (Nat.lt_succ_self _) h3
  dsimp only
  rw [dif_pos H]
  exact H.choose_spec
end Go.Proofs.Ytmfbcipjknjicaa
