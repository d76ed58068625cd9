/- Calls whose result comes with one new block: a map. No condition. -/
import Derived.Test.YtmfbcipjknjicaaGreatDoorHpG
import Derived.Test.YtmfbcipjknjicaaGreatDoorJ29
import Derived.Test.YtmfbcipjknjicaaGreatDoorMisV
import Derived.Test.YtmfbcipjknjicaaGreatDoorMp
namespace Go.Proofs.YtmfbcipjknjicaaGreatDoor
set_option linter.unusedSectionVars false
variable [One Bool]
open Eng
set_option linter.unusedSimpArgs false
set_option linter.unusedVariables false
set_option maxHeartbeats 0
set_option maxRecDepth 100000
namespace Eng
open Go.RowKit
section
variable {P : Program} {s : St} {d : Tmp} {ty : TypeId} {pos : String} {after : Array Edge} {g : Option (Nat × Bool)}
theorem opx_callM {ι : Type} {C : ι → Prop} {r : ι → RV} {els : ι → List RV} {k n0 : Nat} {f args ats argsR} (m : Nat)
    (hfc : FC P f argsR [] fun rv O' => ∃ x, C x ∧ rv = r x ∧ O' = [(n0, k, els x)])
    (hargs : args.toList.map s.get = argsR) (hnt : (args.toList.map s.get).all RV.notTup = true) (hna : RV.namesL argsR = []) (hc : callable P f = true)
    (hels : ∀ x, RV.namesL (els x) = []) (hr : ∀ x, (r x).resOkT = true) (hop : ∀ x, openR d (r x) = (r x, [])) (hm : m < 1000000000000 ∧ m ∉ RV.namesL s.fr) (hmO : m ∉ onames s.O) :
    OpX P ⟨some d, .call ⟨.value (.func f), args, ats⟩, ty, pos, after, none⟩ s C fun x => ⟨lset s.fr d (r x), (m, k, els x) :: s.O⟩ := by
  rintro E a w ⟨F, ρ, fp, h⟩ K Q hK
  have hA : SL w F ρ argsR (args.toList.map a.eval) [] := hargs ▸ h.args args.toList hnt
  simp only [Oper.wp, run_call (a := a) (w := w) (o := ⟨some d, .call ⟨.value (.func f), args, ats⟩, ty, pos, after, none⟩) rfl hc, Oper.upon_enter]
  have hgk := h.O.gok
  have hcall := hfc w F ρ (args.toList.map a.eval) [] hA (.nil hgk) (by simp) (by simp) h.Fs
  rw [show (args.map a.eval) = (args.toList.map a.eval).toArray from Array.ext' (by rw [Array.toList_map])]
  refine hcall.mono ?_
  rintro e w' ⟨v, rv, Oout', F', ρ', fp1, fp2, rfl, ⟨x, hCx, rfl, rfl⟩, hsv, hO2, hnd, hfpX, hF, hF', hb, hsz, h1, h2, h3, hpin⟩
  have hnd1 := List.nodup_append.1 hnd
  have hb2 : ∀ b, b < w.heap.size → w'.heap[b]? = w.heap[b]? := fun b hlt => hb b hlt (by simp)
  have hF2 : ∀ b, F' b → (F b ∨ w.heap.size ≤ b) ∧ b < w'.heap.size := fun b hx => by
    have := hF' b hx
    simpa using this
  have hw := h.world hF hF2 hb2 hsz h1 h2 h3
  have hnew : ∀ b, b ∈ fp1 ∨ b ∈ fp2 → ¬ F' b ∧ w.heap.size ≤ b := fun b hx => by
    have := hfpX b (by simpa using hx)
    simpa using this
  let ρ2 : Places := fun q => if q = m then ρ' n0 else ρ q
  have hne : ∀ q, q ≠ m → ρ2 q = ρ q := fun q hq => by simp [ρ2, hq]
  have hO3 : OL w' F' ρ2 [(m, k, els x)] fp2 := by
    have := hO2.ren (ρ' := ρ2) (fun q => if q = n0 then m else q) fun q hq => by
      simp [onames, hels x] at hq
      subst hq
      simp [ρ2]
    simpa [renO, renL_id (hels x)] using this
  have hsO := hw.O.places (ρ' := ρ2) fun q hq => hne q fun e => hmO (e ▸ hq)
  have hx : RelX E ⟨s.fr, (m, k, els x) :: s.O⟩ a w' F' ρ2 (fp2 ++ fp) := by
    refine ⟨hw.defers, hw.size, fun i => (hw.fr i).places fun q hq => hne q (fun e => hm.2 (e ▸ names_lget _ _ _ hq)), hO3.join hsO, ?_, ?_, ?_, hw.F0, hw.Fn, hw.Fs, hw.keep, hw.hsize, hw.os, hw.tape, hw.output, fun n hn => (hne n (fun e => by subst e; omega)).trans (hw.pin n hn)⟩
    · refine List.nodup_append.2 ⟨hnd1.2.1, h.nodup, fun y hy z hz e => ?_⟩
      subst e
      have := (hnew y (.inr hy)).2
      have := h.O.lt y hz
      omega
    · intro b hx
      rcases List.mem_append.1 hx with hx | hx
      · exact (hnew b (.inr hx)).1
      · exact hw.fpF b hx
    · intro b hx
      rcases List.mem_append.1 hx with hx | hx
      · exact .inr (Nat.le_trans h.hsize (hnew b (.inr hx)).2)
      · exact h.fpE b hx
  obtain ⟨ρ3, hOp, hS⟩ := (hsv.places (ρ' := ρ2) fun q hq => by rw [RV.resOkT_names (hr x)] at hq; cases hq).opn d (hr x) (by rw [hop x]; simp [bnames])
  rw [hop x] at hOp hS
  obtain ⟨fp', hy⟩ := hx.opens hOp (by simp [bnames]) (List.nodup_append.2 ⟨hnd1.1, hx.nodup, fun y hy z hz e => by
    subst e
    rcases List.mem_append.1 hz with hz | hz
    · exact hnd1.2.2 y hy y hz rfl
    · have := (hnew y (.inl hy)).2
      have := h.O.lt y hz
      omega⟩) (fun y hy => ⟨(hnew y (.inl hy)).1, .inr (Nat.le_trans h.hsize (hnew y (.inl hy)).2)⟩)
  exact hK x hCx _ _ ⟨F', ρ3, fp', hy.put (some d) hS⟩
theorem l_callM {ι : Type} {ops : Array Oper} {rest R} {fr : List RV} {O : List Bk} {C : ι → Prop} {r : ι → RV} {els : ι → List RV} {k n0 : Nat} {f args ats argsR}
    (hfc : FC P f argsR [] fun rv O' => ∃ x, C x ∧ rv = r x ∧ O' = [(n0, k, els x)])
    (hargs : args.toList.map (⟨fr, O⟩ : St).get = argsR := by rfl) (hnt : (args.toList.map (⟨fr, O⟩ : St).get).all RV.notTup = true := by rfl) (hna : RV.namesL argsR = [] := by simp [nm]) (hc : callable P f = true := by kernel_rfl)
    (hels : ∀ x, RV.namesL (els x) = [] := by intro x; simp [nm]) (hr : ∀ x, (r x).resOkT = true := by intro x; simp [RV.resOkT, RV.resOk, RV.isAgg, nm]) (hop : ∀ x, openR d (r x) = (r x, []) := by intro x; rfl)
    (hm : d < 1000000000000 ∧ d ∉ RV.namesL fr := by simp [nm]) (hmO : d ∉ onames O := by simp [nm, onames]) {fr' : ι → List RV} (e : ∀ x, lset fr d (r x) = fr' x := by intro x; simp only [lset] <;> rfl)
    (hk : ∀ x, C x → L P ops rest R ⟨fr' x, (d, k, els x) :: O⟩) : L P ops (⟨some d, .call ⟨.value (.func f), args, ats⟩, ty, pos, after, none⟩ :: rest) R ⟨fr, O⟩ :=
  l_opx rfl (opx_callM d hfc hargs hnt hna hc hels hr hop hm hmO) fun x hx => by have := hk x hx; rw [← e x] at this; exact this
end
end Eng
end Go.Proofs.YtmfbcipjknjicaaGreatDoor
/- The program's new memo, and a position's misere value. For all arguments. -/
namespace Go.Proofs.YtmfbcipjknjicaaGreatDoor
set_option linter.unusedSectionVars false
variable [One Bool]
open Eng
attribute [local irreducible] OpS OpG FC FCr Rel Fl Ef DR Fs
attribute [local simp] RV.fzR_names
set_option linter.unusedSimpArgs false
set_option linter.unusedVariables false
set_option maxHeartbeats 0
set_option maxRecDepth 100000

theorem newMisere_ok (c : List Int) : FC Tryz.prog 32 [RIs c] [] fun rv O => ∃ b : Nat, True ∧ rv = .agg [RIs c, .v (.map (some b))] ∧ O = [(4, 0, MSI b [])] := by
  refine (fc_in Tryz.func32 rfl (by simp only [Tryz.ntmps32, anys, List.length_cons, List.length_nil, Nat.reduceAdd, Nat.reduceSub, List.replicate_succ, List.replicate_zero, List.cons_append, List.nil_append] <;> rfl) ?_)
  repeat' first | apply w_seq | apply w_region | apply l_nil | apply rt_n | apply w_ret | apply rt_ret | apply w_skip | (refine l_o ?_; first | refine l_op (hk := ?_))
  refine l_makeSI (hk := fun b => ?_)
  repeat' first | apply w_seq | apply w_region | apply l_nil | apply rt_n | apply w_ret | apply rt_ret | apply w_skip | (refine l_o ?_; first | refine l_op (hk := ?_))
  refine en_ex b trivial ?_
  refine en_le _ (le_perm [2, 4] rfl rfl) ?_
  refine en_endm ([(2, 2, [RV.agg [RIs c, .v (.map (some b))]])]) (hf := Tryz.results32) (hO := ?_) (hr := ?_)
  · rfl
  · rfl
theorem sum_fill : ∀ (h : List Int), (∀ x ∈ h, 0 ≤ x) → (fillH h).sum = h.sum
  | [], _ => rfl
  | x :: xs, hx => by
    have ih := sum_fill xs fun y hy => hx y (by simp [hy])
    have h0 := hx x (by simp)
    unfold fillH at ih ⊢
    rw [List.filter_cons]
    split
    · rw [List.sum_cons, List.sum_cons, ih]
    · rename_i hn
      have hn : ¬ 0 < x := by simpa using hn
      rw [ih, List.sum_cons]; omega
theorem fillH_vld {h : List Int} (hg : ghp h = true) {n : Nat} (hs : h.sum ≤ n) (hn : n ≤ 20 := by omega) : vld (fillH h) 0 0 := by
  simp only [ghp, Bool.and_eq_true, decide_eq_true_eq] at hg
  obtain ⟨h1, h2⟩ := ghpF_pos hg.2
  refine ⟨⟨fillH_pos, ?_⟩, ?_, .inl ⟨rfl, rfl⟩⟩
  · unfold fillH; exact h2.filter _
  · rw [sum_fill h fun x hx => (h1 x hx).1]; omega
theorem small_ok (c h : List Int) (m : Nat) (hc : c.length ≤ 1048576) (hl : h.length ≤ 1048576) (hm : m ≤ 1000) : FCr Tryz.prog 50 [RIs c, RIs h, RVn m] (RVb (gcode c && ghp h && decide (h.sum ≤ m))) := by
  have hC := goodCode_ok c hc
  have hH := goodHeaps_ok h hl
  have hT : ghp h = true → FCr Tryz.prog 79 [RIs h] (RVi h.sum) := fun e => by
    simp only [ghp, Bool.and_eq_true, decide_eq_true_eq] at e
    exact total_ok h e.1 (fun x hx => ghpF_pos e.2 |>.1 x hx)
  generalize gcode c = a at *
  generalize ghp h = b at *
  refine (fcr_in Tryz.func50 rfl (by simp only [Tryz.ntmps50, anys, List.length_cons, List.length_nil, Nat.reduceAdd, Nat.reduceSub, List.replicate_succ, List.replicate_zero, List.cons_append, List.nil_append] <;> rfl) ?_)
  cases a with
  | false =>
    repeat' first | apply w_seq | apply w_region | apply l_nil | apply rt_n | apply w_ret | apply rt_ret | apply w_skip | (refine l_o ?_; first | refine l_op rfl (by first | (apply k_callf; first | exact ops_callf (hfc := hC) | fail) | fail) (hk := ?_) | refine l_op (hk := ?_) | (refine l_g ?_; first | refine l_y rfl rfl rfl ?_ | refine l_n rfl rfl rfl rfl (hk := ?_) | refine l_n' rfl rfl rfl (hk := ?_) | refine l_spnd rfl rfl rfl (h1 := fun hc => ?_) (h2 := fun hc => ?_) | refine l_spd rfl rfl rfl (h1 := fun hc => ?_) (h2 := fun hc => ?_) | refine l_spn rfl rfl rfl (h1 := fun hc => ?_) (h2 := fun hc => ?_) | refine l_sp rfl rfl rfl (h1 := fun hc => ?_) (h2 := fun hc => ?_)))
    refine en_one (hf := Tryz.results50) (h := ?_); simp only [lget]; first | refine congrArg RVb ?_ | refine congrArg RVi ?_ | skip
    rfl
  | true =>
    cases b with
    | false =>
      repeat' first | apply w_seq | apply w_region | apply l_nil | apply rt_n | apply w_ret | apply rt_ret | apply w_skip | (refine l_o ?_; first | refine l_op rfl (by first | (apply k_callf; first | exact ops_callf (hfc := hC) | exact ops_callf (hfc := hH) | fail) | fail) (hk := ?_) | refine l_op (hk := ?_) | (refine l_g ?_; first | refine l_y rfl rfl rfl ?_ | refine l_n rfl rfl rfl rfl (hk := ?_) | refine l_n' rfl rfl rfl (hk := ?_) | refine l_spnd rfl rfl rfl (h1 := fun hc => ?_) (h2 := fun hc => ?_) | refine l_spd rfl rfl rfl (h1 := fun hc => ?_) (h2 := fun hc => ?_) | refine l_spn rfl rfl rfl (h1 := fun hc => ?_) (h2 := fun hc => ?_) | refine l_sp rfl rfl rfl (h1 := fun hc => ?_) (h2 := fun hc => ?_)))
      refine en_one (hf := Tryz.results50) (h := ?_); simp only [lget]; first | refine congrArg RVb ?_ | refine congrArg RVi ?_ | skip
      rfl
    | true =>
      have hT := hT rfl
      repeat' first | apply w_seq | apply w_region | apply l_nil | apply rt_n | apply w_ret | apply rt_ret | apply w_skip | (refine l_o ?_; first | refine l_op rfl (by first | (apply k_callf; first | exact ops_callf (hfc := hC) | exact ops_callf (hfc := hH) | exact ops_callf (hfc := hT) | fail) | fail) (hk := ?_) | refine l_op (hk := ?_) | (refine l_g ?_; first | refine l_y rfl rfl rfl ?_ | refine l_n rfl rfl rfl rfl (hk := ?_) | refine l_n' rfl rfl rfl (hk := ?_) | refine l_spnd rfl rfl rfl (h1 := fun hc => ?_) (h2 := fun hc => ?_) | refine l_spd rfl rfl rfl (h1 := fun hc => ?_) (h2 := fun hc => ?_) | refine l_spn rfl rfl rfl (h1 := fun hc => ?_) (h2 := fun hc => ?_) | refine l_sp rfl rfl rfl (h1 := fun hc => ?_) (h2 := fun hc => ?_)))
      refine en_one (hf := Tryz.results50) (h := ?_); simp only [lget]; first | refine congrArg RVb ?_ | refine congrArg RVi ?_ | skip
      rfl
theorem misereValue_ok (c h : List Int) (hc : c.length ≤ 1048576) (hl : h.length ≤ 1048576) : FCr Tryz.prog 23 [RIs c, RIs h] (if gcode c && ghp h && decide (h.sum ≤ 20) then .tup [RVi (mv c (fillH h) 0 0), RVb true] else .tup [RVi 0, RVb false]) := by
  have hS := small_ok c h 20 hc hl (by omega)
  have hF := filled_ok h hl
  have hN := newMisere_ok c
  have hv : (gcode c && ghp h && decide (h.sum ≤ ((20 : Nat) : Int))) = true → ∃ m', VC c (fillH h) 0 0 [] m' := fun e => by
    simp only [Bool.and_eq_true, decide_eq_true_eq] at e
    have hp := fillH_vld e.1.2 e.2
    obtain ⟨m', _, hm⟩ := value_all c e.1.1 _ (fillH h) 0 0 [] hp (Nat.lt_succ_self _) (memOk_nil c)
    exact ⟨m', hm⟩
  rw [show ((20 : Int)) = ((20 : Nat) : Int) from rfl]
  generalize (gcode c && ghp h && decide (h.sum ≤ ((20 : Nat) : Int))) = b at *
  cases b with
  | false =>
    refine (fcr_in Tryz.func23 rfl (by simp only [Tryz.ntmps23, anys, List.length_cons, List.length_nil, Nat.reduceAdd, Nat.reduceSub, List.replicate_succ, List.replicate_zero, List.cons_append, List.nil_append] <;> rfl) ?_)
    repeat' first | apply w_seq | apply w_region | apply l_nil | apply rt_n | apply w_ret | apply rt_ret | apply w_skip | refine w_cond_t rfl ?_ | refine w_cond_f rfl ?_ | ((first | refine w_cnd rfl ?_ ?_ | refine w_cd rfl ?_ ?_ | refine w_cn rfl ?_ ?_ | refine w_cond rfl ?_ ?_) <;> intro hc) | (refine l_o ?_; first | refine l_op rfl (by first | (apply k_callf; first | exact ops_callf (hfc := hS) | fail) | fail) (hk := ?_) | refine l_op (hk := ?_))
    refine en_end (hf := Tryz.results23) (hr := ?_); simp only [ne, nf, nl, nr, lget, reduceIte, Nat.reduceEqDiff]; first | rfl | refine congrArg RVb ?_ | refine congrArg RVi ?_ | skip
  | true =>
    obtain ⟨m', hm'⟩ := hv rfl
    unfold VC at hm'
    generalize mv c (fillH h) 0 0 = V at *
    generalize fillH h = H at *
    refine (fcr_in Tryz.func23 rfl (by simp only [Tryz.ntmps23, anys, List.length_cons, List.length_nil, Nat.reduceAdd, Nat.reduceSub, List.replicate_succ, List.replicate_zero, List.cons_append, List.nil_append] <;> rfl) ?_)
    repeat' first | apply w_seq | apply w_region | apply l_nil | apply rt_n | apply w_ret | apply rt_ret | apply w_skip | refine w_cond_t rfl ?_ | refine w_cond_f rfl ?_ | ((first | refine w_cnd rfl ?_ ?_ | refine w_cd rfl ?_ ?_ | refine w_cn rfl ?_ ?_ | refine w_cond rfl ?_ ?_) <;> intro hc) | (refine l_o ?_; first | refine l_op rfl (by first | (apply k_callf; first | exact ops_callf (hfc := hS) | fail) | fail) (hk := ?_) | refine l_op (hk := ?_))
    refine l_callM (hfc := hN) (hk := fun b _ => ?_)
    have hb := hm' b
    repeat' first | apply w_seq | apply w_region | apply l_nil | apply rt_n | apply w_ret | apply rt_ret | apply w_skip | refine w_cond_t rfl ?_ | refine w_cond_f rfl ?_ | ((first | refine w_cnd rfl ?_ ?_ | refine w_cd rfl ?_ ?_ | refine w_cn rfl ?_ ?_ | refine w_cond rfl ?_ ?_) <;> intro hc) | (refine l_o ?_; first | refine l_op rfl (by first | (apply k_callf; first | exact ops_callP (d := 14) 11 (MSI b m') (hfc := hb) | exact ops_callf (d := 13) (hfc := hF) | fail) | fail) (hk := ?_) | refine l_op (hk := ?_))
    refine en_end (hf := Tryz.results23) (hr := ?_); simp only [ne, nf, nl, nr, lget, reduceIte, Nat.reduceEqDiff]; first | rfl | refine congrArg RVb ?_ | refine congrArg RVi ?_ | skip
end Go.Proofs.YtmfbcipjknjicaaGreatDoor
