/- The program's row of misere values of single heaps. For all arguments. -/
import Derived.Test.YtmfbcipjknjicaaGreatDoorJ24
import Derived.Test.YtmfbcipjknjicaaGreatDoorSpV
namespace Go.Proofs.YtmfbcipjknjicaaGreatDoor
open Eng
attribute [local irreducible] OpS OpG FC FCr Rel Fl Ef DR Fs
attribute [local simp] RV.fzR_names
set_option linter.unusedSimpArgs false
set_option linter.unusedVariables false
set_option maxHeartbeats 0
set_option maxRecDepth 100000

end Go.Proofs.YtmfbcipjknjicaaGreatDoor
/- The reference's misere values, winning moves and rows. For all arguments. -/
namespace Go.Proofs.YtmfbcipjknjicaaGreatDoor
open Eng
attribute [local irreducible] OpS OpG FC FCr Rel Fl Ef DR Fs
attribute [local simp] RV.fzR_names
set_option linter.unusedSimpArgs false
set_option linter.unusedVariables false
set_option maxHeartbeats 0
set_option maxRecDepth 100000

theorem sbook_new (c : List Int) : ∃ K0 V0 : List Int, bookOk c K0 V0 ∧ FC Tryz.prog 37 [RIs c] [] fun rv O => rv = .ptr 9 0 0 ∧ O = [(9, 3, [.agg [RIs c, .ref 6 0 8192, .ref 7 0 8192]]), (6, 1, K0.map RVi), (7, 1, V0.map RVi)] := ⟨_, _, bookOk_new c, l19New_ok c⟩
namespace Eng
theorem l_book {P : Program} {d : Tmp} {ty : TypeId} {pos : String} {after : Array Edge} {ops : Array Oper} {rest R} {fr : List RV} {O : List Bk} {f args ats} {c K0 V0 : List Int} (δ n a b : Nat)
    (hfc : FC P f [RIs c] [] fun rv O' => rv = .ptr 9 0 0 ∧ O' = [(9, 3, [.agg [RIs c, .ref 6 0 8192, .ref 7 0 8192]]), (6, 1, K0.map RVi), (7, 1, V0.map RVi)])
    (hn : 9 + δ = n := by rfl) (ha : 6 + δ = a := by rfl) (hb : 7 + δ = b := by rfl)
    (hargs : args.toList.map (⟨fr, O⟩ : St).get = [RIs c] := by rfl) (hc : callable P f = true := by kernel_rfl) (hlt : n < 1000000000000 := by decide)
    (hm : n ∉ RV.namesL fr ∧ a ∉ RV.namesL fr ∧ b ∉ RV.namesL fr := by simp [nm]) (hmO : n ∉ onames O ∧ a ∉ onames O ∧ b ∉ onames O := by simp [nm, onames]) {fr' : List RV} (e : lset fr d (.ptr n 0 0) = fr' := by simp only [lset] <;> rfl)
    (hk : L P ops rest R ⟨fr', (n, 3, [.agg [RIs c, .ref a 0 8192, .ref b 0 8192]]) :: (a, 1, K0.map RVi) :: (b, 1, V0.map RVi) :: O⟩) : L P ops (⟨some d, .call ⟨.value (.func f), args, ats⟩, ty, pos, after, none⟩ :: rest) R ⟨fr, O⟩ := by
  subst hn; subst ha; subst hb; subst e
  have h := ops_callN (P := P) (s := ⟨fr, O⟩) (d := d) (ty := ty) (pos := pos) (after := after) (f := f) (args := args) (ats := ats) δ hfc hargs (by rw [hargs]; rfl) hc (by
    intro q hq
    simp [onames, nm] at hq
    have hq : q = 9 ∨ q = 6 ∨ q = 7 := by omega
    rcases hq with rfl | rfl | rfl
    · exact ⟨hlt, hm.1, hmO.1⟩
    · exact ⟨by omega, hm.2.1, hmO.2.1⟩
    · exact ⟨by omega, hm.2.2, hmO.2.2⟩)
  have e2 : renO (· + δ) [(9, 3, [RV.agg [RIs c, .ref 6 0 8192, .ref 7 0 8192]]), (6, 1, K0.map RVi), (7, 1, V0.map RVi)] ++ O = (9 + δ, 3, [.agg [RIs c, .ref (6 + δ) 0 8192, .ref (7 + δ) 0 8192]]) :: (6 + δ, 1, K0.map RVi) :: (7 + δ, 1, V0.map RVi) :: O := by
    have hi : ∀ l : List Int, RV.renL (· + δ) (l.map RVi) = l.map RVi := fun l => renL_id (by simp [nm])
    have hi2 : RV.renL (· + δ) [RV.agg [RIs c, .ref 6 0 8192, .ref 7 0 8192]] = [RV.agg [RIs c, .ref (6 + δ) 0 8192, .ref (7 + δ) 0 8192]] := by simp [ng]
    simp only [renO, hi, hi2, List.cons_append, List.nil_append]
  rw [e2] at h
  exact l_op rfl h (e := rfl) (hk := hk)
end Eng
theorem bx_all {c : List Int} (hc : gcode c = true) : ∃ nx : List Int → Nat → Nat → Bok → Bok, ∀ p t o B, vld p t o → bookOk c B.1 B.2 → bookOk c (nx p t o B).1 (nx p t o B).2 ∧ SVC c p t o B (nx p t o B) := by
  classical
  refine ⟨fun p t' o' B => if H : ∃ B' : Bok, bookOk c B'.1 B'.2 ∧ SVC c p t' o' B B' then H.choose else B, fun p t' o' B h1 h3 => ?_⟩
  have H := svalue_all c hc _ p t' o' B h1 (Nat.lt_succ_self _) h3
  dsimp only
  rw [dif_pos H]
  exact H.choose_spec
theorem bkL_ok {c : List Int} {nx : List Int → Nat → Nat → Bok → Bok} (hnx : ∀ p t o B, vld p t o → bookOk c B.1 B.2 → bookOk c (nx p t o B).1 (nx p t o B).2 ∧ SVC c p t o B (nx p t o B)) {t o : Nat} {B : Bok} (hb : bookOk c B.1 B.2) (l : List (List Int)) (hl : ∀ p ∈ l, vld p t o) : bookOk c (bkL nx t o l B).1 (bkL nx t o l B).2 := by
  have key : ∀ n, ∀ l : List (List Int), l.length = n → (∀ p ∈ l, vld p t o) → bookOk c (bkL nx t o l B).1 (bkL nx t o l B).2 := by
    intro n
    induction n with
    | zero => intro l h0 _; obtain rfl := List.eq_nil_of_length_eq_zero h0; exact hb
    | succ n ih =>
      intro l h0 hl
      have e : l = l.take n ++ [l[n]'(by omega)] := by rw [← List.take_succ_eq_append_getElem (by omega), List.take_of_length_le (by omega)]
      rw [e, bkL_snoc]
      exact (hnx _ _ _ _ (hl _ (List.getElem_mem (show n < l.length by omega))) (ih (l.take n) (by simp; omega) fun p hp => hl p (List.mem_of_mem_take hp))).1
  exact key _ l rfl hl
end Go.Proofs.YtmfbcipjknjicaaGreatDoor
