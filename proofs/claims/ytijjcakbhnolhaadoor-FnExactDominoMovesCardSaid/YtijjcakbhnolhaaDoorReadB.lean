/- What the parameters of the law on boards read. No condition. -/
import Derived.Test.YtijjcakbhnolhaaDoorRws
namespace Go.Proofs.YtijjcakbhnolhaaDoor
open Eng Go.ChangeShapes Go.WideShapes Go.ChangeAt Go.RowKit
set_option maxHeartbeats 0
set_option maxRecDepth 100000

theorem own : ownKnob Tryd.prog.godebug = none := by kernel_rfl
theorem laidOut : laidOutB Tryd.prog = true := by kernel_rfl

theorem head_cut : (behindMainWord (wordsSigns Tryd.prog.initOrder.toList)).head? = some "cut".toList := by
  have h := toList_of (s := Tryd.prog.initOrder) (_ :: _ :: _ :: _ :: _ :: _ :: _ :: _ :: _ :: _ :: _ :: _ :: _ :: _ :: _ :: _ :: _ :: _ :: _ :: _ :: _ :: _ :: _ :: _ :: _ :: _ :: _ :: _ :: _ :: _ :: _ :: _ :: _ :: _ :: _ :: _ :: _ :: _ :: _ :: _ :: _ :: _ :: _ :: _ :: _ :: _ :: _ :: _ :: _ :: _ :: _ :: _ :: _ :: _ :: _ :: _ :: _ :: _ :: _ :: _ :: _ :: _ :: _ :: _ :: _ :: _ :: _ :: _ :: _ :: _ :: _ :: _ :: _ :: _ :: _ :: _ :: _ :: _ :: _ :: _) rfl
  generalize Tryd.prog.initOrder.toList = l at h ⊢
  subst h
  decide +kernel
theorem p_make : Tryd.prog.make = some .cut := cut_make head_cut
theorem p_final : Tryd.prog.liftsFinal = false := cut_final head_cut
theorem p_enter : Tryd.prog.mayEnter = true := cut_enter head_cut (by decide +kernel) (by decide +kernel) (by decide +kernel)
theorem prd_b : PRd Tryd.prog 4 RVb (fun _ => True) := prd_bool Tryd.underlying4
theorem reads_str : Reads Tryd.prog 9 1 RV.str (fun p => p.length ≤ maxLen) := reads_string Tryd.underlying9
theorem reads_strs : Reads Tryd.prog 22 1 RSs (fun l => l.length ≤ maxLen ∧ ∀ x ∈ l, x.length ≤ maxLen) :=
  reads_slice Tryd.underlying22 (by kernel_rfl) (by omega) reads_str
theorem reads_struct1 {P : Program} {t : TypeId} {f0 : Field} {α : Type} {f : α → RV} {Q : α → Prop} (ht : P.underlying t = some (.struct #[f0])) (hc : P.cellsOf t = 1) (o0 : f0.offset = 0) (c0 : P.cellsOf f0.type = 1)
    (h0 : Reads P f0.type 1 f Q) : Reads P t 1 (fun x : α => .agg [f x]) Q := by
  intro H enc W sp fuel cs x h
  obtain ⟨xs, n, rfl, _, hl, hxs, hf⟩ := DataW.trod_struct ht h
  have e0 := hf 0 f0 rfl
  rw [hc] at hl
  match cs, hl with
  | [u], _ =>
    simp only [o0, c0, List.drop_zero, List.take_succ_cons, List.take_zero] at e0
    have hx2 : xs.length = 1 := by simpa using hxs
    rw [List.getElem?_eq_getElem (by omega)] at e0
    obtain ⟨a, ha, hQ⟩ := h0 enc W sp n [u] _ e0
    refine ⟨a, ?_, hQ⟩
    have := FE.agg (k := 1) ha rfl (.nil 1)
    simpa using this
theorem reads_board : Reads Tryd.prog 24 1 RBd (fun l => l.length ≤ maxLen ∧ ∀ x ∈ l, x.length ≤ maxLen) :=
  reads_struct1 Tryd.underlying24 (by kernel_rfl) rfl (by kernel_rfl) reads_strs
theorem prd_board : PRd Tryd.prog 24 RBd (fun l => l.length ≤ maxLen ∧ ∀ x ∈ l, x.length ≤ maxLen) := prd_struct Tryd.underlying24 reads_board
theorem lenB {l : List (List UInt8)} (h : l.length ≤ maxLen ∧ ∀ x ∈ l, x.length ≤ maxLen) : ∀ x ∈ l, x.length ≤ 9223372036854775807 := fun x hx => h.2 x hx
end Go.Proofs.YtijjcakbhnolhaaDoor
