/- What the parameters of the laws on forms read. No condition. -/
import Derived.Test.YtdignmbeiohhiaaEd
import Derived.Test.YtdignmbeiohhiaaNds
namespace Go.Proofs.Ytdignmbeiohhiaa
open Eng Go.ChangeShapes Go.WideShapes Go.ChangeAt Go.RowKit
set_option maxHeartbeats 0
set_option maxRecDepth 100000

theorem own : ownKnob Try.prog.godebug = none := by kernel_rfl
theorem laidOut : laidOutB Try.prog = true := by kernel_rfl

theorem head_cut : (behindMainWord (wordsSigns Try.prog.initOrder.toList)).head? = some "cut".toList := by
  have h := toList_of (s := Try.prog.initOrder) (_ :: _ :: _ :: _ :: _ :: _ :: _ :: _ :: _ :: _ :: _ :: _ :: _ :: _ :: _ :: _ :: _ :: _ :: _ :: _ :: _ :: _ :: _ :: _ :: _ :: _ :: _ :: _ :: _ :: _ :: _ :: _ :: _ :: _ :: _ :: _ :: _ :: _ :: _ :: _ :: _ :: _ :: _ :: _ :: _ :: _ :: _ :: _ :: _ :: _ :: _ :: _ :: _ :: _ :: _ :: _ :: _ :: _ :: _ :: _ :: _ :: _ :: _ :: _ :: _ :: _ :: _ :: _ :: _ :: _ :: _ :: _ :: _ :: _ :: _ :: _ :: _ :: _ :: _ :: _) rfl
  generalize Try.prog.initOrder.toList = l at h ⊢
  subst h
  decide +kernel
theorem p_make : Try.prog.make = some .cut := cut_make head_cut
theorem p_final : Try.prog.liftsFinal = false := cut_final head_cut
theorem p_enter : Try.prog.mayEnter = true := cut_enter head_cut (by decide +kernel) (by decide +kernel) (by decide +kernel)
theorem prd_i64 : PRd Try.prog 3 RVi (fun n => (Lit.int .i64 n).wf = true) := prd_int Try.underlying3
theorem prd_b : PRd Try.prog 4 RVb (fun _ => True) := prd_bool Try.underlying4
/-- What every int list, every list of such, has. -/
def okInts (l : List Int) : Prop := l.length ≤ maxLen ∧ ∀ n ∈ l, (Lit.int .i64 n).wf = true
def okIntss (l : List (List Int)) : Prop := l.length ≤ maxLen ∧ ∀ r ∈ l, okInts r
theorem reads_ints : Reads Try.prog 88 1 RIs okInts :=
  reads_slice Try.underlying88 (by kernel_rfl) (by omega) (reads_int Try.underlying3)
theorem reads_struct1 {P : Program} {t : TypeId} {f0 : Field} {α : Type} {f : α → RV} {Q : α → Prop} (ht : P.underlying t = some (.struct #[f0])) (hc : P.cellsOf t = 1) (o0 : f0.offset = 0) (c0 : P.cellsOf f0.type = 1)
    (h0 : Reads P f0.type 1 f Q) : Reads P t 1 (fun x : α => .agg [f x]) Q := by
  intro H enc W sp fuel cs x h
  obtain ⟨xs, n, rfl, _, hl, hxs, hf⟩ := DataW.trod_struct ht h
  have e0 := hf 0 f0 rfl
  rw [hc] at hl
  match cs, hl with
  | [u], _ =>
    simp only [o0, c0, List.drop_zero, List.take_succ_cons, List.take_zero] at e0
    have hx2 : xs.length = 1 := by simpa using hxs
    rw [List.getElem?_eq_getElem (by omega)] at e0
    obtain ⟨a, ha, hQ⟩ := h0 enc W sp n [u] _ e0
    refine ⟨a, ?_, hQ⟩
    have := FE.agg (k := 1) ha rfl (.nil 1)
    simpa using this
theorem reads_node : Reads Try.prog 155 2 RNdI (fun x => okInts x.1 ∧ okInts x.2) :=
  reads_struct2 Try.underlying155 (by kernel_rfl) rfl rfl (by kernel_rfl) (by kernel_rfl) reads_ints reads_ints
theorem reads_nodes : Reads Try.prog 57 1 (fun l : List NdI => .sh (l.map RNdI)) (fun l => l.length ≤ maxLen ∧ ∀ x ∈ l, okInts x.1 ∧ okInts x.2) :=
  reads_slice Try.underlying57 (by kernel_rfl) (by omega) reads_node
theorem reads_form : Reads Try.prog 59 1 RFm (fun l => l.length ≤ maxLen ∧ ∀ x ∈ l, okInts x.1 ∧ okInts x.2) :=
  reads_struct1 Try.underlying59 (by kernel_rfl) rfl (by kernel_rfl) reads_nodes
theorem prd_form : PRd Try.prog 59 RFm (fun l => l.length ≤ maxLen ∧ ∀ x ∈ l, okInts x.1 ∧ okInts x.2) := prd_struct Try.underlying59 reads_form
theorem reads_forms : Reads Try.prog 73 1 (fun l : List (List NdI) => .sh (l.map RFm)) (fun l => l.length ≤ maxLen ∧ ∀ x ∈ l, x.length ≤ maxLen ∧ ∀ y ∈ x, okInts y.1 ∧ okInts y.2) :=
  reads_slice Try.underlying73 (by kernel_rfl) (by omega) reads_form
theorem reads_table : Reads Try.prog 75 2 (fun x : List (List NdI) × Bool => .agg [.sh (x.1.map RFm), RVb x.2]) (fun x => (x.1.length ≤ maxLen ∧ ∀ y ∈ x.1, y.length ≤ maxLen ∧ ∀ z ∈ y, okInts z.1 ∧ okInts z.2) ∧ True) :=
  reads_struct2 Try.underlying75 (by kernel_rfl) rfl rfl (by kernel_rfl) (by kernel_rfl) reads_forms (reads_bool Try.underlying4)
theorem prd_table : PRd Try.prog 75 (fun x : List (List NdI) × Bool => .agg [.sh (x.1.map RFm), RVb x.2]) (fun x => (x.1.length ≤ maxLen ∧ ∀ y ∈ x.1, y.length ≤ maxLen ∧ ∀ z ∈ y, okInts z.1 ∧ okInts z.2) ∧ True) := prd_struct Try.underlying75 reads_table
end Go.Proofs.Ytdignmbeiohhiaa
