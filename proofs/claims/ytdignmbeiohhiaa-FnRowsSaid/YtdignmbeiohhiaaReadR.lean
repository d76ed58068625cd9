/- What the parameters of the laws on rows read. No condition. -/
import Derived.Test.YtdignmbeiohhiaaRws
namespace Go.Proofs.Ytdignmbeiohhiaa
open Eng Go.ChangeShapes Go.WideShapes Go.ChangeAt Go.RowKit
set_option maxHeartbeats 0
set_option maxRecDepth 100000

theorem own : ownKnob Try.prog.godebug = none := by kernel_rfl
theorem laidOut : laidOutB Try.prog = true := by kernel_rfl

theorem head_cut : (behindMainWord (wordsSigns Try.prog.initOrder.toList)).head? = some "cut".toList := by
  have h := toList_of (s := Try.prog.initOrder) (_ :: _ :: _ :: _ :: _ :: _ :: _ :: _ :: _ :: _ :: _ :: _ :: _ :: _ :: _ :: _ :: _ :: _ :: _ :: _ :: _ :: _ :: _ :: _ :: _ :: _ :: _ :: _ :: _ :: _ :: _ :: _ :: _ :: _ :: _ :: _ :: _ :: _ :: _ :: _ :: _ :: _ :: _ :: _ :: _ :: _ :: _ :: _ :: _ :: _ :: _ :: _ :: _ :: _ :: _ :: _ :: _ :: _ :: _ :: _ :: _ :: _ :: _ :: _ :: _ :: _ :: _ :: _ :: _ :: _ :: _ :: _ :: _ :: _ :: _ :: _ :: _ :: _ :: _ :: _) rfl
  generalize Try.prog.initOrder.toList = l at h ⊢
  subst h
  decide +kernel
theorem p_make : Try.prog.make = some .cut := cut_make head_cut
theorem p_final : Try.prog.liftsFinal = false := cut_final head_cut
theorem p_enter : Try.prog.mayEnter = true := cut_enter head_cut (by decide +kernel) (by decide +kernel) (by decide +kernel)
theorem prd_s : PRd Try.prog 9 RV.str (fun p => p.length ≤ maxLen) := prd_string Try.underlying9
theorem reads_str : Reads Try.prog 9 1 RV.str (fun p => p.length ≤ maxLen) := reads_string Try.underlying9
theorem reads_row : Reads Try.prog 24 2 RRw (fun x => x.1.length ≤ maxLen ∧ x.2.length ≤ maxLen) :=
  reads_struct2 Try.underlying24 (by kernel_rfl) rfl rfl (by kernel_rfl) (by kernel_rfl) reads_str reads_str
theorem prd_row : PRd Try.prog 24 RRw (fun x => x.1.length ≤ maxLen ∧ x.2.length ≤ maxLen) := prd_struct Try.underlying24 reads_row
theorem prd_rows : PRd Try.prog 22 RRws (fun l => l.length ≤ maxLen ∧ ∀ x ∈ l, x.1.length ≤ maxLen ∧ x.2.length ≤ maxLen) := prd_slice Try.underlying22 (by kernel_rfl) (by omega) reads_row
theorem lenRws {l : List Rw} (h : l.length ≤ maxLen ∧ ∀ x ∈ l, x.1.length ≤ maxLen ∧ x.2.length ≤ maxLen) : ∀ x ∈ l, lenRw x := fun x hx => h.2 x hx
theorem reads_byte {P : Program} {t : TypeId} (ht : P.underlying t = some (.int .u8)) : Reads P t 1 RVy (fun _ => True) := by
  intro H enc W sp fuel cs x h
  obtain ⟨n, rfl, _, hw⟩ := DataW.trod_int ht h
  have hb : 0 ≤ n ∧ n < 256 := by
    simp [Lit.wf, IntKind.min, IntKind.max, IntKind.signed, IntKind.bits] at hw
    omega
  obtain ⟨m, rfl⟩ := Int.eq_ofNat_of_zero_le hb.1
  have hm : m < 256 := by omega
  refine ⟨UInt8.ofNat m, ?_, trivial⟩
  have e : RVy (UInt8.ofNat m) = .v (.int .u8 (m : Nat)) := by
    have : (UInt8.ofNat m).toNat = m := by simp; omega
    unfold RVy; rw [this]
  rw [e]
  exact .v _ rfl (.nil _)
theorem prd_bytes : PRd Try.prog 42 (fun l : List UInt8 => .sh (l.map RVy)) (fun l => l.length ≤ maxLen ∧ ∀ x ∈ l, True) := prd_slice Try.underlying42 (by kernel_rfl) (by omega) (reads_byte Try.underlying5)
end Go.Proofs.Ytdignmbeiohhiaa
