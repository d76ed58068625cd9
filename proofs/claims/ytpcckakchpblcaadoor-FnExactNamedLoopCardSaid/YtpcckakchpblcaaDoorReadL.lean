/- What the parameters of the laws on loops read. No condition. -/
import Derived.Test.YtpcckakchpblcaaDoorEd
import Derived.Test.YtpcckakchpblcaaDoorLoops
namespace Go.Proofs.YtpcckakchpblcaaDoor
open Eng Go.ChangeShapes Go.WideShapes Go.ChangeAt Go.RowKit
set_option maxHeartbeats 0
set_option maxRecDepth 100000

theorem own : ownKnob Tryd.prog.godebug = none := by kernel_rfl
theorem laidOut : laidOutB Tryd.prog = true := by kernel_rfl

theorem head_cut : (behindMainWord (wordsSigns Tryd.prog.initOrder.toList)).head? = some "cut".toList := by
  have h := toList_of (s := Tryd.prog.initOrder) (_ :: _ :: _ :: _ :: _ :: _ :: _ :: _ :: _ :: _ :: _ :: _ :: _ :: _ :: _ :: _ :: _ :: _ :: _ :: _ :: _ :: _ :: _ :: _ :: _ :: _ :: _ :: _ :: _ :: _ :: _ :: _ :: _ :: _ :: _ :: _ :: _ :: _ :: _ :: _ :: _ :: _ :: _ :: _ :: _ :: _ :: _ :: _ :: _ :: _ :: _ :: _ :: _ :: _ :: _ :: _ :: _ :: _ :: _ :: _ :: _ :: _ :: _ :: _ :: _ :: _ :: _ :: _ :: _ :: _ :: _ :: _ :: _ :: _ :: _ :: _ :: _ :: _ :: _ :: _) rfl
  generalize Tryd.prog.initOrder.toList = l at h ⊢
  subst h
  decide +kernel
theorem p_make : Tryd.prog.make = some .cut := cut_make head_cut
theorem p_final : Tryd.prog.liftsFinal = false := cut_final head_cut
theorem p_enter : Tryd.prog.mayEnter = true := cut_enter head_cut (by decide +kernel) (by decide +kernel) (by decide +kernel)
theorem prd_i64 : PRd Tryd.prog 3 RVi (fun n => (Lit.int .i64 n).wf = true) := prd_int Tryd.underlying3
theorem prd_b : PRd Tryd.prog 4 RVb (fun _ => True) := prd_bool Tryd.underlying4
/-- What every int list, every list of such, has. -/
def okInts (l : List Int) : Prop := l.length ≤ maxLen ∧ ∀ n ∈ l, (Lit.int .i64 n).wf = true
def okIntss (l : List (List Int)) : Prop := l.length ≤ maxLen ∧ ∀ r ∈ l, okInts r
theorem reads_ints : Reads Tryd.prog 55 1 RIs okInts :=
  reads_slice Tryd.underlying55 (by kernel_rfl) (by omega) (reads_int Tryd.underlying3)
theorem reads_intss : Reads Tryd.prog 22 1 RIss okIntss :=
  reads_slice Tryd.underlying22 (by kernel_rfl) (by omega) reads_ints
theorem reads_loop : Reads Tryd.prog 24 2 (fun x : List (List Int) × List (List Int) => RLp x.1 x.2) (fun x => okIntss x.1 ∧ okIntss x.2) :=
  reads_struct2 Tryd.underlying24 (by kernel_rfl) rfl rfl (by kernel_rfl) (by kernel_rfl) reads_intss reads_intss
theorem prd_loop : PRd Tryd.prog 24 (fun x : List (List Int) × List (List Int) => RLp x.1 x.2) (fun x => okIntss x.1 ∧ okIntss x.2) := prd_struct Tryd.underlying24 reads_loop
theorem reads_byte {P : Program} {t : TypeId} (ht : P.underlying t = some (.int .u8)) : Reads P t 1 RVy (fun _ => True) := by
  intro H enc W sp fuel cs x h
  obtain ⟨n, rfl, _, hw⟩ := DataW.trod_int ht h
  have hb : 0 ≤ n ∧ n < 256 := by
    simp [Lit.wf, IntKind.min, IntKind.max, IntKind.signed, IntKind.bits] at hw
    omega
  obtain ⟨m, rfl⟩ := Int.eq_ofNat_of_zero_le hb.1
  have hm : m < 256 := by omega
  refine ⟨UInt8.ofNat m, ?_, trivial⟩
  have e : RVy (UInt8.ofNat m) = .v (.int .u8 (m : Nat)) := by
    have : (UInt8.ofNat m).toNat = m := by simp; omega
    unfold RVy; rw [this]
  rw [e]
  exact .v _ rfl (.nil _)
theorem prd_bytes : PRd Tryd.prog 79 (fun l : List UInt8 => .sh (l.map RVy)) (fun l => l.length ≤ maxLen ∧ ∀ x ∈ l, True) := prd_slice Tryd.underlying79 (by kernel_rfl) (by omega) (reads_byte Tryd.underlying5)
end Go.Proofs.YtpcckakchpblcaaDoor
