/- What the parameters of the laws on loops read. No condition. -/
import Derived.Test.YtmfbcipjknjicaaGreatEd
import Derived.Test.YtmfbcipjknjicaaGreatJ6
namespace Go.Proofs.YtmfbcipjknjicaaGreat
open Eng Go.ChangeShapes Go.WideShapes Go.ChangeAt Go.RowKit
set_option maxHeartbeats 0
set_option maxRecDepth 100000

theorem own : ownKnob Tryz.prog.godebug = none := by kernel_rfl
theorem laidOut : laidOutB Tryz.prog = true := by kernel_rfl

theorem head_cut : (behindMainWord (wordsSigns Tryz.prog.initOrder.toList)).head? = some "cut".toList := by
  have h := toList_of (s := Tryz.prog.initOrder) (_ :: _ :: _ :: _ :: _ :: _ :: _ :: _ :: _ :: _ :: _ :: _ :: _ :: _ :: _ :: _ :: _ :: _ :: _ :: _ :: _ :: _ :: _ :: _ :: _ :: _ :: _ :: _ :: _ :: _ :: _ :: _ :: _ :: _ :: _ :: _ :: _ :: _ :: _ :: _ :: _ :: _ :: _ :: _ :: _ :: _ :: _ :: _ :: _ :: _ :: _ :: _ :: _ :: _ :: _ :: _ :: _ :: _ :: _ :: _ :: _ :: _ :: _ :: _ :: _ :: _ :: _ :: _ :: _ :: _ :: _ :: _ :: _ :: _ :: _ :: _ :: _ :: _ :: _ :: _) rfl
  generalize Tryz.prog.initOrder.toList = l at h ⊢
  subst h
  decide +kernel
theorem p_make : Tryz.prog.make = some .cut := cut_make head_cut
theorem p_final : Tryz.prog.liftsFinal = false := cut_final head_cut
theorem p_enter : Tryz.prog.mayEnter = true := cut_enter head_cut (by decide +kernel) (by decide +kernel) (by decide +kernel)
theorem reads_byte {P : Program} {t : TypeId} (ht : P.underlying t = some (.int .u8)) : Reads P t 1 RVy (fun _ => True) := by
  intro H enc W sp fuel cs x h
  obtain ⟨n, rfl, _, hw⟩ := DataW.trod_int ht h
  have hb : 0 ≤ n ∧ n < 256 := by
    simp [Lit.wf, IntKind.min, IntKind.max, IntKind.signed, IntKind.bits] at hw
    omega
  obtain ⟨m, rfl⟩ := Int.eq_ofNat_of_zero_le hb.1
  have hm : m < 256 := by omega
  refine ⟨UInt8.ofNat m, ?_, trivial⟩
  have e : RVy (UInt8.ofNat m) = .v (.int .u8 (m : Nat)) := by
    have : (UInt8.ofNat m).toNat = m := by simp; omega
    unfold RVy; rw [this]
  rw [e]
  exact .v _ rfl (.nil _)
theorem prd_bytes : PRd Tryz.prog 22 (fun l : List UInt8 => .sh (l.map RVy)) (fun l => l.length ≤ maxLen ∧ ∀ x ∈ l, True) := prd_slice Tryz.underlying22 (by kernel_rfl) (by omega) (reads_byte Tryz.underlying5)
end Go.Proofs.YtmfbcipjknjicaaGreat
