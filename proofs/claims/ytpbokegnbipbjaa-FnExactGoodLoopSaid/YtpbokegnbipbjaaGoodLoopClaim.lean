/- Claim: FnExactGoodLoop answers true for every input and its argument reads behind the call as before. No condition. -/
import Derived.Test.YtpbokegnbipbjaaGoodLoopLaw
import Derived.Test.YtpbokegnbipbjaaEngV
namespace Go.Proofs.Ytpbokegnbipbjaa
open Eng Go.ChangeShapes Go.WideShapes Go.ChangeAt Go.RowKit
set_option maxHeartbeats 0

theorem own : ownKnob Try.prog.godebug = none := by kernel_rfl
theorem laidOut : laidOutB Try.prog = true := by kernel_rfl

/-- What every int list, every list of such, has. -/
def okInts (l : List Int) : Prop := l.length ≤ maxLen ∧ ∀ n ∈ l, (Lit.int .i64 n).wf = true
def okIntss (l : List (List Int)) : Prop := l.length ≤ maxLen ∧ ∀ r ∈ l, okInts r
theorem reads_i64 {t : TypeId} (ht : Try.prog.underlying t = some (.int .i64)) : Reads Try.prog t 1 RVi (fun n => (Lit.int .i64 n).wf = true) := reads_int ht
theorem reads_ints : Reads Try.prog 53 1 (fun l : List Int => .sh (l.map RVi)) okInts :=
  reads_slice Try.underlying53 (by kernel_rfl) (by omega) (reads_i64 Try.underlying3)
theorem reads_intss : Reads Try.prog 22 1 (fun l : List (List Int) => .sh (l.map fun l => .sh (l.map RVi))) okIntss :=
  reads_slice Try.underlying22 (by kernel_rfl) (by omega) reads_ints
theorem reads_loop : Reads Try.prog 24 2 (fun x : List (List Int) × List (List Int) => .agg [.sh (x.1.map fun l => .sh (l.map RVi)), .sh (x.2.map fun l => .sh (l.map RVi))])
    (fun x => okIntss x.1 ∧ okIntss x.2) :=
  reads_struct2 Try.underlying24 (by kernel_rfl) rfl rfl (by kernel_rfl) (by kernel_rfl) reads_intss reads_intss

theorem goodLoop_lifted (os : Os) (started : os.Started) (H : Type) (enc : TypeId × Value → H) :
    ReturnsInHanded {} Try.checked os 3 .any (Rows.fnExactGoodLoopSpec.pre6 enc Try.prog Try.f3 Rows.fnExactGoodLoopRow.domain false) (Rows.fnExactGoodLoopSpec.post enc Try.prog Try.f3 false true false false) := by
  refine law_lifted (C := Try.checked) (tb := 4) own started (by kernel_rfl) Try.func3
    (ChangeSpec.witness6 (enc := enc) (C := Try.checked) false ⟨#[], #[.agg #[.slice none 0 0, .slice none 0 0]], []⟩ 8 (by kernel_rfl) (by kernel_rfl) (by kernel_rfl) (by kernel_rfl))
    laidOut (by kernel_rfl) rfl rfl Try.underlying4 ?_ ?_
  · intro ds h
    match ds, h with
    | [d], _ => exact ⟨rfl, rfl, rfl⟩
  · intro W base args ds p hval hA
    have hval : ∀ (j : Nat) t v, Try.f3.params[j]? = some t → args[j]? = some v → Value.okWide Try.prog W .any base t v := hval
    have hA : DataW.TrodAll enc Try.prog W 0 (fun _ => true) true Try.f3.params.toList args.toList ds p := hA
    rw [Try.params3] at hA hval
    obtain ⟨v0, d0, rfl, rfl, ⟨fuel, h0⟩⟩ := trodAll_one hA
    obtain ⟨cs, rfl, _⟩ := okWide_struct Try.underlying24 (hval 0 _ v0 rfl rfl)
    obtain ⟨⟨L, R⟩, hfe, ⟨h1, h2⟩, h3, h4⟩ := reads_loop enc W _ _ _ _ h0
    refine ⟨_, .cons (s1_agg hfe) .nil, ?_⟩
    refine lawGoodLoop_ok L R ?_ ?_ ?_ ?_
    · unfold maxLen at h1; omega
    · intro r hr; have := (h2 r hr).1; unfold maxLen at this; omega
    · unfold maxLen at h3; omega
    · intro r hr; have := (h4 r hr).1; unfold maxLen at this; omega

theorem goodLoop_holds : Rows.FnExactGoodLoopSaid :=
  OpenClaim.holds_of_wide 3 Try.f3 rfl rfl rfl rfl rfl rfl rfl ⟨rfl, rfl, rfl, rfl, rfl⟩ rfl rfl rfl rfl rfl (by kernel_rfl) Try.func3 (by kernel_rfl)
    (of_decide_eq_true (by kernel_rfl)) (by unfold Func.isWrapper; first | (rw [if_pos (by decide +kernel)]; kernel_rfl) | (rw [if_neg (by decide +kernel)]; exact ⟨rfl, rfl⟩))
    (fun os started H enc _ => goodLoop_lifted os started H enc)

end Go.Proofs.Ytpbokegnbipbjaa
