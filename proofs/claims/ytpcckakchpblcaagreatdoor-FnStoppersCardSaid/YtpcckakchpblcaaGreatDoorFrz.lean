/- A named block is frozen, also where other blocks lead to it. -/
import Derived.Test.YtpcckakchpblcaaGreatDoorJ8
namespace Go.Proofs.YtpcckakchpblcaaGreatDoor
namespace Eng
def frzO (B : Bk) : List Bk → List Bk
  | [] => []
  | b :: O => (b.1, b.2.1, RV.frzL B b.2.2) :: frzO B O
theorem OL.frz {w F ρ B fpB O fp} (hO : OL w F ρ [B] fpB) (h : OL w F ρ O fp) : OL w (fun b => F b ∨ b ∈ fpB) ρ (frzO B O) fp := by
  induction h with
  | nil hg => exact .nil (hg.le fun b hb => .inl hb)
  | nilb hk hρ _ ih => exact .nilb hk hρ ih
  | cons hk hρ hρb hb hs hl hm hc he _ ih =>
    exact .cons hk hρ hρb hb hs (by simpa using hl) hm (by simpa using hc) (he.frz hO) ih
theorem le_freezeO {fr fr' : List RV} {O O' : List Bk} (n : Nat) {k : Nat} {els : List RV} (ho : olook n O = some (k, els)) (e1 : RV.frzL (n, k, els) fr = fr') (e2 : frzO (n, k, els) (oerase n O) = O') : LE ⟨fr, O⟩ ⟨fr', O'⟩ := by
  subst e1; subst e2
  refine ⟨?_⟩
  rintro E a w ⟨F, ρ, fp, hr⟩
  obtain ⟨fp', h⟩ := hr.front ho
  obtain ⟨fB, fR, hB, hR, rfl⟩ := OL.split2 (A := [(n, k, els)]) (B := oerase n O) h.O
  have hnd := List.nodup_append.1 h.nodup
  refine ⟨fun b => F b ∨ b ∈ fB, ρ, fR, h.defers, by simpa using h.size, fun i => ?_, OL.frz hB hR, hnd.2.1, ?_, fun b hb => h.fpE b (by simp [hb]), fun b hb => .inl (h.F0 b hb), ?_, ?_, h.keep, h.hsize, h.os, h.tape, h.output, h.pin⟩
  · show SV w _ ρ (lget (RV.frzL (n, k, els) fr) i) _ []
    rw [lget_frzL]
    exact (h.fr i).frz hB
  · intro b hb hx
    rcases hx with hx | hx
    · exact h.fpF b (by simp [hb]) hx
    · exact hnd.2.2 b hx b hb rfl
  · intro b hb
    rcases hb with hb | hb
    · exact h.Fn b hb
    · exact .inr (h.fpE b (by simp [hb]))
  · intro b hb
    rcases hb with hb | hb
    · exact h.Fs b hb
    · exact hB.lt b hb
end Eng
end Go.Proofs.YtpcckakchpblcaaGreatDoor
