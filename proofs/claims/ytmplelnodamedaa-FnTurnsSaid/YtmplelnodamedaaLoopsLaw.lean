/- The law FnLoops answers true. For all bytes. -/
import Derived.Test.YtmplelnodamedaaDraws
import Derived.Test.YtmplelnodamedaaMirror
import Derived.Test.YtmplelnodamedaaMoveS
namespace Go.Proofs.Ytmplelnodamedaa
open Eng
attribute [local irreducible] OpS OpG FC FCr Rel Fl Ef DR Fs
set_option linter.unusedSimpArgs false
set_option maxHeartbeats 0
set_option maxRecDepth 100000

theorem OIss_toN {L : List (List Int)} (h : ∀ r ∈ L, ∀ x ∈ r, 0 ≤ x) : OIss L = ONss (toN L) := by
  show RV.ow 1 (L.map OIs) = RV.ow 1 ((L.map fun l => l.map Int.toNat).map ONs)
  rw [List.map_map]
  refine congrArg (RV.ow 1) (List.map_congr_left fun r hr => ?_)
  show RV.ow 1 (r.map RVi) = RV.ow 1 ((r.map Int.toNat).map RVn)
  rw [List.map_map]
  refine congrArg (RV.ow 1) (List.map_congr_left fun x hx => ?_)
  have := h r hr x hx
  show RVi x = RVi (x.toNat : Int)
  rw [Int.toNat_of_nonneg this]
theorem good_own {L R} (h : goodLp L R = true) : OIss L = ONss (toN L) ∧ OIss R = ONss (toN R) := by
  obtain ⟨h1, h2, h3, h4, h5⟩ := goodLp_small h
  exact ⟨OIss_toN fun r hr x hx => (tgtOk_mem (h4 r hr) x hx).1, OIss_toN fun r hr x hx => (tgtOk_mem (h5 r hr) x hx).1⟩
theorem fin_won {nxt n j} (ha : Alt nxt n) (h : j < n) : won (fin nxt n) (mv j) (nxt.getD j []) = decide (((fin nxt n).getD j (0, 0)).1 = mv j) := by
  have h12 := mv12 j
  have hw := fin_wf nxt n j
  have h3 : ((fin nxt n).getD j (0, 0)).1 = 0 ∨ ((fin nxt n).getD j (0, 0)).1 = mv j ∨ ((fin nxt n).getD j (0, 0)).1 = 3 - mv j := by
    rcases hw with hw | hw
    · left; rw [hw]
    · omega
  rw [Bool.eq_iff_iff, won_iff, decide_eq_true_eq]
  constructor
  · rintro ⟨k, hk, hk2⟩
    rcases h3 with h3 | h3 | h3
    · exact absurd hk2 ((fin_draw h h3).2 k hk)
    · exact h3
    · have := ((fin_lose ha h h3).1 k hk).1; omega
  · intro h4
    obtain ⟨⟨k, hk, hk2⟩, _⟩ := fin_win ha h h4
    exact ⟨k, hk, by rw [hk2]⟩
theorem fin_lost {nxt n j} (ha : Alt nxt n) (h : j < n) : lostAll (fin nxt n) (mv j) (nxt.getD j []) = decide (((fin nxt n).getD j (0, 0)).1 = 3 - mv j) := by
  have h12 := mv12 j
  have hw := fin_wf nxt n j
  have h3 : ((fin nxt n).getD j (0, 0)).1 = 0 ∨ ((fin nxt n).getD j (0, 0)).1 = mv j ∨ ((fin nxt n).getD j (0, 0)).1 = 3 - mv j := by
    rcases hw with hw | hw
    · left; rw [hw]
    · omega
  rw [Bool.eq_iff_iff, lost_iff, decide_eq_true_eq]
  constructor
  · intro hall
    rcases h3 with h3 | h3 | h3
    · obtain ⟨⟨k, hk, hk2⟩, _⟩ := fin_draw h h3
      have := hall k hk; omega
    · obtain ⟨⟨k, hk, hk2⟩, _⟩ := fin_win ha h h3
      have := hall k hk; rw [hk2] at this; simp only at this; omega
    · exact h3
  · intro h4 k hk
    exact ((fin_lose ha h h4).1 k hk).1
theorem won_at {res : List (Int × Int)} {m : Int} {ks : List Nat} {k : Nat} (h : k < ks.length) : won res m (ks.drop k) = (decide ((res.getD ks[k] (0, 0)).1 = m) || won res m (ks.drop (k + 1))) := by
  rw [List.drop_eq_getElem_cons h, won, List.any_cons]; rfl
theorem lost_at {res : List (Int × Int)} {m : Int} {ks : List Nat} {k : Nat} (h : k < ks.length) : lostAll res m (ks.drop k) = (decide ((res.getD ks[k] (0, 0)).1 = 3 - m) && lostAll res m (ks.drop (k + 1))) := by
  rw [List.drop_eq_getElem_cons h, lostAll, List.all_cons]; rfl

end Go.Proofs.Ytmplelnodamedaa
