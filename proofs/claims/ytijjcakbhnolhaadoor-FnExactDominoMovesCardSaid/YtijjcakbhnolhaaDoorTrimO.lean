/- The library's Trim of points and crosses as a contract of the logic: nothing is left of a text of these alone, something of every other. -/
import Derived.Test.YtijjcakbhnolhaaDoorByt
import Derived.Test.YtijjcakbhnolhaaDoorLayTrim
namespace Go.Proofs.YtijjcakbhnolhaaDoor
open Eng Go.RowKit
set_option linter.unusedSimpArgs false
set_option linter.unusedVariables false
set_option maxHeartbeats 0
set_option maxRecDepth 100000

theorem trim_ok (s : List UInt8) (hs : s.length ≤ 9223372036854775807) : FCr Tryd.prog 26 [RV.str s, RV.str [46, 35]] (RV.str (Lib.trimS s [46, 35])) := by
  intro w F ρ vals fp hv hO hnd hfF hFs
  have hgk := hO.gok
  cases hO
  have hvl := hv.length
  obtain ⟨x, y, rfl⟩ : ∃ x y, vals = [x, y] := by
    match vals, hvl with
    | [x, y], _ => exact ⟨x, y, rfl⟩
  have hx := hv.get 0
  have hy := hv.get 1
  simp only [lget, List.getD_cons_zero, List.getD_cons_succ] at hx hy
  obtain rfl := hx.exact
  obtain rfl := hy.exact
  have hcon := Any.strings_Trim_laid shelf_lays160 (by kernel_rfl) ⟨s.toArray⟩ ⟨#[46, 35]⟩ w (by simpa [ByteArray.size] using hs) (by decide) (ascii_of_all (by decide))
  refine hcon.mono ?_
  rintro e w' ⟨rfl, hB⟩
  exact ⟨_, _, _, F, ρ, [], [], rfl, ⟨rfl, rfl⟩, .one (.v _), .nil (hgk.mono fun q hq => ⟨hq, hB.block q (hFs q hq)⟩), by simp, fun b hb => by simp at hb, fun b hb => hb, fun b hb => ⟨.inl hb, Nat.lt_of_lt_of_le (hFs b hb) hB.size⟩, fun q hq _ => hB.block q hq, hB.size, hB.os, ⟨hB.tape, .inr trivial⟩, hB.output, fun _ _ => rfl⟩
theorem trimS_nil {s : List UInt8} (h : ∀ c ∈ s, c = 46 ∨ c = 35) : Lib.trimS s [46, 35] = [] := by
  have key : ∀ l : List UInt8, (∀ c ∈ l, c = 46 ∨ c = 35) → l.dropWhile (([46, 35] : List UInt8).contains ·) = [] := by
    intro l
    induction l with
    | nil => intro _; rfl
    | cons a b ih =>
      intro h
      rw [List.dropWhile_cons_of_pos (by rcases h a (by simp) with rfl | rfl <;> rfl)]
      exact ih fun c hc => h c (by simp [hc])
  unfold Lib.trimS Lib.trimRightS Lib.trimLeftS
  rw [key s.reverse (by simpa using h)]
  rfl
theorem dw_head {p : UInt8 → Bool} {l : List UInt8} {x : UInt8} {t : List UInt8} (h : l.dropWhile p = x :: t) : p x = false := by
  induction l with
  | nil => cases h
  | cons a b ih =>
    cases ha : p a with
    | true => rw [List.dropWhile_cons_of_pos ha] at h; exact ih h
    | false =>
      rw [List.dropWhile_cons_of_neg (by simp [ha])] at h
      cases h
      exact ha
theorem trimS_ne {s : List UInt8} (h : ¬ ∀ c ∈ s, c = 46 ∨ c = 35) : Lib.trimS s [46, 35] ≠ [] := by
  intro e
  apply h
  have key : ∀ l : List UInt8, l.dropWhile (([46, 35] : List UInt8).contains ·) = [] → ∀ c ∈ l, c = 46 ∨ c = 35 := by
    intro l
    induction l with
    | nil => intro _ c hc; cases hc
    | cons a b ih =>
      intro h c hc
      by_cases ha : a = 46 ∨ a = 35
      · rw [List.dropWhile_cons_of_pos (by rcases ha with rfl | rfl <;> rfl)] at h
        rcases List.mem_cons.1 hc with rfl | hc
        · exact ha
        · exact ih h c hc
      · rw [List.dropWhile_cons_of_neg (by simpa using ha)] at h
        cases h
  intro c hc
  unfold Lib.trimS Lib.trimRightS Lib.trimLeftS at e
  have h1 := key _ e
  by_cases h0 : s.reverse.dropWhile (([46, 35] : List UInt8).contains ·) = []
  · exact key _ h0 c (by simpa using hc)
  · obtain ⟨x, t, hx⟩ : ∃ x t, s.reverse.dropWhile (([46, 35] : List UInt8).contains ·) = x :: t := by
      cases hq : s.reverse.dropWhile (([46, 35] : List UInt8).contains ·) with
      | nil => exact absurd hq h0
      | cons x t => exact ⟨x, t, rfl⟩
    have hxn : ([46, 35] : List UInt8).contains x = false := by
      exact dw_head (p := (([46, 35] : List UInt8).contains ·)) hx
    have := h1 x (by rw [hx]; simp)
    rcases this with rfl | rfl <;> simp at hxn
end Go.Proofs.YtijjcakbhnolhaaDoor
