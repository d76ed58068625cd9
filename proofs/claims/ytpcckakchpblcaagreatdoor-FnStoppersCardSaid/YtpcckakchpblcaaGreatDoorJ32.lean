/- The reference's sweeps tell of each state how long plays are, as going in depth tells it. For all graphs, in plain lists. -/
import Derived.Test.YtpcckakchpblcaaGreatDoorJ13
import Derived.Test.YtpcckakchpblcaaGreatDoorJ27
namespace Go.Proofs.YtpcckakchpblcaaGreatDoor
set_option linter.unusedSimpArgs false

theorem allD_ok {nxt n} (hin : In nxt n) : ∀ (ss : List Nat) (q : DS), (∀ s ∈ ss, s < n) → Inv nxt n q → (∀ g, q.1.getD g 0 ≠ 1) →
    if (allD nxt n ss q).1 then Inv nxt n (allD nxt n ss q).2 ∧ (∀ s ∈ ss, (allD nxt n ss q).2.1.getD s 0 = 2) ∧ (∀ x, q.1.getD x 0 = 2 → (allD nxt n ss q).2.1.getD x 0 = 2) else Cyc nxt n := by
  intro ss
  induction ss with
  | nil =>
    intro q _ hi _
    simp only [allD, if_true]
    exact ⟨hi, by simp, fun _ h => h⟩
  | cons s ss ih =>
    intro q hs hi hg
    rw [allD]
    by_cases c : q.1.getD s 0 = 0
    · rw [if_pos c]
      have hv := visD_ok hin n q s (hs s (by simp)) c (by rw [← hi.l1]; exact List.countP_le_length) hi (fun g h => absurd h (hg g))
      by_cases cv : (visD nxt n q s).1 = true
      · rw [if_pos cv] at hv ⊢
        obtain ⟨a1, a2, a3, a4⟩ := hv
        have hg2 : ∀ g, (visD nxt n q s).2.1.getD g 0 ≠ 1 := fun g h => by
          by_cases hz : q.1.getD g 0 = 0
          · rcases a3.new g hz with h' | h' <;> omega
          · rw [a3.keep g hz] at h; exact hg g h
        have := ih (visD nxt n q s).2 (fun x hx => hs x (by simp [hx])) a1 hg2
        split
        · rename_i hc
          rw [if_pos hc] at this
          obtain ⟨b1, b2, b3⟩ := this
          refine ⟨b1, fun x hx => ?_, fun x hx => b3 x (by rw [a3.keep x (by omega)]; exact hx)⟩
          rcases List.mem_cons.1 hx with rfl | hx
          · exact b3 _ a2
          · exact b2 x hx
        · rename_i hc
          rw [if_neg hc] at this
          exact this
      · rw [if_neg cv] at hv ⊢
        simp only [Bool.false_eq_true, if_false]
        exact hv
    · rw [if_neg c]
      have := ih q (fun x hx => hs x (by simp [hx])) hi hg
      split
      · rename_i hc
        rw [if_pos hc] at this
        obtain ⟨b1, b2, b3⟩ := this
        refine ⟨b1, fun x hx => ?_, b3⟩
        rcases List.mem_cons.1 hx with rfl | hx
        · exact b3 _ (by have := hi.le x; have := hg x; omega)
        · exact b2 x hx
      · rename_i hc
        rw [if_neg hc] at this
        exact this

/-- The most of what is known of some states, each and one; below 0 where one isn't known. -/
def mostI (out : List Int) : List Nat → Int → Int
  | [], m => m
  | k :: ks, m => if out.getD k (-1) < 0 then -1 else mostI out ks (max m (out.getD k (-1) + 1))
def sweep1 (nxt : List (List Nat)) (out : List Int) (i : Nat) : List Int := if 0 ≤ out.getD i (-1) then out else if 0 ≤ mostI out (nxt.getD i []) 0 then out.set i (mostI out (nxt.getD i []) 0) else out
def sweepTo (nxt : List (List Nat)) (out : List Int) : Nat → List Int
  | 0 => out
  | i + 1 => sweep1 nxt (sweepTo nxt out i) i
def sweeps (nxt : List (List Nat)) (n : Nat) : Nat → List Int
  | 0 => List.replicate n (-1)
  | r + 1 => sweepTo nxt (sweeps nxt n r) n
theorem gdI_set {l : List Int} {i k : Nat} {x : Int} : (l.set i x).getD k (-1) = if i = k ∧ i < l.length then x else l.getD k (-1) := by
  rw [List.getD_eq_getElem?_getD, List.getElem?_set, List.getD_eq_getElem?_getD]
  by_cases h : i = k
  · subst h
    by_cases h2 : i < l.length
    · rw [if_pos rfl, if_pos h2, if_pos ⟨rfl, h2⟩]; rfl
    · rw [if_pos rfl, if_neg h2, if_neg (fun h => h2 h.2), List.getElem?_eq_none (by omega)]
  · rw [if_neg h, if_neg (fun hh => h hh.1)]
theorem sweep1_len {nxt out i} : (sweep1 nxt out i).length = out.length := by unfold sweep1; split; rfl; split <;> simp
theorem sweepTo_len {nxt out} : ∀ i, (sweepTo nxt out i).length = out.length
  | 0 => rfl
  | i + 1 => by rw [sweepTo, sweep1_len, sweepTo_len i]
theorem sweeps_len {nxt n} : ∀ r, (sweeps nxt n r).length = n
  | 0 => by simp [sweeps]
  | r + 1 => by rw [sweeps, sweepTo_len, sweeps_len r]
/-- A state that is known stays so. -/
theorem sweep1_keep {nxt out i k} (h : 0 ≤ out.getD k (-1)) : (sweep1 nxt out i).getD k (-1) = out.getD k (-1) := by
  unfold sweep1
  split
  · rfl
  · rename_i hc
    split
    · rw [gdI_set, if_neg (fun e => hc (by rw [e.1]; exact h))]
    · rfl
theorem sweepTo_keep {nxt out k} (h : 0 ≤ out.getD k (-1)) : ∀ i, (sweepTo nxt out i).getD k (-1) = out.getD k (-1)
  | 0 => rfl
  | i + 1 => by rw [sweepTo, sweep1_keep (by rw [sweepTo_keep h i]; exact h), sweepTo_keep h i]
theorem mostI_neg {out : List Int} : ∀ (ks : List Nat) (m : Int), (∃ k ∈ ks, out.getD k (-1) < 0) → mostI out ks m = -1
  | [], m, h => by obtain ⟨_, h, _⟩ := h; simp at h
  | k :: ks, m, h => by
    rw [mostI]
    split
    · rfl
    · rename_i hc
      refine mostI_neg ks _ ?_
      obtain ⟨x, hx, h2⟩ := h
      rcases List.mem_cons.1 hx with rfl | hx
      · exact absurd h2 hc
      · exact ⟨x, hx, h2⟩
theorem mostI_pos {out : List Int} {tn : List Nat} : ∀ (ks : List Nat) (m : Nat), (∀ k ∈ ks, out.getD k (-1) = (tn.getD k 0 : Nat)) → mostI out ks m = ((ks.foldl (fun m k => max m (tn.getD k 0 + 1)) m : Nat) : Int)
  | [], m, _ => rfl
  | k :: ks, m, h => by
    rw [mostI, h k (by simp), if_neg (by omega), List.foldl_cons]
    have e : max (m : Int) ((tn.getD k 0 : Nat) + 1) = ((max m (tn.getD k 0 + 1) : Nat) : Int) := by omega
    rw [e]
    exact mostI_pos ks _ (fun x hx => h x (by simp [hx]))
/-- What is told is true. -/
def SOk (tn : List Nat) (out : List Int) : Prop := ∀ i, out.getD i (-1) = -1 ∨ out.getD i (-1) = (tn.getD i 0 : Nat)
theorem sweep1_ok {nxt tn out i} (ht : tn.getD i 0 = mx tn (nxt.getD i [])) (h : SOk tn out) : SOk tn (sweep1 nxt out i) := by
  intro j
  unfold sweep1
  split
  · exact h j
  · split
    · rename_i hp
      rw [gdI_set]
      split
      · rename_i e
        right
        have hk : ∀ k ∈ nxt.getD i [], out.getD k (-1) = (tn.getD k 0 : Nat) := fun k hk => by
          rcases h k with h' | h'
          · rw [mostI_neg _ _ ⟨k, hk, by omega⟩] at hp; omega
          · exact h'
        have := mostI_pos (nxt.getD i []) 0 hk
        rw [← e.1, ht]
        exact this
      · exact h j
    · exact h j
theorem sweepTo_ok {nxt tn out n} (ht : ∀ i, i < n → tn.getD i 0 = mx tn (nxt.getD i [])) (h : SOk tn out) : ∀ i, i ≤ n → SOk tn (sweepTo nxt out i)
  | 0, _ => h
  | i + 1, hi => sweep1_ok (ht i (by omega)) (sweepTo_ok ht h i (by omega))
theorem sweeps_ok {nxt tn n} (ht : ∀ i, i < n → tn.getD i 0 = mx tn (nxt.getD i [])) : ∀ r, SOk tn (sweeps nxt n r)
  | 0 => fun i => by
    left
    rw [sweeps, List.getD_eq_getElem?_getD, List.getElem?_replicate]
    split <;> rfl
  | r + 1 => sweepTo_ok ht (sweeps_ok ht r) n (Nat.le_refl _)
/-- What lies below is told. -/
theorem sweeps_done {nxt tn n} (hin : In nxt n) (ht : ∀ i, i < n → tn.getD i 0 = mx tn (nxt.getD i [])) : ∀ r i, i < n → tn.getD i 0 < r → (sweeps nxt n r).getD i (-1) = (tn.getD i 0 : Nat) := by
  intro r
  induction r with
  | zero => intro i _ h; omega
  | succ r ih =>
    intro i hi h
    have key : ∀ j, i < j → j ≤ n → 0 ≤ (sweepTo nxt (sweeps nxt n r) j).getD i (-1) := by
      intro j hj hjn
      induction j with
      | zero => omega
      | succ j ihj =>
        by_cases e : i = j
        · subst e
          rw [sweepTo, sweep1]
          split
          · assumption
          · have hk : ∀ k ∈ nxt.getD i [], (sweepTo nxt (sweeps nxt n r) i).getD k (-1) = (tn.getD k 0 : Nat) := fun k hk => by
              have h1 : tn.getD k 0 < tn.getD i 0 := by rw [ht i hi]; exact mx_gt hk
              have h2 := ih k (hin i k hk) (by omega)
              rw [sweepTo_keep (by omega) i, h2]
            have h3 := mostI_pos (nxt.getD i []) 0 hk
            have h4 : 0 ≤ mostI (sweepTo nxt (sweeps nxt n r) i) (nxt.getD i []) 0 := by
              have : mostI (sweepTo nxt (sweeps nxt n r) i) (nxt.getD i []) 0 = _ := h3
              rw [this]; omega
            rw [if_pos h4, gdI_set, if_pos ⟨rfl, by rw [sweepTo_len, sweeps_len]; exact hi⟩]
            exact h4
        · have := ihj (by omega) (by omega)
          rw [sweepTo, sweep1_keep this]
          exact this
    have h1 := key n hi (Nat.le_refl _)
    rcases sweeps_ok ht (r + 1) i with h2 | h2
    · have h3 : (sweeps nxt n (r + 1)).getD i (-1) = (sweepTo nxt (sweeps nxt n r) n).getD i (-1) := rfl
      omega
    · exact h2
/-- What lies on a circle is never told. -/
def OnC (nxt : List (List Nat)) (x : Nat) : Prop := ∃ k ∈ nxt.getD x [], Rch nxt k x
theorem OnC.next {nxt x} (h : OnC nxt x) : ∃ k ∈ nxt.getD x [], OnC nxt k := by
  obtain ⟨k, hk, hr⟩ := h
  refine ⟨k, hk, ?_⟩
  cases hr with
  | refl => exact ⟨_, hk, .refl _⟩
  | step h1 h2 => exact ⟨_, h1, h2.snoc hk⟩
theorem sweep1_cyc {nxt out i} (h : ∀ x, OnC nxt x → out.getD x (-1) = -1) : ∀ x, OnC nxt x → (sweep1 nxt out i).getD x (-1) = -1 := by
  intro x hx
  unfold sweep1
  split
  · exact h x hx
  · split
    · rename_i hp
      rw [gdI_set]
      split
      · rename_i e
        obtain ⟨k, hk, hk2⟩ := hx.next
        rw [e.1] at hp
        rw [mostI_neg _ _ ⟨k, hk, by rw [h k hk2]; omega⟩] at hp
        omega
      · exact h x hx
    · exact h x hx
theorem sweepTo_cyc {nxt out} (h : ∀ x, OnC nxt x → out.getD x (-1) = -1) : ∀ i x, OnC nxt x → (sweepTo nxt out i).getD x (-1) = -1
  | 0 => h
  | i + 1 => sweep1_cyc (sweepTo_cyc h i)
theorem sweeps_cyc {nxt n} : ∀ r x, OnC nxt x → (sweeps nxt n r).getD x (-1) = -1
  | 0 => fun x _ => by
    rw [sweeps, List.getD_eq_getElem?_getD, List.getElem?_replicate]
    split <;> rfl
  | r + 1 => sweepTo_cyc (sweeps_cyc r) n
end Go.Proofs.YtpcckakchpblcaaGreatDoor
/- The reference's l25Solve: its rounds come to the program's. For all good loops. -/
namespace Go.Proofs.YtpcckakchpblcaaGreatDoor
open Eng
attribute [local irreducible] OpS OpG FC FCr Rel Fl Ef DR Fs
set_option linter.unusedSimpArgs false
set_option maxHeartbeats 0
set_option maxRecDepth 100000

/-- The numbers of moves stay small. -/
def Bd (B : Int) (l : List Int) : Prop := ∀ x ∈ l, -B ≤ x ∧ x ≤ B
theorem Bd.set {B l i x} (h : Bd B l) (hx : -B ≤ x ∧ x ≤ B) : Bd B (l.set i x) := fun y hy => by
  rcases List.mem_or_eq_of_mem_set hy with hy | rfl
  · exact h y hy
  · exact hx
theorem Bd.gd {B : Int} {l} (h : Bd B l) (hB : 0 ≤ B) (i : Nat) : -B ≤ l.getD i 0 ∧ l.getD i 0 ≤ B := by
  by_cases hi : i < l.length
  · rw [Go.Proofs.YtpcckakchpblcaaGreatDoor.gd hi]; exact h _ (List.getElem_mem hi)
  · rw [gd_out hi]; omega
/-- The successors of a state are those of its place, told as states of the other player. -/
theorem succs {L R : List (List Nat)} (hi : Inside L R) (hL : L.length ≤ 1048576) (hl : ∀ l ∈ L, l.length ≤ 1048576) (hr : ∀ l ∈ R, l.length ≤ 1048576) {i : Nat} (h : i < 2 * L.length) :
    ∃ T ks : List Nat, (nxtOf L R).getD i [] = ks ∧ ks.length = T.length ∧ T.length ≤ 1048576 ∧ (∀ (k : Nat) (h : k < ks.length), ks[k] < 2 * L.length) ∧
      (FCr Tryz.prog 62 [.agg [RNss L, RNss R], RVn (i / 2), RVb (decide (((i % 2 : Nat) : Int) = 0))] (RNs T)) ∧
      ∀ (k : Nat) (h : k < T.length) (h2 : k < ks.length), FCr Tryz.prog 63 [RVn T[k], RVb (decide (((i % 2 : Nat) : Int) ≠ 0))] (RVn ks[k]) := by
  have ha := nxtOf_alt hi i
  have h1 : i / 2 < L.length := by omega
  have h2 : i / 2 < R.length := by have := hi.1; omega
  have hat := nxtTo_at L R L.length i h
  rw [gd h1, gd h2] at hat
  have hW := fun b => l25Who_ok L R (i / 2) b h1 h2
  by_cases hp : i % 2 = 0
  · rw [if_pos hp] at hat
    refine ⟨L[i / 2], _, hat, by simp, hl _ (List.getElem_mem h1), ?_, ?_, ?_⟩
    · intro k hk
      exact (ha _ (by rw [nxtOf, hat]; exact List.getElem_mem hk)).1
    · have := hW true
      rw [decide_eq_true (by omega)]
      simpa using this
    · intro k hk hk2
      have hb := hi.2.1 _ (List.getElem_mem h1) _ (List.getElem_mem hk)
      have := l25Side_ok (L[i / 2][k]) false (by omega)
      rw [decide_eq_false (by omega)]
      simpa [stN] using this
  · rw [if_neg hp] at hat
    refine ⟨R[i / 2], _, hat, by simp, hr _ (List.getElem_mem h2), ?_, ?_, ?_⟩
    · intro k hk
      exact (ha _ (by rw [nxtOf, hat]; exact List.getElem_mem hk)).1
    · have := hW false
      rw [decide_eq_false (by omega)]
      simpa using this
    · intro k hk hk2
      have hb := hi.2.2 _ (List.getElem_mem h2) _ (List.getElem_mem hk)
      have := l25Side_ok (R[i / 2][k]) true (by omega)
      rw [decide_eq_true (by omega)]
      simpa [stN] using this

end Go.Proofs.YtpcckakchpblcaaGreatDoor
