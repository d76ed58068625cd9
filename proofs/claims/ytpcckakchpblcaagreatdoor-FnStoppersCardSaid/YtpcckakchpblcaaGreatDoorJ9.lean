/- A number put to its place in a rising list, as the reference does it. For all lists. -/
import Derived.Test.YtpcckakchpblcaaGreatDoorJ8
namespace Go.Proofs.YtpcckakchpblcaaGreatDoor
open Eng
attribute [local irreducible] OpS OpG FC FCr Rel Fl Ef DR Fs
set_option linter.unusedSimpArgs false
set_option maxHeartbeats 0
set_option maxRecDepth 100000

def putI (n : Int) : List Int → List Int
  | [] => [n]
  | x :: xs => if x < n then x :: putI n xs else if x = n then x :: xs else n :: x :: xs
theorem putI_len (n : Int) (l : List Int) : (putI n l).length ≤ l.length + 1 := by
  induction l with
  | nil => simp [putI]
  | cons x xs ih => simp only [putI]; split <;> (try split) <;> simp <;> omega
theorem putI_mem {n y : Int} {l : List Int} (h : y ∈ putI n l) : y = n ∨ y ∈ l := by
  induction l with
  | nil => simp [putI] at h; exact .inl h
  | cons x xs ih =>
    simp only [putI] at h
    split at h
    · rcases List.mem_cons.1 h with rfl | h
      · exact .inr (by simp)
      · rcases ih h with h | h
        · exact .inl h
        · exact .inr (by simp [h])
    · split at h
      · exact .inr h
      · rcases List.mem_cons.1 h with rfl | h
        · exact .inl rfl
        · exact .inr h
theorem putI_take {n : Int} {l : List Int} {k : Nat} (h : l.take k ++ putI n (l.drop k) = putI n l) (hk : k < l.length) (hx : l[k] < n) : l.take (k + 1) ++ putI n (l.drop (k + 1)) = putI n l := by
  rw [← h, List.drop_eq_getElem_cons hk, putI, if_pos hx, List.take_succ_eq_append_getElem hk, List.append_assoc]; rfl

/-- Handed a list of its own, it gives a list of its own. -/
theorem l1Put_ok (l : List Int) (n : Int) (hl : l.length ≤ 1048576) : FC Tryz.prog 58 [.ref 1000000000000 0 l.length, RVi n] [(1000000000000, 1, l.map RVi)] (fun rv O => rv = OIs (putI n l) ∧ O = []) := by
  refine (fc_in Tryz.func58 rfl (by simp only [Tryz.ntmps58, anys, List.length_cons, List.length_nil, Nat.reduceAdd, Nat.reduceSub, List.replicate_succ, List.replicate_zero, List.cons_append, List.nil_append] <;> rfl) ?_)
  repeat' first
    | refine w_seq ?_
    | refine w_block ?_
    | refine rb_n ?_
    | refine rb_ret ?_
    | refine rb_eq ?_
    | refine rb_ne (by rfl) ?_
    | refine w_exit ?_
    | refine rt_exit ?_
    | refine w_region ?_
    | refine l_nil ?_
    | refine rt_n ?_
    | refine w_ret ?_
    | refine rt_ret ?_
    | refine w_skip ?_
    | refine w_cond_t rfl ?_
    | refine w_cond_f rfl ?_
    | refine w_cnd rfl (fun hc => ?_) (fun hc => ?_)
    | refine w_cd rfl (fun hc => ?_) (fun hc => ?_)
    | refine w_cn rfl (fun hc => ?_) (fun hc => ?_)
    | refine w_cond rfl (fun hc => ?_) (fun hc => ?_)
    | (refine l_o ?_; first | refine l_eqnil rfl (by kernel_rfl) (by intro b; simp only [nz]; rfl) (fun b hb => ?_) | refine l_op (hk := ?_) | (refine l_g ?_; first | refine l_y rfl rfl rfl ?_ | refine l_n rfl rfl rfl rfl (hk := ?_) | refine l_n' rfl rfl rfl (hk := ?_) | refine l_spnd rfl rfl rfl (h1 := fun hc => ?_) (h2 := fun hc => ?_) | refine l_spd rfl rfl rfl (h1 := fun hc => ?_) (h2 := fun hc => ?_) | refine l_spn rfl rfl rfl (h1 := fun hc => ?_) (h2 := fun hc => ?_) | refine l_sp rfl rfl rfl (h1 := fun hc => ?_) (h2 := fun hc => ?_)))
    | refine d_nil ?_
    | (refine d_o ?_; first | refine d_fl (hk := ?_) | refine d_ef (hk := ?_) | (refine d_g ?_; first | refine d_spnd rfl rfl rfl (h1 := fun hc => ?_) (h2 := fun hc => ?_) | refine d_spd rfl rfl rfl (h1 := fun hc => ?_) (h2 := fun hc => ?_) | refine d_spn rfl rfl rfl (h1 := fun hc => ?_) (h2 := fun hc => ?_) | refine d_sp rfl rfl rfl (h1 := fun hc => ?_) (h2 := fun hc => ?_)))
    | (refine w_o ?_; first | refine w_draw (id := 6) (fun _ => true) (fun k => [0, 4, 6, 7, 11].contains k) [[], [], [], [], []] 64 (by kernel_rfl) rfl (by kernel_rfl) (by simp [nm, nset, -List.map_take, -List.map_drop]) ?_)
  refine w_loopm (ι := Nat) (fun k => [(5, RVn k)]) (fun _ => [(1000000000000, 1, l.map RVi)]) (fun k => k ≤ l.length ∧ l.take k ++ putI n (l.drop k) = putI n l) (fun k => l.length - k) 0 (h0 := ?_) (hs := ?_) (round := ?_)
  · simp
  · refine le_eq (by (repeat' first | exact .nil | refine .keep ?_ | refine .any ?_); first | done | fail) rfl rfl
  · intro k ⟨hk, hg⟩
    by_cases hkl : k < l.length
    · by_cases hx : l[k] < n
      · repeat' first
          | refine w_seq ?_
          | refine w_block ?_
          | refine rb_n ?_
          | refine rb_ret ?_
          | refine rb_eq ?_
          | refine rb_ne (by rfl) ?_
          | refine w_exit ?_
          | refine rt_exit ?_
          | refine w_region ?_
          | refine l_nil ?_
          | refine rt_n ?_
          | refine w_ret ?_
          | refine rt_ret ?_
          | refine w_skip ?_
          | refine w_cond_t rfl ?_
          | refine w_cond_f rfl ?_
          | refine w_cnd rfl (fun hc => ?_) (fun hc => ?_)
          | refine w_cd rfl (fun hc => ?_) (fun hc => ?_)
          | refine w_cn rfl (fun hc => ?_) (fun hc => ?_)
          | refine w_cond rfl (fun hc => ?_) (fun hc => ?_)
          | (exfalso; omega)
          | (refine l_o ?_; first | refine l_eqnil rfl (by kernel_rfl) (by intro b; simp only [nz]; rfl) (fun b hb => ?_) | refine l_op (hk := ?_) | (refine l_g ?_; first | refine l_y rfl rfl rfl ?_ | refine l_n rfl rfl rfl rfl (hk := ?_) | refine l_n' rfl rfl rfl (hk := ?_) | refine l_spnd rfl rfl rfl (h1 := fun hc => ?_) (h2 := fun hc => ?_) | refine l_spd rfl rfl rfl (h1 := fun hc => ?_) (h2 := fun hc => ?_) | refine l_spn rfl rfl rfl (h1 := fun hc => ?_) (h2 := fun hc => ?_) | refine l_sp rfl rfl rfl (h1 := fun hc => ?_) (h2 := fun hc => ?_)))
          | refine d_nil ?_
          | (refine d_o ?_; first | refine d_fl (hk := ?_) | refine d_ef (hk := ?_) | (refine d_g ?_; first | refine d_spnd rfl rfl rfl (h1 := fun hc => ?_) (h2 := fun hc => ?_) | refine d_spd rfl rfl rfl (h1 := fun hc => ?_) (h2 := fun hc => ?_) | refine d_spn rfl rfl rfl (h1 := fun hc => ?_) (h2 := fun hc => ?_) | refine d_sp rfl rfl rfl (h1 := fun hc => ?_) (h2 := fun hc => ?_)))
          | (refine w_o ?_; first | refine w_draw (id := 6) (fun _ => true) (fun k => [0, 4, 6, 7, 11].contains k) [[], [], [], [], []] 64 (by kernel_rfl) rfl (by kernel_rfl) (by simp [nm, nset, -List.map_take, -List.map_drop]) ?_)
        refine rn_mk (k + 1) ?_ (by first | omega | (dsimp only; omega)) (le_eq (by (repeat' first | exact .nil | refine .keep ?_ | refine .any ?_); first | done | fail) rfl rfl)
        exact ⟨by omega, putI_take hg hkl hx⟩
      · rw [List.drop_eq_getElem_cons hkl, putI, if_neg hx] at hg
        by_cases hx2 : l[k] = n
        · rw [if_pos hx2, ← List.drop_eq_getElem_cons hkl, List.take_append_drop] at hg
          rw [← hg]
          repeat' first
            | refine w_seq ?_
            | refine w_block ?_
            | refine rb_n ?_
            | refine rb_ret ?_
            | refine rb_eq ?_
            | refine rb_ne (by rfl) ?_
            | refine w_exit ?_
            | refine rt_exit ?_
            | refine w_region ?_
            | refine l_nil ?_
            | refine rt_n ?_
            | refine w_ret ?_
            | refine rt_ret ?_
            | refine w_skip ?_
            | refine w_cond_t rfl ?_
            | refine w_cond_f rfl ?_
            | refine w_cnd rfl (fun hc => ?_) (fun hc => ?_)
            | refine w_cd rfl (fun hc => ?_) (fun hc => ?_)
            | refine w_cn rfl (fun hc => ?_) (fun hc => ?_)
            | refine w_cond rfl (fun hc => ?_) (fun hc => ?_)
            | (exfalso; omega)
            | (refine l_o ?_; first | refine l_eqnil rfl (by kernel_rfl) (by intro b; simp only [nz]; rfl) (fun b hb => ?_) | refine l_op (hk := ?_) | (refine l_g ?_; first | refine l_y rfl rfl rfl ?_ | refine l_n rfl rfl rfl rfl (hk := ?_) | refine l_n' rfl rfl rfl (hk := ?_) | refine l_spnd rfl rfl rfl (h1 := fun hc => ?_) (h2 := fun hc => ?_) | refine l_spd rfl rfl rfl (h1 := fun hc => ?_) (h2 := fun hc => ?_) | refine l_spn rfl rfl rfl (h1 := fun hc => ?_) (h2 := fun hc => ?_) | refine l_sp rfl rfl rfl (h1 := fun hc => ?_) (h2 := fun hc => ?_)))
            | refine d_nil ?_
            | (refine d_o ?_; first | refine d_fl (hk := ?_) | refine d_ef (hk := ?_) | (refine d_g ?_; first | refine d_spnd rfl rfl rfl (h1 := fun hc => ?_) (h2 := fun hc => ?_) | refine d_spd rfl rfl rfl (h1 := fun hc => ?_) (h2 := fun hc => ?_) | refine d_spn rfl rfl rfl (h1 := fun hc => ?_) (h2 := fun hc => ?_) | refine d_sp rfl rfl rfl (h1 := fun hc => ?_) (h2 := fun hc => ?_)))
            | (refine w_o ?_; first | refine w_draw (id := 6) (fun _ => true) (fun k => [0, 4, 6, 7, 11].contains k) [[], [], [], [], []] 64 (by kernel_rfl) rfl (by kernel_rfl) (by simp [nm, nset, -List.map_take, -List.map_drop]) ?_)
          refine en_end (hf := Tryz.results58) (hr := ?_); simp only [ne, nf, nl, nr, lget, reduceIte, Nat.reduceEqDiff]; first | rfl | refine congrArg RVb ?_ | refine congrArg RVi ?_ | skip
        · rw [if_neg hx2, ← List.drop_eq_getElem_cons hkl] at hg
          rw [← hg]
          refine w_le _ (le_freeze 1000000000000 rfl (by simp only [nz, nf, nl, nb, nr, ng, nq, nu, reduceIte, Nat.reduceEqDiff, Nat.reduceAdd]; rfl) (by simp only [nz, nf, nl, nb, nr, ng, nq, nu, reduceIte, Nat.reduceEqDiff, Nat.reduceAdd]; rfl)) ?_
          repeat' first
            | refine w_seq ?_
            | refine w_block ?_
            | refine rb_n ?_
            | refine rb_ret ?_
            | refine rb_eq ?_
            | refine rb_ne (by rfl) ?_
            | refine w_exit ?_
            | refine rt_exit ?_
            | refine w_region ?_
            | refine l_nil ?_
            | refine rt_n ?_
            | refine w_ret ?_
            | refine rt_ret ?_
            | refine w_skip ?_
            | refine w_cond_t rfl ?_
            | refine w_cond_f rfl ?_
            | refine w_cnd rfl (fun hc => ?_) (fun hc => ?_)
            | refine w_cd rfl (fun hc => ?_) (fun hc => ?_)
            | refine w_cn rfl (fun hc => ?_) (fun hc => ?_)
            | refine w_cond rfl (fun hc => ?_) (fun hc => ?_)
            | (exfalso; omega)
            | (refine l_o ?_; first | refine l_eqnil rfl (by kernel_rfl) (by intro b; simp only [nz]; rfl) (fun b hb => ?_) | refine l_op (hk := ?_) | (refine l_g ?_; first | refine l_y rfl rfl rfl ?_ | refine l_n rfl rfl rfl rfl (hk := ?_) | refine l_n' rfl rfl rfl (hk := ?_) | refine l_spnd rfl rfl rfl (h1 := fun hc => ?_) (h2 := fun hc => ?_) | refine l_spd rfl rfl rfl (h1 := fun hc => ?_) (h2 := fun hc => ?_) | refine l_spn rfl rfl rfl (h1 := fun hc => ?_) (h2 := fun hc => ?_) | refine l_sp rfl rfl rfl (h1 := fun hc => ?_) (h2 := fun hc => ?_)))
            | refine d_nil ?_
            | (refine d_o ?_; first | refine d_fl (hk := ?_) | refine d_ef (hk := ?_) | (refine d_g ?_; first | refine d_spnd rfl rfl rfl (h1 := fun hc => ?_) (h2 := fun hc => ?_) | refine d_spd rfl rfl rfl (h1 := fun hc => ?_) (h2 := fun hc => ?_) | refine d_spn rfl rfl rfl (h1 := fun hc => ?_) (h2 := fun hc => ?_) | refine d_sp rfl rfl rfl (h1 := fun hc => ?_) (h2 := fun hc => ?_)))
            | (refine w_o ?_; first | refine w_draw (id := 6) (roL []) (fun k => [0, 4, 7, 11, 12].contains k) [[33],[37],[40],[44],[]] 64 (by kernel_rfl) rfl (by kernel_rfl) (by simp [nm, nset, -List.map_take, -List.map_drop]) ?_)
          refine en_end (hf := Tryz.results58) (hr := ?_); simp only [ne, nf, nl, nr, lget, reduceIte, Nat.reduceEqDiff]; first | rfl | refine congrArg RVb ?_ | refine congrArg RVi ?_ | skip
          rw [List.append_assoc]; rfl
    · obtain rfl : k = l.length := by omega
      rw [List.take_length, List.drop_length] at hg
      have hg : l ++ [n] = putI n l := hg
      rw [← hg]
      refine w_le _ (le_freeze 1000000000000 rfl (by simp only [nz, nf, nl, nb, nr, ng, nq, nu, reduceIte, Nat.reduceEqDiff, Nat.reduceAdd]; rfl) (by simp only [nz, nf, nl, nb, nr, ng, nq, nu, reduceIte, Nat.reduceEqDiff, Nat.reduceAdd]; rfl)) ?_
      repeat' first
        | refine w_seq ?_
        | refine w_block ?_
        | refine rb_n ?_
        | refine rb_ret ?_
        | refine rb_eq ?_
        | refine rb_ne (by rfl) ?_
        | refine w_exit ?_
        | refine rt_exit ?_
        | refine w_region ?_
        | refine l_nil ?_
        | refine rt_n ?_
        | refine w_ret ?_
        | refine rt_ret ?_
        | refine w_skip ?_
        | refine w_cond_t rfl ?_
        | refine w_cond_f rfl ?_
        | refine w_cnd rfl (fun hc => ?_) (fun hc => ?_)
        | refine w_cd rfl (fun hc => ?_) (fun hc => ?_)
        | refine w_cn rfl (fun hc => ?_) (fun hc => ?_)
        | refine w_cond rfl (fun hc => ?_) (fun hc => ?_)
        | (exfalso; omega)
        | (refine l_o ?_; first | refine l_eqnil rfl (by kernel_rfl) (by intro b; simp only [nz]; rfl) (fun b hb => ?_) | refine l_op (hk := ?_) | (refine l_g ?_; first | refine l_y rfl rfl rfl ?_ | refine l_n rfl rfl rfl rfl (hk := ?_) | refine l_n' rfl rfl rfl (hk := ?_) | refine l_spnd rfl rfl rfl (h1 := fun hc => ?_) (h2 := fun hc => ?_) | refine l_spd rfl rfl rfl (h1 := fun hc => ?_) (h2 := fun hc => ?_) | refine l_spn rfl rfl rfl (h1 := fun hc => ?_) (h2 := fun hc => ?_) | refine l_sp rfl rfl rfl (h1 := fun hc => ?_) (h2 := fun hc => ?_)))
        | refine d_nil ?_
        | (refine d_o ?_; first | refine d_fl (hk := ?_) | refine d_ef (hk := ?_) | (refine d_g ?_; first | refine d_spnd rfl rfl rfl (h1 := fun hc => ?_) (h2 := fun hc => ?_) | refine d_spd rfl rfl rfl (h1 := fun hc => ?_) (h2 := fun hc => ?_) | refine d_spn rfl rfl rfl (h1 := fun hc => ?_) (h2 := fun hc => ?_) | refine d_sp rfl rfl rfl (h1 := fun hc => ?_) (h2 := fun hc => ?_)))
        | (refine w_o ?_; first | refine w_draw (id := 6) (roL []) (fun k => [0, 4, 7, 11, 12].contains k) [[33],[37],[40],[44],[]] 64 (by kernel_rfl) rfl (by kernel_rfl) (by simp [nm, nset, -List.map_take, -List.map_drop]) ?_)
      refine en_end (hf := Tryz.results58) (hr := ?_); simp only [ne, nf, nl, nr, lget, reduceIte, Nat.reduceEqDiff]; first | rfl | refine congrArg RVb ?_ | refine congrArg RVi ?_ | skip
      rw [List.take_length, List.drop_length, List.append_nil]
end Go.Proofs.YtpcckakchpblcaaGreatDoor
/- Numbers in order, each once: by sorting and leaving out what stands there twice; by putting one by one. In plain lists. -/
namespace Go.Proofs.YtpcckakchpblcaaGreatDoor
set_option linter.unusedSimpArgs false

/-- What stands ahead of a place, without what stands there twice in a row. -/
def ddTo (l : List Int) : Nat → List Int
  | 0 => []
  | j + 1 => if 0 < j ∧ l.getD j 0 = l.getD (j - 1) 0 then ddTo l j else ddTo l j ++ [l.getD j 0]
def dd (l : List Int) : List Int := ddTo l l.length
theorem ddTo_len (l : List Int) : ∀ j, (ddTo l j).length ≤ j
  | 0 => by simp [ddTo]
  | j + 1 => by have := ddTo_len l j; rw [ddTo]; split <;> simp <;> omega
theorem dd_len (l : List Int) : (dd l).length ≤ l.length := ddTo_len l _
def srtI (l : List Int) : List Int := l.mergeSort fun x y => decide (x ≤ y)
theorem srtI_len (l : List Int) : (srtI l).length = l.length := List.length_mergeSort l
theorem srtI_mem (l : List Int) (x : Int) : x ∈ srtI l ↔ x ∈ l := List.mem_mergeSort
theorem srtI_le (l : List Int) : (srtI l).Pairwise (· ≤ ·) := by
  have := List.pairwise_mergeSort (le := fun x y : Int => decide (x ≤ y)) (fun a b c h1 h2 => by simp at *; omega) (fun a b => by simp; omega) l
  exact this.imp (by intro a b h; simpa using h)
/-- Strictly rising numbers. -/
abbrev SI (l : List Int) : Prop := l.Pairwise (· < ·)
theorem ddTo_si {l : List Int} (h : l.Pairwise (· ≤ ·)) : ∀ j, j ≤ l.length → SI (ddTo l j) ∧ (∀ x ∈ ddTo l j, x ∈ l ∧ (0 < j → x ≤ l.getD (j - 1) 0)) ∧ (∀ i, i < j → l.getD i 0 ∈ ddTo l j)
  | 0, _ => ⟨by simp [ddTo], by simp [ddTo], fun i hi => by omega⟩
  | j + 1, hj => by
    obtain ⟨h1, h2, h3⟩ := ddTo_si h j (by omega)
    have hjl : j < l.length := by omega
    have ej : l.getD j 0 = l[j] := by simp [List.getD_eq_getElem?_getD, hjl]
    have hle : 0 < j → l.getD (j - 1) 0 ≤ l.getD j 0 := fun h0 => by
      have e1 : l.getD (j - 1) 0 = l[j - 1]'(by omega) := by simp [List.getD_eq_getElem?_getD, show j - 1 < l.length by omega]
      rw [e1, ej]
      exact List.pairwise_iff_getElem.1 h (j - 1) j (by omega) hjl (by omega)
    rw [ddTo]
    split
    · rename_i hc
      refine ⟨h1, fun x hx => ⟨(h2 x hx).1, fun _ => ?_⟩, fun i hi => ?_⟩
      · have := (h2 x hx).2 hc.1
        rw [Nat.add_sub_cancel]; omega
      · by_cases hij : i < j
        · exact h3 i hij
        · obtain rfl : i = j := by omega
          rw [hc.2]; exact h3 (i - 1) (by omega)
    · rename_i hc
      refine ⟨?_, fun x hx => ?_, fun i hi => ?_⟩
      · rw [SI, List.pairwise_append]
        refine ⟨h1, by simp, fun a ha b hb => ?_⟩
        rw [List.mem_singleton.1 hb]
        by_cases h0 : 0 < j
        · have a1 := (h2 a ha).2 h0
          have a2 := hle h0
          have a3 : l.getD j 0 ≠ l.getD (j - 1) 0 := fun e => hc ⟨h0, e⟩
          omega
        · have : j = 0 := by omega
          subst this
          simp [ddTo] at ha
      · rcases List.mem_append.1 hx with hx | hx
        · refine ⟨(h2 x hx).1, fun _ => ?_⟩
          rw [Nat.add_sub_cancel]
          by_cases h0 : 0 < j
          · have a1 := (h2 x hx).2 h0
            have := hle h0
            omega
          · have : j = 0 := by omega
            subst this
            simp [ddTo] at hx
        · rw [List.mem_singleton.1 hx, ej]
          exact ⟨List.getElem_mem _, fun _ => by rw [Nat.add_sub_cancel, ej]; omega⟩
      · by_cases hij : i < j
        · exact List.mem_append.2 (.inl (h3 i hij))
        · obtain rfl : i = j := by omega
          simp
theorem dd_mem {l : List Int} (h : l.Pairwise (· ≤ ·)) (x : Int) : x ∈ dd l ↔ x ∈ l := by
  obtain ⟨_, h2, h3⟩ := ddTo_si h l.length (Nat.le_refl _)
  refine ⟨fun hx => (h2 x hx).1, fun hx => ?_⟩
  obtain ⟨i, hi, rfl⟩ := List.getElem_of_mem hx
  have := h3 i hi
  rwa [show l.getD i 0 = l[i] by simp [List.getD_eq_getElem?_getD, hi]] at this
end Go.Proofs.YtpcckakchpblcaaGreatDoor
