/- A loop written as a text: the reference and the program. For all loops. -/
import Derived.Test.YtpcckakchpblcaaGreatDoorGood
import Derived.Test.YtpcckakchpblcaaGreatDoorJ15
import Derived.Test.YtpcckakchpblcaaGreatDoorJ42
import Derived.Test.YtpcckakchpblcaaGreatDoorSolve
namespace Go.Proofs.YtpcckakchpblcaaGreatDoor
open Eng
attribute [local irreducible] OpS OpG FC FCr Rel Fl Ef DR Fs
attribute [local simp] RV.fzR_names
set_option linter.unusedSimpArgs false
set_option maxHeartbeats 0
set_option maxRecDepth 100000

theorem join_len {m : Nat} (sep : List UInt8) : ∀ (l : List (List UInt8)), (∀ x ∈ l, x.length ≤ m) → (Lib.join l sep).length ≤ l.length * (m + sep.length) := by
  intro l h
  match l, h with
  | [], _ => rw [Lib.join_nil]; simp
  | a :: r, h =>
    have h2 : ∀ r : List (List UInt8), (∀ x ∈ r, x.length ≤ m) → (Lib.joinTail sep r).length ≤ r.length * (m + sep.length) := by
      intro r
      induction r with
      | nil => intro _; simp [Lib.joinTail]
      | cons x r ih =>
        intro hx
        have h3 := ih fun y hy => hx y (by simp [hy])
        have h4 := hx x (by simp)
        have e : (Lib.joinTail sep (x :: r)).length = sep.length + x.length + (Lib.joinTail sep r).length := by simp [Lib.joinTail]; omega
        rw [e, List.length_cons, Nat.add_mul]
        omega
    have h5 := h2 r fun y hy => h y (by simp [hy])
    have h6 := h a (by simp)
    rw [Lib.join_cons, List.length_append, List.length_cons, Nat.add_mul]
    omega
/-- Numbers with commas between them. -/
def numsT (l : List Int) : List UInt8 := Lib.join (l.map numI) [44]
theorem numI_small {x : Int} (h : 0 ≤ x ∧ x < 36) : numI x = num x.toNat ∧ (numI x).length ≤ 36 := by
  have e : numI x = num x.toNat := by rw [numI, if_neg (by omega)]
  refine ⟨e, ?_⟩
  have := num_len x.toNat
  rw [e]; omega
theorem numsT_len {l : List Int} (h : ∀ x ∈ l, 0 ≤ x ∧ x < 36) (hl : l.length ≤ 24) : (numsT l).length ≤ 888 := by
  have h1 := join_len (m := 36) [44] (l.map numI) (by
    intro x hx
    rw [List.mem_map] at hx
    obtain ⟨y, hy, rfl⟩ := hx
    exact (numI_small (h y hy)).2)
  rw [List.length_map] at h1
  simp only [List.length_cons, List.length_nil] at h1
  unfold numsT
  omega
theorem take_snoc {α : Type} {l : List α} {i : Nat} (h : i < l.length) : l.take (i + 1) = l.take i ++ [l[i]] := by rw [List.take_succ_eq_append_getElem h]
theorem join_take_len {α : Type} (f : α → List UInt8) (sep : List UInt8) {m : Nat} (l : List α) (i : Nat) (h : ∀ x ∈ l, (f x).length ≤ m) : (Lib.join ((l.take i).map f) sep).length ≤ l.length * (m + sep.length) := by
  have h1 := join_len (m := m) sep ((l.take i).map f) (by
    intro x hx
    rw [List.mem_map] at hx
    obtain ⟨y, hy, rfl⟩ := hx
    exact h y (List.mem_of_mem_take hy))
  rw [List.length_map, List.length_take] at h1
  exact Nat.le_trans h1 (Nat.mul_le_mul_right _ (by omega))
theorem itoaI_ok {x : Int} (h : 0 ≤ x ∧ x < 36) : FCr Tryz.prog 46 [RVi x] (RV.str (numI x)) := by
  have e := (numI_small h).1
  have := itoa_ok x.toNat (by omega)
  rw [e]
  rwa [show RVn x.toNat = RVi x from by show RV.v _ = RV.v _; rw [Int.toNat_of_nonneg h.1]] at this
theorem numbersText_ok (l : List Int) (h : ∀ x ∈ l, 0 ≤ x ∧ x < 36) (hl : l.length ≤ 24) : FCr Tryz.prog 24 [RIs l] (RV.str (numsT l)) := by
  have hb := numsT_len h hl
  unfold numsT at *
  refine (fcr_in Tryz.func24 rfl (by simp only [Tryz.ntmps24, anys, List.length_cons, List.length_nil, Nat.reduceAdd, Nat.reduceSub, List.replicate_succ, List.replicate_zero, List.cons_append, List.nil_append] <;> rfl) ?_)
  repeat' first
    | refine w_seq ?_
    | refine w_block ?_
    | refine rb_n ?_
    | refine rb_ret ?_
    | refine rb_eq ?_
    | refine rb_ne (by rfl) ?_
    | refine w_exit ?_
    | refine rt_exit ?_
    | refine w_region ?_
    | refine l_nil ?_
    | refine rt_n ?_
    | refine w_ret ?_
    | refine rt_ret ?_
    | refine w_skip ?_
    | refine w_cond_t rfl ?_
    | refine w_cond_f rfl ?_
    | refine w_cnd rfl (fun hc => ?_) (fun hc => ?_)
    | refine w_cd rfl (fun hc => ?_) (fun hc => ?_)
    | refine w_cn rfl (fun hc => ?_) (fun hc => ?_)
    | refine w_cond rfl (fun hc => ?_) (fun hc => ?_)
    | (refine l_o ?_; first | refine l_op (hk := ?_))
  refine w_loopm (ι := Nat × List (List UInt8)) (fun q => [(9, RVn q.1), (3, .ref 6 0 q.2.length), (6, .any), (5, .any)]) (fun q => [(6, 1, q.2.map RV.str)]) (fun q => q.1 ≤ l.length ∧ q.2.length = q.1 ∧ q.2 = (l.take q.1).map numI) (fun q => l.length - q.1) (0, []) (h0 := ?_) (hs := ?_) (round := ?_)
  · exact ⟨by omega, rfl, rfl⟩
  · refine le_eq (by (repeat' first | exact .nil | refine .keep ?_ | refine .any ?_); first | done | fail) rfl rfl
  · intro ⟨i, out⟩ ⟨hi, hol, hg⟩
    dsimp only at hi hol hg ⊢
    by_cases hil : i < l.length
    · have hI := itoaI_ok (h l[i] (List.getElem_mem hil))
      repeat' first
        | refine w_seq ?_
        | refine w_block ?_
        | refine rb_n ?_
        | refine rb_ret ?_
        | refine rb_eq ?_
        | refine rb_ne (by rfl) ?_
        | refine w_exit ?_
        | refine rt_exit ?_
        | refine w_region ?_
        | refine l_nil ?_
        | refine rt_n ?_
        | refine w_ret ?_
        | refine rt_ret ?_
        | refine w_skip ?_
        | refine w_cond_t rfl ?_
        | refine w_cond_f rfl ?_
        | refine w_cnd rfl (fun hc => ?_) (fun hc => ?_)
        | refine w_cd rfl (fun hc => ?_) (fun hc => ?_)
        | refine w_cn rfl (fun hc => ?_) (fun hc => ?_)
        | refine w_cond rfl (fun hc => ?_) (fun hc => ?_)
        | (exfalso; omega)
        | (refine l_o ?_; first | refine l_op rfl (by first | (apply k_callf; first | exact ops_callf (hfc := hI) | fail) | fail) (hk := ?_) | refine l_op (hk := ?_))
      refine rn_mk (i + 1, out ++ [numI l[i]]) ?_ (by first | omega | (dsimp only; omega)) (le_eq (by (repeat' first | exact .nil | refine .keep ?_ | refine .any ?_); first | done | fail) rfl rfl)
      refine ⟨by dsimp only; omega, by simp; omega, ?_⟩
      dsimp only
      rw [take_snoc hil, List.map_append, hg, List.map_cons, List.map_nil]
    · obtain rfl : i = l.length := by omega
      rw [List.take_length] at hg
      have hJ := join_ok out [44] (by omega) (by rw [hg]; omega)
      rw [← hg]
      repeat' first
        | refine w_seq ?_
        | refine w_block ?_
        | refine rb_n ?_
        | refine rb_ret ?_
        | refine rb_eq ?_
        | refine rb_ne (by rfl) ?_
        | refine w_exit ?_
        | refine rt_exit ?_
        | refine w_region ?_
        | refine l_nil ?_
        | refine rt_n ?_
        | refine w_ret ?_
        | refine rt_ret ?_
        | refine w_skip ?_
        | refine w_cond_t rfl ?_
        | refine w_cond_f rfl ?_
        | refine w_cnd rfl (fun hc => ?_) (fun hc => ?_)
        | refine w_cd rfl (fun hc => ?_) (fun hc => ?_)
        | refine w_cn rfl (fun hc => ?_) (fun hc => ?_)
        | refine w_cond rfl (fun hc => ?_) (fun hc => ?_)
        | (exfalso; omega)
        | (refine l_o ?_; first | refine l_op rfl (by first | (apply k_callf; first | exact ops_callm1 (d := 20) 6 (out.map RV.str) rfl rfl rfl (by kernel_rfl) hJ (by simp [nm]) (by simp [nm]) (by simp [ns]) (by simp [RV.resOkT, RV.resOk, RV.isAgg, nm]) (by simp [ns]) (by simp [nz, nm]) (by simp [nz, nm]) | fail) | fail) (hk := ?_) | refine l_op (hk := ?_))
      refine en_one (hf := Tryz.results24) (h := ?_); simp only [lget]; first | refine congrArg RVb ?_ | refine congrArg RVi ?_ | skip
/-- A place of a loop as a text. -/
def placeT (p : List Int × List Int) : List UInt8 := numsT p.1 ++ [124] ++ numsT p.2
def lpT (A B : List (List Int)) : List UInt8 := Lib.join ((A.zip B).map placeT) [59]
/-- A loop as a text; none where it isn't good or too long. -/
def lpText (A B : List (List Int)) : Option (List UInt8) := if goodLp A B then (if 4000 < (lpT A B).length then none else some (lpT A B)) else none
theorem goodT_memT {n : Int} (l : List Int) : ∀ p, -1 ≤ p → goodT n p l = true → ∀ x ∈ l, 0 ≤ x ∧ x < n := by
  induction l with
  | nil => intro p _ _ x hx; cases hx
  | cons y ys ih =>
    intro p hp h x hx
    simp only [goodT] at h
    split at h
    · cases h
    · rename_i hh
      have := ih y (by omega) h x
      rcases List.mem_cons.1 hx with rfl | hx
      · omega
      · exact this hx
theorem tgtOk_memT {n : Int} {l : List Int} (h : tgtOk n l = true) : ∀ x ∈ l, 0 ≤ x ∧ x < n := by
  unfold tgtOk at h
  split at h
  · cases h
  · exact goodT_memT l (-1) (by omega) h
theorem tgt_small {n : Nat} {l : List Int} (hn : n ≤ 36) (h : tgtOk n l = true) : (∀ x ∈ l, 0 ≤ x ∧ x < 36) ∧ l.length ≤ 24 := by
  refine ⟨fun x hx => ?_, tgtOk_len h⟩
  have := tgtOk_memT h x hx
  omega
theorem implText_ok (A B : List (List Int)) : FCr Tryz.prog 7 [RLp A B] (.tup [RV.str ((lpText A B).getD []), RVb (lpText A B).isSome]) := by
  have hG := implGood_ok A B
  unfold lpText
  cases hg : goodLp A B with
  | false =>
    rw [hg] at hG
    refine (fcr_in Tryz.func7 rfl (by simp only [Tryz.ntmps7, anys, List.length_cons, List.length_nil, Nat.reduceAdd, Nat.reduceSub, List.replicate_succ, List.replicate_zero, List.cons_append, List.nil_append] <;> rfl) ?_)
    repeat' first
      | refine w_seq ?_
      | refine w_block ?_
      | refine rb_n ?_
      | refine rb_ret ?_
      | refine rb_eq ?_
      | refine rb_ne (by rfl) ?_
      | refine w_exit ?_
      | refine rt_exit ?_
      | refine w_region ?_
      | refine l_nil ?_
      | refine rt_n ?_
      | refine w_ret ?_
      | refine rt_ret ?_
      | refine w_skip ?_
      | refine w_cond_t rfl ?_
      | refine w_cond_f rfl ?_
      | refine w_cnd rfl (fun hc => ?_) (fun hc => ?_)
      | refine w_cd rfl (fun hc => ?_) (fun hc => ?_)
      | refine w_cn rfl (fun hc => ?_) (fun hc => ?_)
      | refine w_cond rfl (fun hc => ?_) (fun hc => ?_)
      | (refine l_o ?_; first | refine l_op rfl (by first | (apply k_callf; first | exact ops_callz (hfc := hG) | fail) | fail) (hk := ?_) | refine l_op (hk := ?_))
      | refine d_nil ?_
      | (refine d_o ?_; first | refine d_fl (hk := ?_) | refine d_ef rfl (by first | exact .callz (hfc := hG) | fail) (hk := ?_) | refine d_ef (hk := ?_))
      | (refine w_o ?_; first | refine w_draw (id := 7) (fun _ => true) (fun k => [6, 13, 15, 16].contains k) [[], [], [], []] 64 (by kernel_rfl) rfl (by kernel_rfl) (by simp [nm, nset, -List.map_take, -List.map_drop]) ?_)
    refine en_end (hf := Tryz.results7) (hr := ?_); simp only [ne, nf, nl, nr, lget, reduceIte, Nat.reduceEqDiff]; first | rfl | refine congrArg RVb ?_ | refine congrArg RVi ?_ | skip
  | true =>
    rw [hg] at hG
    obtain ⟨a1, a2, a3, a4, a5⟩ := goodLp_small hg
    have hzl : (A.zip B).length = A.length := by rw [List.length_zip]; omega
    have hsm : ∀ x ∈ A.zip B, (placeT x).length ≤ 1777 := fun x hx => by
      obtain ⟨x1, x2⟩ := x
      have m := List.of_mem_zip hx
      have t1 := tgt_small a2 (a4 _ m.1)
      have t2 := tgt_small a2 (a5 _ m.2)
      have l1 := numsT_len t1.1 t1.2
      have l2 := numsT_len t2.1 t2.2
      simp only [placeT, List.length_append, List.length_cons, List.length_nil]
      omega
    have hb := join_take_len placeT [59] (m := 1777) (A.zip B) A.length hsm
    rw [List.take_of_length_le (by omega)] at hb
    simp only [List.length_cons, List.length_nil, hzl] at hb
    have k124 : ([124] : List UInt8).length = 1 := rfl
    rw [if_pos rfl]
    unfold lpT
    refine (fcr_in Tryz.func7 rfl (by simp only [Tryz.ntmps7, anys, List.length_cons, List.length_nil, Nat.reduceAdd, Nat.reduceSub, List.replicate_succ, List.replicate_zero, List.cons_append, List.nil_append] <;> rfl) ?_)
    repeat' first
      | refine w_seq ?_
      | refine w_block ?_
      | refine rb_n ?_
      | refine rb_ret ?_
      | refine rb_eq ?_
      | refine rb_ne (by rfl) ?_
      | refine w_exit ?_
      | refine rt_exit ?_
      | refine w_region ?_
      | refine l_nil ?_
      | refine rt_n ?_
      | refine w_ret ?_
      | refine rt_ret ?_
      | refine w_skip ?_
      | refine w_cond_t rfl ?_
      | refine w_cond_f rfl ?_
      | refine w_cnd rfl (fun hc => ?_) (fun hc => ?_)
      | refine w_cd rfl (fun hc => ?_) (fun hc => ?_)
      | refine w_cn rfl (fun hc => ?_) (fun hc => ?_)
      | refine w_cond rfl (fun hc => ?_) (fun hc => ?_)
      | (refine l_o ?_; first | refine l_op rfl (by first | (apply k_callf; first | exact ops_callz (hfc := hG) | fail) | fail) (hk := ?_) | refine l_op (hk := ?_))
      | refine d_nil ?_
      | (refine d_o ?_; first | refine d_fl (hk := ?_) | refine d_ef rfl (by first | exact .callz (hfc := hG) | fail) (hk := ?_) | refine d_ef (hk := ?_))
      | (refine w_o ?_; first | refine w_draw (id := 7) (fun _ => true) (fun k => [6, 13, 15, 16].contains k) [[], [], [], []] 64 (by kernel_rfl) rfl (by kernel_rfl) (by simp [nm, nset, -List.map_take, -List.map_drop]) ?_)
    refine w_loopm (ι := Nat × List (List UInt8)) (fun q => [(14, RVn q.1), (4, .ref 10 0 q.2.length), (10, .any), (5, .any)]) (fun q => [(10, 1, q.2.map RV.str), (1, 2, [RLp A B])]) (fun q => q.1 ≤ A.length ∧ q.2.length = q.1 ∧ q.2 = ((A.zip B).take q.1).map placeT) (fun q => A.length - q.1) (0, []) (h0 := ?_) (hs := ?_) (round := ?_)
    · exact ⟨by omega, rfl, rfl⟩
    · refine le_eq (by (repeat' first | exact .nil | refine .keep ?_ | refine .any ?_); first | done | fail) rfl rfl
    · intro ⟨i, out⟩ ⟨hi, hol, hg⟩
      dsimp only at hi hol hg ⊢
      by_cases hil : i < A.length
      · have hil2 : i < (A.zip B).length := by omega
        have hilB : i < B.length := by omega
        have hzi : (A.zip B)[i] = (A[i], B[i]) := List.getElem_zip
        have tA := tgt_small a2 (a4 _ (List.getElem_mem hil))
        have tB := tgt_small a2 (a5 _ (List.getElem_mem hilB))
        have hA := numbersText_ok A[i] tA.1 tA.2
        have hB := numbersText_ok B[i] tB.1 tB.2
        have n1 := numsT_len tA.1 tA.2
        have n2 := numsT_len tB.1 tB.2
        have k1 : (numsT A[i] ++ [124]).length = (numsT A[i]).length + 1 := by simp
        repeat' first
          | refine w_seq ?_
          | refine w_block ?_
          | refine rb_n ?_
          | refine rb_ret ?_
          | refine rb_eq ?_
          | refine rb_ne (by rfl) ?_
          | refine w_exit ?_
          | refine rt_exit ?_
          | refine w_region ?_
          | refine l_nil ?_
          | refine rt_n ?_
          | refine w_ret ?_
          | refine rt_ret ?_
          | refine w_skip ?_
          | refine w_cond_t rfl ?_
          | refine w_cond_f rfl ?_
          | refine w_cnd rfl (fun hc => ?_) (fun hc => ?_)
          | refine w_cd rfl (fun hc => ?_) (fun hc => ?_)
          | refine w_cn rfl (fun hc => ?_) (fun hc => ?_)
          | refine w_cond rfl (fun hc => ?_) (fun hc => ?_)
          | (exfalso; omega)
          | (refine l_o ?_; first | refine l_op rfl (by first | (apply k_callf; first | exact ops_callf (d := 23) (hfc := hA) | exact ops_callf (d := 30) (hfc := hB) | fail) | fail) (hk := ?_) | refine l_op (hk := ?_))
          | refine e_nil ?_
          | (refine e_o ?_; first | refine e_fl rfl (by first | exact .pl (by first | (apply q_callf; first | exact fs_callf (d := 23) (hfc := hA) | exact fs_callf (d := 30) (hfc := hB) | fail) | fail) | fail) (hk := ?_) | refine e_fl (hk := ?_) | refine e_ef (hk := ?_))
          | (refine w_o ?_; first | refine w_drawS (id := 7) (rdP [(1,1),(2,1),(8,1),(9,1)]) (fun k => [15, 16, 17].contains k) [[32],[133],[]] (by kernel_rfl) rfl (by kernel_rfl) (by simp [nm, nset, -List.map_take, -List.map_drop]) ?_)
        refine rn_mk (i + 1, out ++ [placeT (A[i], B[i])]) ?_ (by first | omega | (dsimp only; omega)) (le_trans (le_kill 10 (by simp only [nz, nf, nl, nb, nr, ng, nq, nu, reduceIte, Nat.reduceEqDiff, Nat.reduceAdd]; rfl)) (le_trans (le_ren 133 10 (by decide) (by decide) (by simp [nm, ng, renL_id, -List.map_append, -List.map_take, -List.map_drop]) (by simp [nm, ng, renL_id, onames, -List.map_append, -List.map_take, -List.map_drop]) (by simp only [ng, nm, nu, renL_id, reduceIte, Nat.reduceEqDiff]; rfl) (by simp only [ng, nm, nu, renL_id, reduceIte, Nat.reduceEqDiff]; rfl)) (le_eq (by (repeat' first | exact .nil | refine .keep ?_ | refine .any ?_); first | done | fail) rfl rfl)))
        refine ⟨by dsimp only; omega, by simp; omega, ?_⟩
        dsimp only
        rw [take_snoc hil2, List.map_append, hg, List.map_cons, List.map_nil, hzi]
      · obtain rfl : i = A.length := by omega
        rw [List.take_of_length_le (by omega)] at hg
        have hJ := join_ok out [59] (by omega) (by rw [hg]; omega)
        rw [← hg]
        rw [← hg] at hb
        repeat' first
          | refine w_seq ?_
          | refine w_block ?_
          | refine rb_n ?_
          | refine rb_ret ?_
          | refine rb_eq ?_
          | refine rb_ne (by rfl) ?_
          | refine w_exit ?_
          | refine rt_exit ?_
          | refine w_region ?_
          | refine l_nil ?_
          | refine rt_n ?_
          | refine w_ret ?_
          | refine rt_ret ?_
          | refine w_skip ?_
          | refine w_cond_t rfl ?_
          | refine w_cond_f rfl ?_
          | refine w_cnd rfl (fun hc => ?_) (fun hc => ?_)
          | refine w_cd rfl (fun hc => ?_) (fun hc => ?_)
          | refine w_cn rfl (fun hc => ?_) (fun hc => ?_)
          | refine w_cond rfl (fun hc => ?_) (fun hc => ?_)
          | (exfalso; omega)
          | (refine l_o ?_; first | refine l_op rfl (by first | (apply k_callf; first | exact ops_callm1 (d := 36) 10 (out.map RV.str) rfl rfl rfl (by kernel_rfl) hJ (by simp [nm]) (by simp [nm]) (by simp [ns]) (by simp [RV.resOkT, RV.resOk, RV.isAgg, nm]) (by simp [ns]) (by simp [nz, nm]) (by simp [nz, nm]) | fail) | fail) (hk := ?_) | refine l_op (hk := ?_))
          | refine d_nil ?_
          | (refine d_o ?_; first | refine d_fl (hk := ?_) | refine d_ef (hk := ?_))
          | (refine w_o ?_; first | refine w_draw (id := 7) (fun _ => true) (fun k => [6, 13, 15, 16].contains k) [[], [], [], []] 64 (by kernel_rfl) rfl (by kernel_rfl) (by simp [nm, nset, -List.map_take, -List.map_drop]) ?_)
        · rw [if_pos (by omega)]
          refine en_end (hf := Tryz.results7) (hr := ?_); simp only [ne, nf, nl, nr, lget, reduceIte, Nat.reduceEqDiff]; first | rfl | refine congrArg RVb ?_ | refine congrArg RVi ?_ | skip
        · rw [if_neg (by omega)]
          refine en_end (hf := Tryz.results7) (hr := ?_); simp only [ne, nf, nl, nr, lget, reduceIte, Nat.reduceEqDiff]; first | rfl | refine congrArg RVb ?_ | refine congrArg RVi ?_ | skip
end Go.Proofs.YtpcckakchpblcaaGreatDoor
