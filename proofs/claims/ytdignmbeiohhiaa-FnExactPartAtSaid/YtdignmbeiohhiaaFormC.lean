/- Lists of places compared; the least and the first: the program's and the reference's. For all lists. -/
import Derived.Test.YtdignmbeiohhiaaFormB
import Derived.Test.YtdignmbeiohhiaaOpsN
namespace Go.Proofs.Ytdignmbeiohhiaa
open Eng
attribute [local irreducible] OpS OpG FC FCr Rel Fl Ef DR Fs
set_option linter.unusedSimpArgs false
set_option maxHeartbeats 0
set_option maxRecDepth 100000

def cmpN (x y : Nat) : Int := if x < y then -1 else if x = y then 0 else 1
def cmpL (a b : List Nat) : Int := if ltL a b = true then -1 else if a = b then 0 else 1
theorem cmpL_cons (x y : Nat) (a b : List Nat) : cmpL (x :: a) (y :: b) = if x = y then cmpL a b else cmpN x y := by
  unfold cmpL cmpN
  rw [ltL]
  by_cases e : x = y
  · subst e; rw [if_pos rfl, if_pos rfl]; simp
  · rw [if_neg e, if_neg e, if_neg e]
    by_cases h : x < y
    · rw [if_pos (decide_eq_true h), if_pos h]
    · rw [if_neg (by simpa using h), if_neg h, if_neg]
      intro h2; injection h2 with h3 _; exact e h3
theorem cmpL_at {a b : List Nat} {i : Nat} (h : i < a.length) (h2 : i < b.length) : cmpL (a.drop i) (b.drop i) = if a[i] = b[i] then cmpL (a.drop (i + 1)) (b.drop (i + 1)) else cmpN a[i] b[i] := by
  rw [List.drop_eq_getElem_cons h, List.drop_eq_getElem_cons h2, cmpL_cons]
theorem cmpL_lt {a : List Nat} (h : a ≠ []) : cmpL [] a = -1 := by
  cases a with
  | nil => exact absurd rfl h
  | cons _ _ => rfl
theorem cmpL_gt {a : List Nat} (h : a ≠ []) : cmpL a [] = 1 := by
  cases a with
  | nil => exact absurd rfl h
  | cons _ _ => rfl
theorem cmpL_ge (a b : List Nat) : cmpL a b < 0 ↔ ltL a b = true := by
  unfold cmpL; split
  · simp_all
  · split <;> simp_all
theorem cmpL_zero (a b : List Nat) : cmpL a b = 0 ↔ a = b := by
  unfold cmpL; split
  · rename_i h
    constructor
    · intro h2; omega
    · intro h2; rw [h2, ltL_irr] at h; cases h
  · split <;> simp_all
theorem isNaN_ok (x : Int) : FCr Try.prog 133 [RVi x] (RVb false) := by
  refine (fcr_in Try.func133 rfl (by simp only [Try.ntmps133, anys, List.length_cons, List.length_nil, Nat.reduceAdd, Nat.reduceSub, List.replicate_succ, List.replicate_zero, List.cons_append, List.nil_append] <;> rfl) ?_)
  repeat' first
    | refine w_seq ?_
    | refine w_region ?_
    | refine l_nil ?_
    | refine rt_n ?_
    | refine w_ret ?_
    | refine rt_ret ?_
    | refine w_skip ?_
    | (refine l_o ?_; first | refine l_op (hk := ?_))
  refine en_one (hf := Try.results133) (h := ?_); simp only [lget]; first | refine congrArg RVb ?_ | refine congrArg RVi ?_ | skip
  simp
theorem cmpCompare_ok (x y : Nat) : FCr Try.prog 92 [RVn x, RVn y] (RVi (cmpN x y)) := by
  unfold cmpN
  refine (fcr_in Try.func92 rfl (by simp only [Try.ntmps92, anys, List.length_cons, List.length_nil, Nat.reduceAdd, Nat.reduceSub, List.replicate_succ, List.replicate_zero, List.cons_append, List.nil_append] <;> rfl) ?_)
  repeat' first
    | refine w_seq ?_
    | refine w_region ?_
    | refine l_nil ?_
    | refine rt_n ?_
    | refine w_ret ?_
    | refine rt_ret ?_
    | refine w_skip ?_
    | refine w_cond_t rfl ?_
    | refine w_cond_f rfl ?_
    | refine w_cnd rfl (fun hc => ?_) (fun hc => ?_)
    | refine w_cd rfl (fun hc => ?_) (fun hc => ?_)
    | refine w_cn rfl (fun hc => ?_) (fun hc => ?_)
    | refine w_cond rfl (fun hc => ?_) (fun hc => ?_)
    | (refine l_o ?_; first | refine l_op rfl (by first | (apply k_callf; first | exact ops_callf (d := 8) (hfc := isNaN_ok x) | exact ops_callf (d := 10) (hfc := isNaN_ok y) | fail) | fail) (hk := ?_) | refine l_op (hk := ?_))
  · refine en_one (hf := Try.results92) (h := ?_); simp only [lget]; first | refine congrArg RVb ?_ | refine congrArg RVi ?_ | skip
    rw [if_pos (by omega)]
  · refine en_one (hf := Try.results92) (h := ?_); simp only [lget]; first | refine congrArg RVb ?_ | refine congrArg RVi ?_ | skip
    rw [if_neg (by omega), if_neg (by omega)]
  · refine en_one (hf := Try.results92) (h := ?_); simp only [lget]; first | refine congrArg RVb ?_ | refine congrArg RVi ?_ | skip
    rw [if_neg (by omega), if_pos (by omega)]
theorem slicesCompare_ok (a b : List Nat) : FCr Try.prog 93 [RNs a, RNs b] (RVi (cmpL a b)) := by
  refine fcr_lens fun hL => ?_
  simp only [lnk] at hL
  refine (fcr_in Try.func93 rfl (by simp only [Try.ntmps93, anys, List.length_cons, List.length_nil, Nat.reduceAdd, Nat.reduceSub, List.replicate_succ, List.replicate_zero, List.cons_append, List.nil_append] <;> rfl) ?_)
  repeat' first
    | refine w_seq ?_
    | refine w_block ?_
    | refine rb_n ?_
    | refine rb_ret ?_
    | refine rb_eq ?_
    | refine rb_ne (by rfl) ?_
    | refine w_exit ?_
    | refine rt_exit ?_
    | refine w_region ?_
    | refine l_nil ?_
    | refine rt_n ?_
    | refine w_ret ?_
    | refine rt_ret ?_
    | refine w_skip ?_
    | refine w_cond_t rfl ?_
    | refine w_cond_f rfl ?_
    | refine w_cnd rfl (fun hc => ?_) (fun hc => ?_)
    | refine w_cd rfl (fun hc => ?_) (fun hc => ?_)
    | refine w_cn rfl (fun hc => ?_) (fun hc => ?_)
    | refine w_cond rfl (fun hc => ?_) (fun hc => ?_)
    | (refine l_o ?_; first | refine l_op (hk := ?_))
  refine w_loopm (ι := Nat) (fun k => [(11, RVn k)]) (fun _ => []) (fun k => k ≤ a.length ∧ k ≤ b.length ∧ cmpL (a.drop k) (b.drop k) = cmpL a b) (fun k => a.length - k) 0 (h0 := ?_) (hs := ?_) (round := ?_)
  · exact ⟨by omega, by omega, rfl⟩
  · refine le_eq (by (repeat' first | exact .nil | refine .keep ?_ | refine .any ?_); first | done | fail) rfl rfl
  · intro k ⟨hk, hk2, hg⟩
    by_cases h1 : k < a.length
    · by_cases h2 : k < b.length
      · have hC := cmpCompare_ok a[k] b[k]
        rw [cmpL_at h1 h2] at hg
        by_cases he : a[k] = b[k]
        · rw [if_pos he] at hg
          rw [show cmpN a[k] b[k] = 0 by unfold cmpN; rw [if_neg (by omega), if_pos he]] at hC
          repeat' first
            | refine w_seq ?_
            | refine w_block ?_
            | refine rb_n ?_
            | refine rb_ret ?_
            | refine rb_eq ?_
            | refine rb_ne (by rfl) ?_
            | refine w_exit ?_
            | refine rt_exit ?_
            | refine w_region ?_
            | refine l_nil ?_
            | refine rt_n ?_
            | refine w_ret ?_
            | refine rt_ret ?_
            | refine w_skip ?_
            | refine w_cond_t rfl ?_
            | refine w_cond_f rfl ?_
            | refine w_cnd rfl (fun hc => ?_) (fun hc => ?_)
            | refine w_cd rfl (fun hc => ?_) (fun hc => ?_)
            | refine w_cn rfl (fun hc => ?_) (fun hc => ?_)
            | refine w_cond rfl (fun hc => ?_) (fun hc => ?_)
            | (exfalso; omega)
            | (exfalso; exact absurd rfl hc)
            | (refine l_o ?_; first | refine l_op rfl (by first | (apply k_callf; first | exact ops_callf (hfc := hC) | fail) | fail) (hk := ?_) | refine l_op (hk := ?_))
          refine rn_mk (k + 1) ?_ (by first | omega | (dsimp only; omega)) (le_eq (by (repeat' first | exact .nil | refine .keep ?_ | refine .any ?_); first | done | fail) rfl rfl)
          exact ⟨by omega, by omega, hg⟩
        · rw [if_neg he] at hg
          have hn : cmpN a[k] b[k] ≠ 0 := by unfold cmpN; split <;> (try split) <;> omega
          generalize cmpN a[k] b[k] = v at *
          repeat' first
            | refine w_seq ?_
            | refine w_block ?_
            | refine rb_n ?_
            | refine rb_ret ?_
            | refine rb_eq ?_
            | refine rb_ne (by rfl) ?_
            | refine w_exit ?_
            | refine rt_exit ?_
            | refine w_region ?_
            | refine l_nil ?_
            | refine rt_n ?_
            | refine w_ret ?_
            | refine rt_ret ?_
            | refine w_skip ?_
            | refine w_cond_t rfl ?_
            | refine w_cond_f rfl ?_
            | refine w_cnd rfl (fun hc => ?_) (fun hc => ?_)
            | refine w_cd rfl (fun hc => ?_) (fun hc => ?_)
            | refine w_cn rfl (fun hc => ?_) (fun hc => ?_)
            | refine w_cond rfl (fun hc => ?_) (fun hc => ?_)
            | (exfalso; omega)
            | (exfalso; exact hn (by first | assumption | omega))
            | (refine l_o ?_; first | refine l_op rfl (by first | (apply k_callf; first | exact ops_callf (hfc := hC) | fail) | fail) (hk := ?_) | refine l_op (hk := ?_))
          refine en_one (hf := Try.results93) (h := ?_); simp only [lget]; first | refine congrArg RVb ?_ | refine congrArg RVi ?_ | skip
          exact hg
      · repeat' first
          | refine w_seq ?_
          | refine w_block ?_
          | refine rb_n ?_
          | refine rb_ret ?_
          | refine rb_eq ?_
          | refine rb_ne (by rfl) ?_
          | refine w_exit ?_
          | refine rt_exit ?_
          | refine w_region ?_
          | refine l_nil ?_
          | refine rt_n ?_
          | refine w_ret ?_
          | refine rt_ret ?_
          | refine w_skip ?_
          | refine w_cond_t rfl ?_
          | refine w_cond_f rfl ?_
          | refine w_cnd rfl (fun hc => ?_) (fun hc => ?_)
          | refine w_cd rfl (fun hc => ?_) (fun hc => ?_)
          | refine w_cn rfl (fun hc => ?_) (fun hc => ?_)
          | refine w_cond rfl (fun hc => ?_) (fun hc => ?_)
          | (exfalso; omega)
          | (refine l_o ?_; first | refine l_op (hk := ?_))
        rw [show b.drop k = [] from List.drop_eq_nil_of_le (by omega), cmpL_gt (fun e => by have := List.drop_eq_nil_iff.1 e; omega)] at hg
        refine en_one (hf := Try.results93) (h := ?_); simp only [lget]; first | refine congrArg RVb ?_ | refine congrArg RVi ?_ | skip
        exact hg
    · rw [show a.drop k = [] from List.drop_eq_nil_of_le (by omega)] at hg
      repeat' first
        | refine w_seq ?_
        | refine w_block ?_
        | refine rb_n ?_
        | refine rb_ret ?_
        | refine rb_eq ?_
        | refine rb_ne (by rfl) ?_
        | refine w_exit ?_
        | refine rt_exit ?_
        | refine w_region ?_
        | refine l_nil ?_
        | refine rt_n ?_
        | refine w_ret ?_
        | refine rt_ret ?_
        | refine w_skip ?_
        | refine w_cond_t rfl ?_
        | refine w_cond_f rfl ?_
        | refine w_cnd rfl (fun hc => ?_) (fun hc => ?_)
        | refine w_cd rfl (fun hc => ?_) (fun hc => ?_)
        | refine w_cn rfl (fun hc => ?_) (fun hc => ?_)
        | refine w_cond rfl (fun hc => ?_) (fun hc => ?_)
        | (exfalso; omega)
        | (refine l_o ?_; first | refine l_op (hk := ?_))
      · refine en_one (hf := Try.results93) (h := ?_); simp only [lget]; first | refine congrArg RVb ?_ | refine congrArg RVi ?_ | skip
        rw [cmpL_lt (fun e => by have := List.drop_eq_nil_iff.1 e; omega)] at hg
        exact hg
      · refine en_one (hf := Try.results93) (h := ?_); simp only [lget]; first | refine congrArg RVb ?_ | refine congrArg RVi ?_ | skip
        rw [show b.drop k = [] from List.drop_eq_nil_of_le (by omega)] at hg
        exact hg
theorem l3List_ok (a b : List Nat) : FCr Try.prog 177 [RNs a, RNs b] (RVi (cmpL a b)) := by
  refine fcr_lens fun hL => ?_
  simp only [lnk] at hL
  refine (fcr_in Try.func177 rfl (by simp only [Try.ntmps177, anys, List.length_cons, List.length_nil, Nat.reduceAdd, Nat.reduceSub, List.replicate_succ, List.replicate_zero, List.cons_append, List.nil_append] <;> rfl) ?_)
  repeat' first
    | refine w_seq ?_
    | refine w_block ?_
    | refine rb_n ?_
    | refine rb_ret ?_
    | refine rb_eq ?_
    | refine rb_ne (by rfl) ?_
    | refine w_exit ?_
    | refine rt_exit ?_
    | refine w_region ?_
    | refine l_nil ?_
    | refine rt_n ?_
    | refine w_ret ?_
    | refine rt_ret ?_
    | refine w_skip ?_
    | refine w_cond_t rfl ?_
    | refine w_cond_f rfl ?_
    | refine w_cnd rfl (fun hc => ?_) (fun hc => ?_)
    | refine w_cd rfl (fun hc => ?_) (fun hc => ?_)
    | refine w_cn rfl (fun hc => ?_) (fun hc => ?_)
    | refine w_cond rfl (fun hc => ?_) (fun hc => ?_)
    | (refine l_o ?_; first | refine l_op (hk := ?_) | (refine l_g ?_; first | refine l_y rfl rfl rfl ?_ | refine l_n rfl rfl rfl rfl (hk := ?_) | refine l_n' rfl rfl rfl (hk := ?_) | refine l_spnd rfl rfl rfl (h1 := fun hc => ?_) (h2 := fun hc => ?_) | refine l_spd rfl rfl rfl (h1 := fun hc => ?_) (h2 := fun hc => ?_) | refine l_spn rfl rfl rfl (h1 := fun hc => ?_) (h2 := fun hc => ?_) | refine l_sp rfl rfl rfl (h1 := fun hc => ?_) (h2 := fun hc => ?_)))
    | refine d_nil ?_
    | (refine d_o ?_; first | refine d_fl (hk := ?_) | refine d_ef (hk := ?_) | (refine d_g ?_; first | refine d_spnd rfl rfl rfl (h1 := fun hc => ?_) (h2 := fun hc => ?_) | refine d_spd rfl rfl rfl (h1 := fun hc => ?_) (h2 := fun hc => ?_) | refine d_spn rfl rfl rfl (h1 := fun hc => ?_) (h2 := fun hc => ?_) | refine d_sp rfl rfl rfl (h1 := fun hc => ?_) (h2 := fun hc => ?_)))
    | (refine w_o ?_; first | refine w_draw (id := 4) (fun _ => true) (fun k => [].contains k) [] 64 (by kernel_rfl) rfl (by kernel_rfl) (by simp [nm, nset, -List.map_take, -List.map_drop]) ?_ | refine w_draw (id := 5) (fun _ => true) (fun k => [].contains k) [] 64 (by kernel_rfl) rfl (by kernel_rfl) (by simp [nm, nset, -List.map_take, -List.map_drop]) ?_)
  refine w_loopm (ι := Nat) (fun k => [(5, RVn k)]) (fun _ => []) (fun k => k ≤ a.length ∧ k ≤ b.length ∧ cmpL (a.drop k) (b.drop k) = cmpL a b) (fun k => a.length - k) 0 (h0 := ?_) (hs := ?_) (round := ?_)
  · exact ⟨by omega, by omega, rfl⟩
  · refine le_eq (by (repeat' first | exact .nil | refine .keep ?_ | refine .any ?_); first | done | fail) rfl rfl
  · intro k ⟨hk, hk2, hg⟩
    by_cases h1 : k < a.length
    · by_cases h2 : k < b.length
      · rw [cmpL_at h1 h2] at hg
        by_cases he : a[k] = b[k]
        · rw [if_pos he] at hg
          repeat' first
            | refine w_seq ?_
            | refine w_block ?_
            | refine rb_n ?_
            | refine rb_ret ?_
            | refine rb_eq ?_
            | refine rb_ne (by rfl) ?_
            | refine w_exit ?_
            | refine rt_exit ?_
            | refine w_region ?_
            | refine l_nil ?_
            | refine rt_n ?_
            | refine w_ret ?_
            | refine rt_ret ?_
            | refine w_skip ?_
            | refine w_cond_t rfl ?_
            | refine w_cond_f rfl ?_
            | refine w_cnd rfl (fun hc => ?_) (fun hc => ?_)
            | refine w_cd rfl (fun hc => ?_) (fun hc => ?_)
            | refine w_cn rfl (fun hc => ?_) (fun hc => ?_)
            | refine w_cond rfl (fun hc => ?_) (fun hc => ?_)
            | (exfalso; omega)
            | (refine l_o ?_; first | refine l_op (hk := ?_) | (refine l_g ?_; first | refine l_y rfl rfl rfl ?_ | refine l_n rfl rfl rfl rfl (hk := ?_) | refine l_n' rfl rfl rfl (hk := ?_) | refine l_spnd rfl rfl rfl (h1 := fun hc => ?_) (h2 := fun hc => ?_) | refine l_spd rfl rfl rfl (h1 := fun hc => ?_) (h2 := fun hc => ?_) | refine l_spn rfl rfl rfl (h1 := fun hc => ?_) (h2 := fun hc => ?_) | refine l_sp rfl rfl rfl (h1 := fun hc => ?_) (h2 := fun hc => ?_)))
            | refine d_nil ?_
            | (refine d_o ?_; first | refine d_fl (hk := ?_) | refine d_ef (hk := ?_) | (refine d_g ?_; first | refine d_spnd rfl rfl rfl (h1 := fun hc => ?_) (h2 := fun hc => ?_) | refine d_spd rfl rfl rfl (h1 := fun hc => ?_) (h2 := fun hc => ?_) | refine d_spn rfl rfl rfl (h1 := fun hc => ?_) (h2 := fun hc => ?_) | refine d_sp rfl rfl rfl (h1 := fun hc => ?_) (h2 := fun hc => ?_)))
            | (refine w_o ?_; first | refine w_draw (id := 4) (fun _ => true) (fun k => [].contains k) [] 64 (by kernel_rfl) rfl (by kernel_rfl) (by simp [nm, nset, -List.map_take, -List.map_drop]) ?_ | refine w_draw (id := 5) (fun _ => true) (fun k => [].contains k) [] 64 (by kernel_rfl) rfl (by kernel_rfl) (by simp [nm, nset, -List.map_take, -List.map_drop]) ?_)
          refine rn_mk (k + 1) ?_ (by first | omega | (dsimp only; omega)) (le_eq (by (repeat' first | exact .nil | refine .keep ?_ | refine .any ?_); first | done | fail) rfl rfl)
          exact ⟨by omega, by omega, hg⟩
        · rw [if_neg he] at hg
          by_cases hl : a[k] < b[k]
          · rw [cmpN, if_pos hl] at hg
            repeat' first
              | refine w_seq ?_
              | refine w_block ?_
              | refine rb_n ?_
              | refine rb_ret ?_
              | refine rb_eq ?_
              | refine rb_ne (by rfl) ?_
              | refine w_exit ?_
              | refine rt_exit ?_
              | refine w_region ?_
              | refine l_nil ?_
              | refine rt_n ?_
              | refine w_ret ?_
              | refine rt_ret ?_
              | refine w_skip ?_
              | refine w_cond_t rfl ?_
              | refine w_cond_f rfl ?_
              | refine w_cnd rfl (fun hc => ?_) (fun hc => ?_)
              | refine w_cd rfl (fun hc => ?_) (fun hc => ?_)
              | refine w_cn rfl (fun hc => ?_) (fun hc => ?_)
              | refine w_cond rfl (fun hc => ?_) (fun hc => ?_)
              | (exfalso; omega)
              | (refine l_o ?_; first | refine l_op (hk := ?_) | (refine l_g ?_; first | refine l_y rfl rfl rfl ?_ | refine l_n rfl rfl rfl rfl (hk := ?_) | refine l_n' rfl rfl rfl (hk := ?_) | refine l_spnd rfl rfl rfl (h1 := fun hc => ?_) (h2 := fun hc => ?_) | refine l_spd rfl rfl rfl (h1 := fun hc => ?_) (h2 := fun hc => ?_) | refine l_spn rfl rfl rfl (h1 := fun hc => ?_) (h2 := fun hc => ?_) | refine l_sp rfl rfl rfl (h1 := fun hc => ?_) (h2 := fun hc => ?_)))
              | refine d_nil ?_
              | (refine d_o ?_; first | refine d_fl (hk := ?_) | refine d_ef (hk := ?_) | (refine d_g ?_; first | refine d_spnd rfl rfl rfl (h1 := fun hc => ?_) (h2 := fun hc => ?_) | refine d_spd rfl rfl rfl (h1 := fun hc => ?_) (h2 := fun hc => ?_) | refine d_spn rfl rfl rfl (h1 := fun hc => ?_) (h2 := fun hc => ?_) | refine d_sp rfl rfl rfl (h1 := fun hc => ?_) (h2 := fun hc => ?_)))
              | (refine w_o ?_; first | refine w_draw (id := 4) (fun _ => true) (fun k => [].contains k) [] 64 (by kernel_rfl) rfl (by kernel_rfl) (by simp [nm, nset, -List.map_take, -List.map_drop]) ?_ | refine w_draw (id := 5) (fun _ => true) (fun k => [].contains k) [] 64 (by kernel_rfl) rfl (by kernel_rfl) (by simp [nm, nset, -List.map_take, -List.map_drop]) ?_)
            refine en_one (hf := Try.results177) (h := ?_); simp only [lget]; first | refine congrArg RVb ?_ | refine congrArg RVi ?_ | skip
            exact hg
          · rw [cmpN, if_neg hl, if_neg he] at hg
            repeat' first
              | refine w_seq ?_
              | refine w_block ?_
              | refine rb_n ?_
              | refine rb_ret ?_
              | refine rb_eq ?_
              | refine rb_ne (by rfl) ?_
              | refine w_exit ?_
              | refine rt_exit ?_
              | refine w_region ?_
              | refine l_nil ?_
              | refine rt_n ?_
              | refine w_ret ?_
              | refine rt_ret ?_
              | refine w_skip ?_
              | refine w_cond_t rfl ?_
              | refine w_cond_f rfl ?_
              | refine w_cnd rfl (fun hc => ?_) (fun hc => ?_)
              | refine w_cd rfl (fun hc => ?_) (fun hc => ?_)
              | refine w_cn rfl (fun hc => ?_) (fun hc => ?_)
              | refine w_cond rfl (fun hc => ?_) (fun hc => ?_)
              | (exfalso; omega)
              | (refine l_o ?_; first | refine l_op (hk := ?_) | (refine l_g ?_; first | refine l_y rfl rfl rfl ?_ | refine l_n rfl rfl rfl rfl (hk := ?_) | refine l_n' rfl rfl rfl (hk := ?_) | refine l_spnd rfl rfl rfl (h1 := fun hc => ?_) (h2 := fun hc => ?_) | refine l_spd rfl rfl rfl (h1 := fun hc => ?_) (h2 := fun hc => ?_) | refine l_spn rfl rfl rfl (h1 := fun hc => ?_) (h2 := fun hc => ?_) | refine l_sp rfl rfl rfl (h1 := fun hc => ?_) (h2 := fun hc => ?_)))
              | refine d_nil ?_
              | (refine d_o ?_; first | refine d_fl (hk := ?_) | refine d_ef (hk := ?_) | (refine d_g ?_; first | refine d_spnd rfl rfl rfl (h1 := fun hc => ?_) (h2 := fun hc => ?_) | refine d_spd rfl rfl rfl (h1 := fun hc => ?_) (h2 := fun hc => ?_) | refine d_spn rfl rfl rfl (h1 := fun hc => ?_) (h2 := fun hc => ?_) | refine d_sp rfl rfl rfl (h1 := fun hc => ?_) (h2 := fun hc => ?_)))
              | (refine w_o ?_; first | refine w_draw (id := 4) (fun _ => true) (fun k => [].contains k) [] 64 (by kernel_rfl) rfl (by kernel_rfl) (by simp [nm, nset, -List.map_take, -List.map_drop]) ?_ | refine w_draw (id := 5) (fun _ => true) (fun k => [].contains k) [] 64 (by kernel_rfl) rfl (by kernel_rfl) (by simp [nm, nset, -List.map_take, -List.map_drop]) ?_)
            refine en_one (hf := Try.results177) (h := ?_); simp only [lget]; first | refine congrArg RVb ?_ | refine congrArg RVi ?_ | skip
            exact hg
      · rw [show b.drop k = [] from List.drop_eq_nil_of_le (by omega), cmpL_gt (fun e => by have := List.drop_eq_nil_iff.1 e; omega)] at hg
        repeat' first
          | refine w_seq ?_
          | refine w_block ?_
          | refine rb_n ?_
          | refine rb_ret ?_
          | refine rb_eq ?_
          | refine rb_ne (by rfl) ?_
          | refine w_exit ?_
          | refine rt_exit ?_
          | refine w_region ?_
          | refine l_nil ?_
          | refine rt_n ?_
          | refine w_ret ?_
          | refine rt_ret ?_
          | refine w_skip ?_
          | refine w_cond_t rfl ?_
          | refine w_cond_f rfl ?_
          | refine w_cnd rfl (fun hc => ?_) (fun hc => ?_)
          | refine w_cd rfl (fun hc => ?_) (fun hc => ?_)
          | refine w_cn rfl (fun hc => ?_) (fun hc => ?_)
          | refine w_cond rfl (fun hc => ?_) (fun hc => ?_)
          | (exfalso; omega)
          | (refine l_o ?_; first | refine l_op (hk := ?_) | (refine l_g ?_; first | refine l_y rfl rfl rfl ?_ | refine l_n rfl rfl rfl rfl (hk := ?_) | refine l_n' rfl rfl rfl (hk := ?_) | refine l_spnd rfl rfl rfl (h1 := fun hc => ?_) (h2 := fun hc => ?_) | refine l_spd rfl rfl rfl (h1 := fun hc => ?_) (h2 := fun hc => ?_) | refine l_spn rfl rfl rfl (h1 := fun hc => ?_) (h2 := fun hc => ?_) | refine l_sp rfl rfl rfl (h1 := fun hc => ?_) (h2 := fun hc => ?_)))
          | refine d_nil ?_
          | (refine d_o ?_; first | refine d_fl (hk := ?_) | refine d_ef (hk := ?_) | (refine d_g ?_; first | refine d_spnd rfl rfl rfl (h1 := fun hc => ?_) (h2 := fun hc => ?_) | refine d_spd rfl rfl rfl (h1 := fun hc => ?_) (h2 := fun hc => ?_) | refine d_spn rfl rfl rfl (h1 := fun hc => ?_) (h2 := fun hc => ?_) | refine d_sp rfl rfl rfl (h1 := fun hc => ?_) (h2 := fun hc => ?_)))
          | (refine w_o ?_; first | refine w_draw (id := 4) (fun _ => true) (fun k => [].contains k) [] 64 (by kernel_rfl) rfl (by kernel_rfl) (by simp [nm, nset, -List.map_take, -List.map_drop]) ?_ | refine w_draw (id := 5) (fun _ => true) (fun k => [].contains k) [] 64 (by kernel_rfl) rfl (by kernel_rfl) (by simp [nm, nset, -List.map_take, -List.map_drop]) ?_)
        refine en_one (hf := Try.results177) (h := ?_); simp only [lget]; first | refine congrArg RVb ?_ | refine congrArg RVi ?_ | skip
        exact hg
    · rw [show a.drop k = [] from List.drop_eq_nil_of_le (by omega)] at hg
      by_cases h2 : k < b.length
      · rw [cmpL_lt (fun e => by have := List.drop_eq_nil_iff.1 e; omega)] at hg
        repeat' first
          | refine w_seq ?_
          | refine w_block ?_
          | refine rb_n ?_
          | refine rb_ret ?_
          | refine rb_eq ?_
          | refine rb_ne (by rfl) ?_
          | refine w_exit ?_
          | refine rt_exit ?_
          | refine w_region ?_
          | refine l_nil ?_
          | refine rt_n ?_
          | refine w_ret ?_
          | refine rt_ret ?_
          | refine w_skip ?_
          | refine w_cond_t rfl ?_
          | refine w_cond_f rfl ?_
          | refine w_cnd rfl (fun hc => ?_) (fun hc => ?_)
          | refine w_cd rfl (fun hc => ?_) (fun hc => ?_)
          | refine w_cn rfl (fun hc => ?_) (fun hc => ?_)
          | refine w_cond rfl (fun hc => ?_) (fun hc => ?_)
          | (exfalso; omega)
          | (refine l_o ?_; first | refine l_op (hk := ?_) | (refine l_g ?_; first | refine l_y rfl rfl rfl ?_ | refine l_n rfl rfl rfl rfl (hk := ?_) | refine l_n' rfl rfl rfl (hk := ?_) | refine l_spnd rfl rfl rfl (h1 := fun hc => ?_) (h2 := fun hc => ?_) | refine l_spd rfl rfl rfl (h1 := fun hc => ?_) (h2 := fun hc => ?_) | refine l_spn rfl rfl rfl (h1 := fun hc => ?_) (h2 := fun hc => ?_) | refine l_sp rfl rfl rfl (h1 := fun hc => ?_) (h2 := fun hc => ?_)))
          | refine d_nil ?_
          | (refine d_o ?_; first | refine d_fl (hk := ?_) | refine d_ef (hk := ?_) | (refine d_g ?_; first | refine d_spnd rfl rfl rfl (h1 := fun hc => ?_) (h2 := fun hc => ?_) | refine d_spd rfl rfl rfl (h1 := fun hc => ?_) (h2 := fun hc => ?_) | refine d_spn rfl rfl rfl (h1 := fun hc => ?_) (h2 := fun hc => ?_) | refine d_sp rfl rfl rfl (h1 := fun hc => ?_) (h2 := fun hc => ?_)))
          | (refine w_o ?_; first | refine w_draw (id := 4) (fun _ => true) (fun k => [].contains k) [] 64 (by kernel_rfl) rfl (by kernel_rfl) (by simp [nm, nset, -List.map_take, -List.map_drop]) ?_ | refine w_draw (id := 5) (fun _ => true) (fun k => [].contains k) [] 64 (by kernel_rfl) rfl (by kernel_rfl) (by simp [nm, nset, -List.map_take, -List.map_drop]) ?_)
        refine en_one (hf := Try.results177) (h := ?_); simp only [lget]; first | refine congrArg RVb ?_ | refine congrArg RVi ?_ | skip
        exact hg
      · rw [show b.drop k = [] from List.drop_eq_nil_of_le (by omega)] at hg
        repeat' first
          | refine w_seq ?_
          | refine w_block ?_
          | refine rb_n ?_
          | refine rb_ret ?_
          | refine rb_eq ?_
          | refine rb_ne (by rfl) ?_
          | refine w_exit ?_
          | refine rt_exit ?_
          | refine w_region ?_
          | refine l_nil ?_
          | refine rt_n ?_
          | refine w_ret ?_
          | refine rt_ret ?_
          | refine w_skip ?_
          | refine w_cond_t rfl ?_
          | refine w_cond_f rfl ?_
          | refine w_cnd rfl (fun hc => ?_) (fun hc => ?_)
          | refine w_cd rfl (fun hc => ?_) (fun hc => ?_)
          | refine w_cn rfl (fun hc => ?_) (fun hc => ?_)
          | refine w_cond rfl (fun hc => ?_) (fun hc => ?_)
          | (exfalso; omega)
          | (refine l_o ?_; first | refine l_op (hk := ?_) | (refine l_g ?_; first | refine l_y rfl rfl rfl ?_ | refine l_n rfl rfl rfl rfl (hk := ?_) | refine l_n' rfl rfl rfl (hk := ?_) | refine l_spnd rfl rfl rfl (h1 := fun hc => ?_) (h2 := fun hc => ?_) | refine l_spd rfl rfl rfl (h1 := fun hc => ?_) (h2 := fun hc => ?_) | refine l_spn rfl rfl rfl (h1 := fun hc => ?_) (h2 := fun hc => ?_) | refine l_sp rfl rfl rfl (h1 := fun hc => ?_) (h2 := fun hc => ?_)))
          | refine d_nil ?_
          | (refine d_o ?_; first | refine d_fl (hk := ?_) | refine d_ef (hk := ?_) | (refine d_g ?_; first | refine d_spnd rfl rfl rfl (h1 := fun hc => ?_) (h2 := fun hc => ?_) | refine d_spd rfl rfl rfl (h1 := fun hc => ?_) (h2 := fun hc => ?_) | refine d_spn rfl rfl rfl (h1 := fun hc => ?_) (h2 := fun hc => ?_) | refine d_sp rfl rfl rfl (h1 := fun hc => ?_) (h2 := fun hc => ?_)))
          | (refine w_o ?_; first | refine w_draw (id := 4) (fun _ => true) (fun k => [].contains k) [] 64 (by kernel_rfl) rfl (by kernel_rfl) (by simp [nm, nset, -List.map_take, -List.map_drop]) ?_ | refine w_draw (id := 5) (fun _ => true) (fun k => [].contains k) [] 64 (by kernel_rfl) rfl (by kernel_rfl) (by simp [nm, nset, -List.map_take, -List.map_drop]) ?_)
        refine en_one (hf := Try.results177) (h := ?_); simp only [lget]; first | refine congrArg RVb ?_ | refine congrArg RVi ?_ | skip
        exact hg
/-- The first that isn't 0. -/
def fstNZ : List Int → Int
  | [] => 0
  | x :: xs => if x ≠ 0 then x else fstNZ xs
theorem cmpOr_ok (l : List Int) : FCr Try.prog 91 [RIs l] (RVi (fstNZ l)) := by
  refine fcr_lens fun hL => ?_
  simp only [lnk] at hL
  refine (fcr_in Try.func91 rfl (by simp only [Try.ntmps91, anys, List.length_cons, List.length_nil, Nat.reduceAdd, Nat.reduceSub, List.replicate_succ, List.replicate_zero, List.cons_append, List.nil_append] <;> rfl) ?_)
  repeat' first
    | refine w_seq ?_
    | refine w_block ?_
    | refine rb_n ?_
    | refine rb_ret ?_
    | refine rb_eq ?_
    | refine rb_ne (by rfl) ?_
    | refine w_exit ?_
    | refine rt_exit ?_
    | refine w_region ?_
    | refine l_nil ?_
    | refine rt_n ?_
    | refine w_ret ?_
    | refine rt_ret ?_
    | refine w_skip ?_
    | refine w_cond_t rfl ?_
    | refine w_cond_f rfl ?_
    | refine w_cnd rfl (fun hc => ?_) (fun hc => ?_)
    | refine w_cd rfl (fun hc => ?_) (fun hc => ?_)
    | refine w_cn rfl (fun hc => ?_) (fun hc => ?_)
    | refine w_cond rfl (fun hc => ?_) (fun hc => ?_)
    | (refine l_o ?_; first | refine l_op (hk := ?_))
  refine w_loopm (ι := Nat) (fun k => [(8, RVn k)]) (fun _ => []) (fun k => k ≤ l.length ∧ fstNZ (l.drop k) = fstNZ l) (fun k => l.length - k) 0 (h0 := ?_) (hs := ?_) (round := ?_)
  · simp
  · refine le_eq (by (repeat' first | exact .nil | refine .keep ?_ | refine .any ?_); first | done | fail) rfl rfl
  · intro k ⟨hk, hg⟩
    by_cases h1 : k < l.length
    · rw [List.drop_eq_getElem_cons h1, fstNZ] at hg
      by_cases he : l[k] = 0
      · rw [if_neg (by simpa using he)] at hg
        repeat' first
          | refine w_seq ?_
          | refine w_block ?_
          | refine rb_n ?_
          | refine rb_ret ?_
          | refine rb_eq ?_
          | refine rb_ne (by rfl) ?_
          | refine w_exit ?_
          | refine rt_exit ?_
          | refine w_region ?_
          | refine l_nil ?_
          | refine rt_n ?_
          | refine w_ret ?_
          | refine rt_ret ?_
          | refine w_skip ?_
          | refine w_cond_t rfl ?_
          | refine w_cond_f rfl ?_
          | refine w_cnd rfl (fun hc => ?_) (fun hc => ?_)
          | refine w_cd rfl (fun hc => ?_) (fun hc => ?_)
          | refine w_cn rfl (fun hc => ?_) (fun hc => ?_)
          | refine w_cond rfl (fun hc => ?_) (fun hc => ?_)
          | (exfalso; omega)
          | (refine l_o ?_; first | refine l_op (hk := ?_))
        refine rn_mk (k + 1) ?_ (by first | omega | (dsimp only; omega)) (le_eq (by (repeat' first | exact .nil | refine .keep ?_ | refine .any ?_); first | done | fail) rfl rfl)
        exact ⟨by omega, hg⟩
      · rw [if_pos he] at hg
        repeat' first
          | refine w_seq ?_
          | refine w_block ?_
          | refine rb_n ?_
          | refine rb_ret ?_
          | refine rb_eq ?_
          | refine rb_ne (by rfl) ?_
          | refine w_exit ?_
          | refine rt_exit ?_
          | refine w_region ?_
          | refine l_nil ?_
          | refine rt_n ?_
          | refine w_ret ?_
          | refine rt_ret ?_
          | refine w_skip ?_
          | refine w_cond_t rfl ?_
          | refine w_cond_f rfl ?_
          | refine w_cnd rfl (fun hc => ?_) (fun hc => ?_)
          | refine w_cd rfl (fun hc => ?_) (fun hc => ?_)
          | refine w_cn rfl (fun hc => ?_) (fun hc => ?_)
          | refine w_cond rfl (fun hc => ?_) (fun hc => ?_)
          | (exfalso; omega)
          | (refine l_o ?_; first | refine l_op (hk := ?_))
        refine en_one (hf := Try.results91) (h := ?_); simp only [lget]; first | refine congrArg RVb ?_ | refine congrArg RVi ?_ | skip
        exact hg
    · rw [show l.drop k = [] from List.drop_eq_nil_of_le (by omega), fstNZ] at hg
      repeat' first
        | refine w_seq ?_
        | refine w_block ?_
        | refine rb_n ?_
        | refine rb_ret ?_
        | refine rb_eq ?_
        | refine rb_ne (by rfl) ?_
        | refine w_exit ?_
        | refine rt_exit ?_
        | refine w_region ?_
        | refine l_nil ?_
        | refine rt_n ?_
        | refine w_ret ?_
        | refine rt_ret ?_
        | refine w_skip ?_
        | refine w_cond_t rfl ?_
        | refine w_cond_f rfl ?_
        | refine w_cnd rfl (fun hc => ?_) (fun hc => ?_)
        | refine w_cd rfl (fun hc => ?_) (fun hc => ?_)
        | refine w_cn rfl (fun hc => ?_) (fun hc => ?_)
        | refine w_cond rfl (fun hc => ?_) (fun hc => ?_)
        | (exfalso; omega)
        | (refine l_o ?_; first | refine l_op (hk := ?_))
      refine en_one (hf := Try.results91) (h := ?_); simp only [lget]; first | refine congrArg RVb ?_ | refine congrArg RVi ?_ | skip
      exact hg
theorem l1Same_ok (a b : List Nat) : FCr Try.prog 157 [RNs a, RNs b] (RVb (decide (a = b))) := by
  refine fcr_lens fun hL => ?_
  simp only [lnk] at hL
  refine (fcr_in Try.func157 rfl (by simp only [Try.ntmps157, anys, List.length_cons, List.length_nil, Nat.reduceAdd, Nat.reduceSub, List.replicate_succ, List.replicate_zero, List.cons_append, List.nil_append] <;> rfl) ?_)
  repeat' first
    | refine w_seq ?_
    | refine w_block ?_
    | refine rb_n ?_
    | refine rb_ret ?_
    | refine rb_eq ?_
    | refine rb_ne (by rfl) ?_
    | refine w_exit ?_
    | refine rt_exit ?_
    | refine w_region ?_
    | refine l_nil ?_
    | refine rt_n ?_
    | refine w_ret ?_
    | refine rt_ret ?_
    | refine w_skip ?_
    | refine w_cond_t rfl ?_
    | refine w_cond_f rfl ?_
    | refine w_cnd rfl (fun hc => ?_) (fun hc => ?_)
    | refine w_cd rfl (fun hc => ?_) (fun hc => ?_)
    | refine w_cn rfl (fun hc => ?_) (fun hc => ?_)
    | refine w_cond rfl (fun hc => ?_) (fun hc => ?_)
    | (refine l_o ?_; first | refine l_op (hk := ?_))
    | refine d_nil ?_
    | (refine d_o ?_; first | refine d_fl (hk := ?_) | refine d_ef (hk := ?_))
    | (refine w_o ?_; first | refine w_draw (id := 6) (fun _ => true) (fun k => [].contains k) [] 64 (by kernel_rfl) rfl (by kernel_rfl) (by simp [nm, nset, -List.map_take, -List.map_drop]) ?_)
  · refine en_one (hf := Try.results157) (h := ?_); simp only [lget]; first | refine congrArg RVb ?_ | refine congrArg RVi ?_ | skip
    have : a ≠ b := fun e => by rw [e] at hc; exact hc rfl
    simp [this]
  have hn : a.length = b.length := by omega
  clear hc
  refine w_loopm (ι := Nat) (fun k => [(5, RVn k)]) (fun _ => []) (fun k => k ≤ a.length ∧ ((a.drop k = b.drop k) ↔ a = b)) (fun k => a.length - k) 0 (h0 := ?_) (hs := ?_) (round := ?_)
  · simp
  · refine le_eq (by (repeat' first | exact .nil | refine .keep ?_ | refine .any ?_); first | done | fail) rfl rfl
  · intro k ⟨hk, hg⟩
    by_cases h1 : k < a.length
    · rw [drop_both h1 (by omega)] at hg
      by_cases he : a[k] = b[k]
      · repeat' first
          | refine w_seq ?_
          | refine w_block ?_
          | refine rb_n ?_
          | refine rb_ret ?_
          | refine rb_eq ?_
          | refine rb_ne (by rfl) ?_
          | refine w_exit ?_
          | refine rt_exit ?_
          | refine w_region ?_
          | refine l_nil ?_
          | refine rt_n ?_
          | refine w_ret ?_
          | refine rt_ret ?_
          | refine w_skip ?_
          | refine w_cond_t rfl ?_
          | refine w_cond_f rfl ?_
          | refine w_cnd rfl (fun hc => ?_) (fun hc => ?_)
          | refine w_cd rfl (fun hc => ?_) (fun hc => ?_)
          | refine w_cn rfl (fun hc => ?_) (fun hc => ?_)
          | refine w_cond rfl (fun hc => ?_) (fun hc => ?_)
          | (exfalso; omega)
          | (refine l_o ?_; first | refine l_op (hk := ?_))
          | refine d_nil ?_
          | (refine d_o ?_; first | refine d_fl (hk := ?_) | refine d_ef (hk := ?_))
          | (refine w_o ?_; first | refine w_draw (id := 6) (fun _ => true) (fun k => [].contains k) [] 64 (by kernel_rfl) rfl (by kernel_rfl) (by simp [nm, nset, -List.map_take, -List.map_drop]) ?_)
        refine rn_mk (k + 1) ?_ (by first | omega | (dsimp only; omega)) (le_eq (by (repeat' first | exact .nil | refine .keep ?_ | refine .any ?_); first | done | fail) rfl rfl)
        exact ⟨by omega, by rw [← hg]; simp [he]⟩
      · have : a ≠ b := fun e => he (hg.2 e).1
        repeat' first
          | refine w_seq ?_
          | refine w_block ?_
          | refine rb_n ?_
          | refine rb_ret ?_
          | refine rb_eq ?_
          | refine rb_ne (by rfl) ?_
          | refine w_exit ?_
          | refine rt_exit ?_
          | refine w_region ?_
          | refine l_nil ?_
          | refine rt_n ?_
          | refine w_ret ?_
          | refine rt_ret ?_
          | refine w_skip ?_
          | refine w_cond_t rfl ?_
          | refine w_cond_f rfl ?_
          | refine w_cnd rfl (fun hc => ?_) (fun hc => ?_)
          | refine w_cd rfl (fun hc => ?_) (fun hc => ?_)
          | refine w_cn rfl (fun hc => ?_) (fun hc => ?_)
          | refine w_cond rfl (fun hc => ?_) (fun hc => ?_)
          | (exfalso; omega)
          | (refine l_o ?_; first | refine l_op (hk := ?_))
          | refine d_nil ?_
          | (refine d_o ?_; first | refine d_fl (hk := ?_) | refine d_ef (hk := ?_))
          | (refine w_o ?_; first | refine w_draw (id := 6) (fun _ => true) (fun k => [].contains k) [] 64 (by kernel_rfl) rfl (by kernel_rfl) (by simp [nm, nset, -List.map_take, -List.map_drop]) ?_)
        refine en_one (hf := Try.results157) (h := ?_); simp only [lget]; first | refine congrArg RVb ?_ | refine congrArg RVi ?_ | skip
        simp [this]
    · rw [List.drop_eq_nil_of_le (by omega), List.drop_eq_nil_of_le (by omega)] at hg
      have := hg.1 rfl
      repeat' first
        | refine w_seq ?_
        | refine w_block ?_
        | refine rb_n ?_
        | refine rb_ret ?_
        | refine rb_eq ?_
        | refine rb_ne (by rfl) ?_
        | refine w_exit ?_
        | refine rt_exit ?_
        | refine w_region ?_
        | refine l_nil ?_
        | refine rt_n ?_
        | refine w_ret ?_
        | refine rt_ret ?_
        | refine w_skip ?_
        | refine w_cond_t rfl ?_
        | refine w_cond_f rfl ?_
        | refine w_cnd rfl (fun hc => ?_) (fun hc => ?_)
        | refine w_cd rfl (fun hc => ?_) (fun hc => ?_)
        | refine w_cn rfl (fun hc => ?_) (fun hc => ?_)
        | refine w_cond rfl (fun hc => ?_) (fun hc => ?_)
        | (exfalso; omega)
        | (refine l_o ?_; first | refine l_op (hk := ?_))
        | refine d_nil ?_
        | (refine d_o ?_; first | refine d_fl (hk := ?_) | refine d_ef (hk := ?_))
        | (refine w_o ?_; first | refine w_draw (id := 6) (fun _ => true) (fun k => [].contains k) [] 64 (by kernel_rfl) rfl (by kernel_rfl) (by simp [nm, nset, -List.map_take, -List.map_drop]) ?_)
      refine en_one (hf := Try.results157) (h := ?_); simp only [lget]; first | refine congrArg RVb ?_ | refine congrArg RVi ?_ | skip
      simp [this]
theorem l1Most_ok (x y : Nat) : FCr Try.prog 178 [RVn x, RVn y] (RVn (max x y)) := by
  refine (fcr_in Try.func178 rfl (by simp only [Try.ntmps178, anys, List.length_cons, List.length_nil, Nat.reduceAdd, Nat.reduceSub, List.replicate_succ, List.replicate_zero, List.cons_append, List.nil_append] <;> rfl) ?_)
  repeat' first
    | refine w_seq ?_
    | refine w_region ?_
    | refine l_nil ?_
    | refine rt_n ?_
    | refine w_ret ?_
    | refine rt_ret ?_
    | refine w_skip ?_
    | refine w_cond_t rfl ?_
    | refine w_cond_f rfl ?_
    | refine w_cnd rfl (fun hc => ?_) (fun hc => ?_)
    | refine w_cd rfl (fun hc => ?_) (fun hc => ?_)
    | refine w_cn rfl (fun hc => ?_) (fun hc => ?_)
    | refine w_cond rfl (fun hc => ?_) (fun hc => ?_)
    | (refine l_o ?_; first | refine l_op (hk := ?_))
  · refine en_one (hf := Try.results178) (h := ?_); simp only [lget]; first | refine congrArg RVb ?_ | refine congrArg RVi ?_ | skip
    rw [show max x y = x by omega]
  · refine en_one (hf := Try.results178) (h := ?_); simp only [lget]; first | refine congrArg RVb ?_ | refine congrArg RVi ?_ | skip
    rw [show max x y = y by omega]
theorem ahd_cmp (a b : List Nat × List Nat) : ahd a b = if cmpL a.1 b.1 ≠ 0 then decide (cmpL a.1 b.1 < 0) else decide (cmpL a.2 b.2 < 0) := by
  unfold ahd
  by_cases e : a.1 = b.1
  · rw [if_pos e, if_neg (by rw [(cmpL_zero _ _).2 e]; simp), Bool.eq_iff_iff, decide_eq_true_eq, cmpL_ge]
  · rw [if_neg e, if_pos (fun h => e ((cmpL_zero _ _).1 h)), Bool.eq_iff_iff, decide_eq_true_eq, cmpL_ge]
theorem l3NodeAhead_ok (a b : List Nat × List Nat) : FCr Try.prog 161 [RNd a, RNd b] (RVb (ahd a b)) := by
  have h1 := l3List_ok a.1 b.1
  have h2 := l3List_ok a.2 b.2
  rw [ahd_cmp]
  by_cases e : cmpL a.1 b.1 = 0
  · rw [if_neg (by simpa using e)]
    rw [e] at h1
    refine (fcr_in Try.func161 rfl (by simp only [Try.ntmps161, anys, List.length_cons, List.length_nil, Nat.reduceAdd, Nat.reduceSub, List.replicate_succ, List.replicate_zero, List.cons_append, List.nil_append] <;> rfl) ?_)
    repeat' first
      | refine w_seq ?_
      | refine w_region ?_
      | refine l_nil ?_
      | refine rt_n ?_
      | refine w_ret ?_
      | refine rt_ret ?_
      | refine w_skip ?_
      | refine w_cond_t rfl ?_
      | refine w_cond_f rfl ?_
      | refine w_cnd rfl (fun hc => ?_) (fun hc => ?_)
      | refine w_cd rfl (fun hc => ?_) (fun hc => ?_)
      | refine w_cn rfl (fun hc => ?_) (fun hc => ?_)
      | refine w_cond rfl (fun hc => ?_) (fun hc => ?_)
      | (exfalso; exact absurd rfl hc)
      | (refine l_o ?_; first | refine l_op rfl (by first | (apply k_callf; first | exact ops_callf (d := 10) (hfc := h1) | exact ops_callf (d := 19) (hfc := h2) | fail) | fail) (hk := ?_) | refine l_op (hk := ?_))
    refine en_one (hf := Try.results161) (h := ?_); simp only [lget]; first | refine congrArg RVb ?_ | refine congrArg RVi ?_ | skip
  · rw [if_pos e]
    refine (fcr_in Try.func161 rfl (by simp only [Try.ntmps161, anys, List.length_cons, List.length_nil, Nat.reduceAdd, Nat.reduceSub, List.replicate_succ, List.replicate_zero, List.cons_append, List.nil_append] <;> rfl) ?_)
    repeat' first
      | refine w_seq ?_
      | refine w_region ?_
      | refine l_nil ?_
      | refine rt_n ?_
      | refine w_ret ?_
      | refine rt_ret ?_
      | refine w_skip ?_
      | refine w_cond_t rfl ?_
      | refine w_cond_f rfl ?_
      | refine w_cnd rfl (fun hc => ?_) (fun hc => ?_)
      | refine w_cd rfl (fun hc => ?_) (fun hc => ?_)
      | refine w_cn rfl (fun hc => ?_) (fun hc => ?_)
      | refine w_cond rfl (fun hc => ?_) (fun hc => ?_)
      | (exfalso; omega)
      | (refine l_o ?_; first | refine l_op rfl (by first | (apply k_callf; first | exact ops_callf (d := 10) (hfc := h1) | exact ops_callf (d := 19) (hfc := h2) | fail) | fail) (hk := ?_) | refine l_op (hk := ?_))
    refine en_one (hf := Try.results161) (h := ?_); simp only [lget]; first | refine congrArg RVb ?_ | refine congrArg RVi ?_ | skip
end Go.Proofs.Ytdignmbeiohhiaa
