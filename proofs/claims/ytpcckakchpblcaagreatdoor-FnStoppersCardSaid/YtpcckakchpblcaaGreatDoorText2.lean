/- The reference reads numbers. For all texts of the lengths that the theorem names. -/
import Derived.Test.YtpcckakchpblcaaGreatDoorGood
import Derived.Test.YtpcckakchpblcaaGreatDoorJ15
import Derived.Test.YtpcckakchpblcaaGreatDoorSolve
namespace Go.Proofs.YtpcckakchpblcaaGreatDoor
open Eng
section
variable {P : Program} {ty : TypeId} {pos : String} {after : Array Edge} {s : St} {d : Option Tmp} {g : Option (Nat × Bool)}
theorem ops_sub8 {x y t u} {m n : Nat} (hx : s.get x = .v (.int .u8 (m : Nat))) (hy : s.get y = .v (.int .u8 (n : Nat))) (h1 : n ≤ m) (h2 : m < 256) : OpS P ⟨d, .binOp .sub t x y u, ty, pos, after, g⟩ s ⟨sput d (.v (.int .u8 ((m - n : Nat) : Int))) s.fr, s.O⟩ :=
  ops_exact fun _ a _ _ _ _ hr => by
    have e : IntKind.u8.wrap ((m : Int) - n) = ((m - n : Nat) : Int) := by rw [IntKind.wrap_u8]; omega
    simp [execOp, hr.ex hx, hr.ex hy, binOp_sub, eqGuard_sub, Op.intArith, e]
end
attribute [local irreducible] OpS OpG FC FCr Rel Fl Ef DR Fs
set_option linter.unusedSimpArgs false
set_option maxHeartbeats 0
set_option maxRecDepth 100000

/-- Digits read from the left; none where a byte isn't one. -/
def rdD : List UInt8 → Nat → Option Nat
  | [], n => some n
  | c :: cs, n => if c.toNat < 48 ∨ 57 < c.toNat then none else rdD cs (10 * n + (c.toNat - 48))
/-- What a text without its sign says, if it is written as numbers are. -/
def rdT (s T : List UInt8) (neg : Bool) : Option Int :=
  if 1 ≤ T.length ∧ T.length ≤ 6 then
    match rdD T 0 with
    | none => none
    | some n => if numI (if neg then -(n : Int) else n) = s then some (if neg then -(n : Int) else n) else none
  else none
def readI (s : List UInt8) : Option Int := if 1 < s.length ∧ s.getD 0 0 = 45 then rdT s (s.drop 1) true else rdT s s false
theorem rdT_out {s T neg} (h : ¬ (1 ≤ T.length ∧ T.length ≤ 6)) : rdT s T neg = none := by rw [rdT, if_neg h]
theorem rdT_none {s T neg} (h : rdD T 0 = none) : rdT s T neg = none := by
  rw [rdT, h]; split <;> rfl
theorem rdT_yes {s T neg} {n : Nat} {v : Int} (hl : 1 ≤ T.length ∧ T.length ≤ 6) (h : rdD T 0 = some n) (hv : (if neg then -(n : Int) else n) = v) : rdT s T neg = if numI v = s then some v else none := by
  rw [rdT, h, if_pos hl, ← hv]
theorem rdD_at {T : List UInt8} {i n : Nat} (h : i < T.length) : rdD (T.drop i) n = if T[i].toNat < 48 ∨ 57 < T[i].toNat then none else rdD (T.drop (i + 1)) (10 * n + (T[i].toNat - 48)) := by
  rw [List.drop_eq_getElem_cons h, rdD]
theorem pow_step {n k c : Nat} (h : n < 10 ^ k) (hc : c ≤ 9) : 10 * n + c < 10 ^ (k + 1) := by rw [Nat.pow_succ]; omega
theorem pow_le6 {k : Nat} (h : k ≤ 6) : 10 ^ k ≤ 1000000 := Nat.le_trans (Nat.pow_le_pow_right (by omega) h) (by decide)
theorem l1Read_ok (s : List UInt8) (hs : s.length ≤ 1000000000000) : FCr Tryz.prog 128 [RV.str s] (.tup [RVi ((readI s).getD 0), RVb (readI s).isSome]) := by
  unfold readI
  by_cases hm : 1 < s.length ∧ s.getD 0 0 = 45
  · rw [if_pos hm]
    have h1 : s[0]'(by omega) = 45 := by rw [← gd (d := 0)]; exact hm.2
    have h1n : (s[0]'(by omega)).toNat = 45 := by rw [h1]; rfl
    have hld : (s.drop 1).length = s.length - 1 := by simp
    generalize hr : rdT s (s.drop 1) true = r
    by_cases hl : 1 ≤ (s.drop 1).length ∧ (s.drop 1).length ≤ 6
    · have hI := l1In_ok ((s.drop 1).length : Int) 1 6
      rw [show (decide ((1 : Int) ≤ ((s.drop 1).length : Int)) && decide (((s.drop 1).length : Int) ≤ 6)) = true from by rw [Bool.and_eq_true, decide_eq_true_eq, decide_eq_true_eq]; omega] at hI
      refine (fcr_in Tryz.func128 rfl (by simp only [Tryz.ntmps128, anys, List.length_cons, List.length_nil, Nat.reduceAdd, Nat.reduceSub, List.replicate_succ, List.replicate_zero, List.cons_append, List.nil_append] <;> rfl) ?_)
      repeat' first
        | refine w_seq ?_
        | refine w_block ?_
        | refine rb_n ?_
        | refine rb_ret ?_
        | refine rb_eq ?_
        | refine rb_ne (by rfl) ?_
        | refine w_exit ?_
        | refine rt_exit ?_
        | refine w_region ?_
        | refine l_nil ?_
        | refine rt_n ?_
        | refine w_ret ?_
        | refine rt_ret ?_
        | refine w_skip ?_
        | refine w_cond_t rfl ?_
        | refine w_cond_f rfl ?_
        | refine w_cnd rfl (fun hc => ?_) (fun hc => ?_)
        | refine w_cd rfl (fun hc => ?_) (fun hc => ?_)
        | refine w_cn rfl (fun hc => ?_) (fun hc => ?_)
        | refine w_cond rfl (fun hc => ?_) (fun hc => ?_)
        | (exfalso; omega)
        | (refine l_o ?_; first | refine l_eqnil rfl (by kernel_rfl) (by intro b; simp only [nz]; rfl) (fun b hb => ?_) | refine l_op rfl (by first | (apply k_index; first | exact ops_byte (i := 0) rfl rfl (List.getElem?_eq_getElem (by omega)) (by kernel_rfl) | fail) | (apply k_slice; first | exact ops_scutl (l := 1) rfl rfl (by omega) (by kernel_rfl) | fail) | (apply k_callf; first | exact ops_callf (hfc := hI) | fail) | fail) (hk := ?_) | refine l_op (hk := ?_) | (refine l_g ?_; first | refine l_y rfl rfl rfl ?_ | refine l_n rfl rfl rfl rfl (hk := ?_) | refine l_n' rfl rfl rfl (hk := ?_) | refine l_spnd rfl rfl rfl (h1 := fun hc => ?_) (h2 := fun hc => ?_) | refine l_spd rfl rfl rfl (h1 := fun hc => ?_) (h2 := fun hc => ?_) | refine l_spn rfl rfl rfl (h1 := fun hc => ?_) (h2 := fun hc => ?_) | refine l_sp rfl rfl rfl (h1 := fun hc => ?_) (h2 := fun hc => ?_)))
      have hlt : (s.drop 1).length < s.length := by omega
      generalize s.drop 1 = T at *
      refine w_loopk (ι := Nat × Nat) (fun q => [(6, RVn q.1), (5, RVn q.2)]) (fun q => q.1 ≤ T.length ∧ rdD (T.drop q.1) q.2 = rdD T 0 ∧ q.2 < 10 ^ q.1) (fun q => T.length - q.1) (0, 0) (h0 := ?_) (hs := ?_) (round := ?_)
      · exact ⟨by omega, rfl, by decide⟩
      · refine le_eq (by (repeat' first | exact .nil | refine .keep ?_ | refine .any ?_); first | done | fail) rfl rfl
      · intro ⟨i, n⟩ ⟨hi, hg, hn⟩
        dsimp only at hi hg hn ⊢
        by_cases hil : i < T.length
        · rw [rdD_at hil] at hg
          have h256 := UInt8.toNat_lt T[i]
          have hp := pow_le6 (show i ≤ 6 by omega)
          by_cases hd : T[i].toNat < 48 ∨ 57 < T[i].toNat
          · rw [if_pos hd] at hg
            rw [rdT_none hg.symm] at hr
            subst hr
            repeat' first
              | refine w_seq ?_
              | refine w_block ?_
              | refine rb_n ?_
              | refine rb_ret ?_
              | refine rb_eq ?_
              | refine rb_ne (by rfl) ?_
              | refine w_exit ?_
              | refine rt_exit ?_
              | refine w_region ?_
              | refine l_nil ?_
              | refine rt_n ?_
              | refine w_ret ?_
              | refine rt_ret ?_
              | refine w_skip ?_
              | refine w_cond_t rfl ?_
              | refine w_cond_f rfl ?_
              | refine w_cnd rfl (fun hc => ?_) (fun hc => ?_)
              | refine w_cd rfl (fun hc => ?_) (fun hc => ?_)
              | refine w_cn rfl (fun hc => ?_) (fun hc => ?_)
              | refine w_cond rfl (fun hc => ?_) (fun hc => ?_)
              | (exfalso; omega)
              | (refine l_o ?_; first | refine l_eqnil rfl (by kernel_rfl) (by intro b; simp only [nz]; rfl) (fun b hb => ?_) | refine l_op rfl (by first | (apply k_index; first | exact ops_byte (i := i) rfl rfl (List.getElem?_eq_getElem (by omega)) (by kernel_rfl) | fail) | fail) (hk := ?_) | refine l_op (hk := ?_) | (refine l_g ?_; first | refine l_y rfl rfl rfl ?_ | refine l_n rfl rfl rfl rfl (hk := ?_) | refine l_n' rfl rfl rfl (hk := ?_) | refine l_spnd rfl rfl rfl (h1 := fun hc => ?_) (h2 := fun hc => ?_) | refine l_spd rfl rfl rfl (h1 := fun hc => ?_) (h2 := fun hc => ?_) | refine l_spn rfl rfl rfl (h1 := fun hc => ?_) (h2 := fun hc => ?_) | refine l_sp rfl rfl rfl (h1 := fun hc => ?_) (h2 := fun hc => ?_)))
            all_goals refine en_end (hf := Tryz.results128) (hr := ?_); simp only [ne, nf, nl, nr, lget, reduceIte, Nat.reduceEqDiff]; first | rfl | refine congrArg RVb ?_ | refine congrArg RVi ?_ | skip
          · rw [if_neg hd] at hg
            have hps := pow_step (c := T[i].toNat - 48) hn (by omega)
            repeat' first
              | refine w_seq ?_
              | refine w_block ?_
              | refine rb_n ?_
              | refine rb_ret ?_
              | refine rb_eq ?_
              | refine rb_ne (by rfl) ?_
              | refine w_exit ?_
              | refine rt_exit ?_
              | refine w_region ?_
              | refine l_nil ?_
              | refine rt_n ?_
              | refine w_ret ?_
              | refine rt_ret ?_
              | refine w_skip ?_
              | refine w_cond_t rfl ?_
              | refine w_cond_f rfl ?_
              | refine w_cnd rfl (fun hc => ?_) (fun hc => ?_)
              | refine w_cd rfl (fun hc => ?_) (fun hc => ?_)
              | refine w_cn rfl (fun hc => ?_) (fun hc => ?_)
              | refine w_cond rfl (fun hc => ?_) (fun hc => ?_)
              | (exfalso; omega)
              | (refine l_o ?_; first | refine l_eqnil rfl (by kernel_rfl) (by intro b; simp only [nz]; rfl) (fun b hb => ?_) | refine l_op rfl (by first | (apply k_index; first | exact ops_byte (i := i) rfl rfl (List.getElem?_eq_getElem (by omega)) (by kernel_rfl) | fail) | (apply k_sub; first | exact ops_sub8 (m := T[i].toNat) (n := 48) rfl rfl (by omega) (by omega) | fail) | (apply k_mul; first | exact ops_muln (m := 10) (n := n) rfl rfl (by omega) | fail) | (apply k_add; first | exact ops_addn (a := 10 * n) (b := T[i].toNat - 48) rfl rfl (by omega) | fail) | fail) (hk := ?_) | refine l_op (hk := ?_) | (refine l_g ?_; first | refine l_y rfl rfl rfl ?_ | refine l_n rfl rfl rfl rfl (hk := ?_) | refine l_n' rfl rfl rfl (hk := ?_) | refine l_spnd rfl rfl rfl (h1 := fun hc => ?_) (h2 := fun hc => ?_) | refine l_spd rfl rfl rfl (h1 := fun hc => ?_) (h2 := fun hc => ?_) | refine l_spn rfl rfl rfl (h1 := fun hc => ?_) (h2 := fun hc => ?_) | refine l_sp rfl rfl rfl (h1 := fun hc => ?_) (h2 := fun hc => ?_)))
            refine rn_mk (i + 1, 10 * n + (T[i].toNat - 48)) ?_ (by first | omega | (dsimp only; omega)) (le_eq (by (repeat' first | exact .nil | refine .keep ?_ | refine .any ?_); first | done | fail) rfl rfl)
            exact ⟨by dsimp only; omega, hg, hps⟩
        · obtain rfl : i = T.length := by omega
          rw [List.drop_eq_nil_of_le (Nat.le_refl _), rdD] at hg
          have hp := pow_le6 hl.2
          rw [rdT_yes (v := (-(n : Int))) hl hg.symm rfl] at hr
          have hN := l1Num_ok (-(n : Int)) (by omega) (by omega)
          repeat' first
            | refine w_seq ?_
            | refine w_block ?_
            | refine rb_n ?_
            | refine rb_ret ?_
            | refine rb_eq ?_
            | refine rb_ne (by rfl) ?_
            | refine w_exit ?_
            | refine rt_exit ?_
            | refine w_region ?_
            | refine l_nil ?_
            | refine rt_n ?_
            | refine w_ret ?_
            | refine rt_ret ?_
            | refine w_skip ?_
            | refine w_cond_t rfl ?_
            | refine w_cond_f rfl ?_
            | refine w_cnd rfl (fun hc => ?_) (fun hc => ?_)
            | refine w_cd rfl (fun hc => ?_) (fun hc => ?_)
            | refine w_cn rfl (fun hc => ?_) (fun hc => ?_)
            | refine w_cond rfl (fun hc => ?_) (fun hc => ?_)
            | (exfalso; omega)
            | (refine l_o ?_; first | refine l_eqnil rfl (by kernel_rfl) (by intro b; simp only [nz]; rfl) (fun b hb => ?_) | refine l_op rfl (by first | (apply k_callf; first | exact ops_callf (hfc := hN) | fail) | fail) (hk := ?_) | refine l_op (hk := ?_) | (refine l_g ?_; first | refine l_y rfl rfl rfl ?_ | refine l_n rfl rfl rfl rfl (hk := ?_) | refine l_n' rfl rfl rfl (hk := ?_) | refine l_spnd rfl rfl rfl (h1 := fun hc => ?_) (h2 := fun hc => ?_) | refine l_spd rfl rfl rfl (h1 := fun hc => ?_) (h2 := fun hc => ?_) | refine l_spn rfl rfl rfl (h1 := fun hc => ?_) (h2 := fun hc => ?_) | refine l_sp rfl rfl rfl (h1 := fun hc => ?_) (h2 := fun hc => ?_)))
          all_goals first
            | (rw [if_neg hc] at hr; subst hr; (refine en_end (hf := Tryz.results128) (hr := ?_); simp only [ne, nf, nl, nr, lget, reduceIte, Nat.reduceEqDiff]; first | rfl | refine congrArg RVb ?_ | refine congrArg RVi ?_ | skip); done)
            | (rw [if_pos hc] at hr; subst hr; (refine en_end (hf := Tryz.results128) (hr := ?_); simp only [ne, nf, nl, nr, lget, reduceIte, Nat.reduceEqDiff]; first | rfl | refine congrArg RVb ?_ | refine congrArg RVi ?_ | skip); done)
            | (rw [if_pos (by simpa using hc)] at hr; subst hr; (refine en_end (hf := Tryz.results128) (hr := ?_); simp only [ne, nf, nl, nr, lget, reduceIte, Nat.reduceEqDiff]; first | rfl | refine congrArg RVb ?_ | refine congrArg RVi ?_ | skip); done)
            | trace_state
    · rw [rdT_out hl] at hr
      subst hr
      have hI := l1In_ok ((s.drop 1).length : Int) 1 6
      rw [show (decide ((1 : Int) ≤ ((s.drop 1).length : Int)) && decide (((s.drop 1).length : Int) ≤ 6)) = false from by rw [Bool.and_eq_false_iff, decide_eq_false_iff_not, decide_eq_false_iff_not]; omega] at hI
      refine (fcr_in Tryz.func128 rfl (by simp only [Tryz.ntmps128, anys, List.length_cons, List.length_nil, Nat.reduceAdd, Nat.reduceSub, List.replicate_succ, List.replicate_zero, List.cons_append, List.nil_append] <;> rfl) ?_)
      repeat' first
        | refine w_seq ?_
        | refine w_block ?_
        | refine rb_n ?_
        | refine rb_ret ?_
        | refine rb_eq ?_
        | refine rb_ne (by rfl) ?_
        | refine w_exit ?_
        | refine rt_exit ?_
        | refine w_region ?_
        | refine l_nil ?_
        | refine rt_n ?_
        | refine w_ret ?_
        | refine rt_ret ?_
        | refine w_skip ?_
        | refine w_cond_t rfl ?_
        | refine w_cond_f rfl ?_
        | refine w_cnd rfl (fun hc => ?_) (fun hc => ?_)
        | refine w_cd rfl (fun hc => ?_) (fun hc => ?_)
        | refine w_cn rfl (fun hc => ?_) (fun hc => ?_)
        | refine w_cond rfl (fun hc => ?_) (fun hc => ?_)
        | (exfalso; omega)
        | (refine l_o ?_; first | refine l_eqnil rfl (by kernel_rfl) (by intro b; simp only [nz]; rfl) (fun b hb => ?_) | refine l_op rfl (by first | (apply k_index; first | exact ops_byte (i := 0) rfl rfl (List.getElem?_eq_getElem (by omega)) (by kernel_rfl) | fail) | (apply k_slice; first | exact ops_scutl (l := 1) rfl rfl (by omega) (by kernel_rfl) | fail) | (apply k_callf; first | exact ops_callf (hfc := hI) | fail) | fail) (hk := ?_) | refine l_op (hk := ?_) | (refine l_g ?_; first | refine l_y rfl rfl rfl ?_ | refine l_n rfl rfl rfl rfl (hk := ?_) | refine l_n' rfl rfl rfl (hk := ?_) | refine l_spnd rfl rfl rfl (h1 := fun hc => ?_) (h2 := fun hc => ?_) | refine l_spd rfl rfl rfl (h1 := fun hc => ?_) (h2 := fun hc => ?_) | refine l_spn rfl rfl rfl (h1 := fun hc => ?_) (h2 := fun hc => ?_) | refine l_sp rfl rfl rfl (h1 := fun hc => ?_) (h2 := fun hc => ?_)))
      refine en_end (hf := Tryz.results128) (hr := ?_); simp only [ne, nf, nl, nr, lget, reduceIte, Nat.reduceEqDiff]; first | rfl | refine congrArg RVb ?_ | refine congrArg RVi ?_ | skip
  · rw [if_neg hm]
    generalize hr : rdT s s false = r
    by_cases hl1 : 1 < s.length
    · have h1n : (s[0]'(by omega)).toNat ≠ 45 := fun h => hm ⟨hl1, by rw [gd (by omega)]; exact UInt8.toNat_inj.1 h⟩
      by_cases hl : 1 ≤ s.length ∧ s.length ≤ 6
      · have hI := l1In_ok (s.length : Int) 1 6
        rw [show (decide ((1 : Int) ≤ (s.length : Int)) && decide ((s.length : Int) ≤ 6)) = true from by rw [Bool.and_eq_true, decide_eq_true_eq, decide_eq_true_eq]; omega] at hI
        refine (fcr_in Tryz.func128 rfl (by simp only [Tryz.ntmps128, anys, List.length_cons, List.length_nil, Nat.reduceAdd, Nat.reduceSub, List.replicate_succ, List.replicate_zero, List.cons_append, List.nil_append] <;> rfl) ?_)
        repeat' first
          | refine w_seq ?_
          | refine w_block ?_
          | refine rb_n ?_
          | refine rb_ret ?_
          | refine rb_eq ?_
          | refine rb_ne (by rfl) ?_
          | refine w_exit ?_
          | refine rt_exit ?_
          | refine w_region ?_
          | refine l_nil ?_
          | refine rt_n ?_
          | refine w_ret ?_
          | refine rt_ret ?_
          | refine w_skip ?_
          | refine w_cond_t rfl ?_
          | refine w_cond_f rfl ?_
          | refine w_cnd rfl (fun hc => ?_) (fun hc => ?_)
          | refine w_cd rfl (fun hc => ?_) (fun hc => ?_)
          | refine w_cn rfl (fun hc => ?_) (fun hc => ?_)
          | refine w_cond rfl (fun hc => ?_) (fun hc => ?_)
          | (exfalso; omega)
          | (refine l_o ?_; first | refine l_eqnil rfl (by kernel_rfl) (by intro b; simp only [nz]; rfl) (fun b hb => ?_) | refine l_op rfl (by first | (apply k_index; first | exact ops_byte (i := 0) rfl rfl (List.getElem?_eq_getElem (by omega)) (by kernel_rfl) | fail) | (apply k_callf; first | exact ops_callf (hfc := hI) | fail) | fail) (hk := ?_) | refine l_op (hk := ?_) | (refine l_g ?_; first | refine l_y rfl rfl rfl ?_ | refine l_n rfl rfl rfl rfl (hk := ?_) | refine l_n' rfl rfl rfl (hk := ?_) | refine l_spnd rfl rfl rfl (h1 := fun hc => ?_) (h2 := fun hc => ?_) | refine l_spd rfl rfl rfl (h1 := fun hc => ?_) (h2 := fun hc => ?_) | refine l_spn rfl rfl rfl (h1 := fun hc => ?_) (h2 := fun hc => ?_) | refine l_sp rfl rfl rfl (h1 := fun hc => ?_) (h2 := fun hc => ?_)))
        skip
        refine w_loopk (ι := Nat × Nat) (fun q => [(6, RVn q.1), (5, RVn q.2)]) (fun q => q.1 ≤ s.length ∧ rdD (s.drop q.1) q.2 = rdD s 0 ∧ q.2 < 10 ^ q.1) (fun q => s.length - q.1) (0, 0) (h0 := ?_) (hs := ?_) (round := ?_)
        · exact ⟨by omega, rfl, by decide⟩
        · refine le_eq (by (repeat' first | exact .nil | refine .keep ?_ | refine .any ?_); first | done | fail) rfl rfl
        · intro ⟨i, n⟩ ⟨hi, hg, hn⟩
          dsimp only at hi hg hn ⊢
          by_cases hil : i < s.length
          · rw [rdD_at hil] at hg
            have h256 := UInt8.toNat_lt s[i]
            have hp := pow_le6 (show i ≤ 6 by omega)
            by_cases hd : s[i].toNat < 48 ∨ 57 < s[i].toNat
            · rw [if_pos hd] at hg
              rw [rdT_none hg.symm] at hr
              subst hr
              repeat' first
                | refine w_seq ?_
                | refine w_block ?_
                | refine rb_n ?_
                | refine rb_ret ?_
                | refine rb_eq ?_
                | refine rb_ne (by rfl) ?_
                | refine w_exit ?_
                | refine rt_exit ?_
                | refine w_region ?_
                | refine l_nil ?_
                | refine rt_n ?_
                | refine w_ret ?_
                | refine rt_ret ?_
                | refine w_skip ?_
                | refine w_cond_t rfl ?_
                | refine w_cond_f rfl ?_
                | refine w_cnd rfl (fun hc => ?_) (fun hc => ?_)
                | refine w_cd rfl (fun hc => ?_) (fun hc => ?_)
                | refine w_cn rfl (fun hc => ?_) (fun hc => ?_)
                | refine w_cond rfl (fun hc => ?_) (fun hc => ?_)
                | (exfalso; omega)
                | (refine l_o ?_; first | refine l_eqnil rfl (by kernel_rfl) (by intro b; simp only [nz]; rfl) (fun b hb => ?_) | refine l_op rfl (by first | (apply k_index; first | exact ops_byte (i := i) rfl rfl (List.getElem?_eq_getElem (by omega)) (by kernel_rfl) | fail) | fail) (hk := ?_) | refine l_op (hk := ?_) | (refine l_g ?_; first | refine l_y rfl rfl rfl ?_ | refine l_n rfl rfl rfl rfl (hk := ?_) | refine l_n' rfl rfl rfl (hk := ?_) | refine l_spnd rfl rfl rfl (h1 := fun hc => ?_) (h2 := fun hc => ?_) | refine l_spd rfl rfl rfl (h1 := fun hc => ?_) (h2 := fun hc => ?_) | refine l_spn rfl rfl rfl (h1 := fun hc => ?_) (h2 := fun hc => ?_) | refine l_sp rfl rfl rfl (h1 := fun hc => ?_) (h2 := fun hc => ?_)))
              all_goals refine en_end (hf := Tryz.results128) (hr := ?_); simp only [ne, nf, nl, nr, lget, reduceIte, Nat.reduceEqDiff]; first | rfl | refine congrArg RVb ?_ | refine congrArg RVi ?_ | skip
            · rw [if_neg hd] at hg
              have hps := pow_step (c := s[i].toNat - 48) hn (by omega)
              repeat' first
                | refine w_seq ?_
                | refine w_block ?_
                | refine rb_n ?_
                | refine rb_ret ?_
                | refine rb_eq ?_
                | refine rb_ne (by rfl) ?_
                | refine w_exit ?_
                | refine rt_exit ?_
                | refine w_region ?_
                | refine l_nil ?_
                | refine rt_n ?_
                | refine w_ret ?_
                | refine rt_ret ?_
                | refine w_skip ?_
                | refine w_cond_t rfl ?_
                | refine w_cond_f rfl ?_
                | refine w_cnd rfl (fun hc => ?_) (fun hc => ?_)
                | refine w_cd rfl (fun hc => ?_) (fun hc => ?_)
                | refine w_cn rfl (fun hc => ?_) (fun hc => ?_)
                | refine w_cond rfl (fun hc => ?_) (fun hc => ?_)
                | (exfalso; omega)
                | (refine l_o ?_; first | refine l_eqnil rfl (by kernel_rfl) (by intro b; simp only [nz]; rfl) (fun b hb => ?_) | refine l_op rfl (by first | (apply k_index; first | exact ops_byte (i := i) rfl rfl (List.getElem?_eq_getElem (by omega)) (by kernel_rfl) | fail) | (apply k_sub; first | exact ops_sub8 (m := s[i].toNat) (n := 48) rfl rfl (by omega) (by omega) | fail) | (apply k_mul; first | exact ops_muln (m := 10) (n := n) rfl rfl (by omega) | fail) | (apply k_add; first | exact ops_addn (a := 10 * n) (b := s[i].toNat - 48) rfl rfl (by omega) | fail) | fail) (hk := ?_) | refine l_op (hk := ?_) | (refine l_g ?_; first | refine l_y rfl rfl rfl ?_ | refine l_n rfl rfl rfl rfl (hk := ?_) | refine l_n' rfl rfl rfl (hk := ?_) | refine l_spnd rfl rfl rfl (h1 := fun hc => ?_) (h2 := fun hc => ?_) | refine l_spd rfl rfl rfl (h1 := fun hc => ?_) (h2 := fun hc => ?_) | refine l_spn rfl rfl rfl (h1 := fun hc => ?_) (h2 := fun hc => ?_) | refine l_sp rfl rfl rfl (h1 := fun hc => ?_) (h2 := fun hc => ?_)))
              refine rn_mk (i + 1, 10 * n + (s[i].toNat - 48)) ?_ (by first | omega | (dsimp only; omega)) (le_eq (by (repeat' first | exact .nil | refine .keep ?_ | refine .any ?_); first | done | fail) rfl rfl)
              exact ⟨by dsimp only; omega, hg, hps⟩
          · obtain rfl : i = s.length := by omega
            rw [List.drop_eq_nil_of_le (Nat.le_refl _), rdD] at hg
            have hp := pow_le6 hl.2
            rw [rdT_yes (v := (n : Int)) hl hg.symm rfl] at hr
            have hN := l1Num_ok (n : Int) (by omega) (by omega)
            repeat' first
              | refine w_seq ?_
              | refine w_block ?_
              | refine rb_n ?_
              | refine rb_ret ?_
              | refine rb_eq ?_
              | refine rb_ne (by rfl) ?_
              | refine w_exit ?_
              | refine rt_exit ?_
              | refine w_region ?_
              | refine l_nil ?_
              | refine rt_n ?_
              | refine w_ret ?_
              | refine rt_ret ?_
              | refine w_skip ?_
              | refine w_cond_t rfl ?_
              | refine w_cond_f rfl ?_
              | refine w_cnd rfl (fun hc => ?_) (fun hc => ?_)
              | refine w_cd rfl (fun hc => ?_) (fun hc => ?_)
              | refine w_cn rfl (fun hc => ?_) (fun hc => ?_)
              | refine w_cond rfl (fun hc => ?_) (fun hc => ?_)
              | (exfalso; omega)
              | (refine l_o ?_; first | refine l_eqnil rfl (by kernel_rfl) (by intro b; simp only [nz]; rfl) (fun b hb => ?_) | refine l_op rfl (by first | (apply k_callf; first | exact ops_callf (hfc := hN) | fail) | fail) (hk := ?_) | refine l_op (hk := ?_) | (refine l_g ?_; first | refine l_y rfl rfl rfl ?_ | refine l_n rfl rfl rfl rfl (hk := ?_) | refine l_n' rfl rfl rfl (hk := ?_) | refine l_spnd rfl rfl rfl (h1 := fun hc => ?_) (h2 := fun hc => ?_) | refine l_spd rfl rfl rfl (h1 := fun hc => ?_) (h2 := fun hc => ?_) | refine l_spn rfl rfl rfl (h1 := fun hc => ?_) (h2 := fun hc => ?_) | refine l_sp rfl rfl rfl (h1 := fun hc => ?_) (h2 := fun hc => ?_)))
            all_goals first
              | (rw [if_neg hc] at hr; subst hr; (refine en_end (hf := Tryz.results128) (hr := ?_); simp only [ne, nf, nl, nr, lget, reduceIte, Nat.reduceEqDiff]; first | rfl | refine congrArg RVb ?_ | refine congrArg RVi ?_ | skip); done)
              | (rw [if_pos hc] at hr; subst hr; (refine en_end (hf := Tryz.results128) (hr := ?_); simp only [ne, nf, nl, nr, lget, reduceIte, Nat.reduceEqDiff]; first | rfl | refine congrArg RVb ?_ | refine congrArg RVi ?_ | skip); done)
              | (rw [if_pos (by simpa using hc)] at hr; subst hr; (refine en_end (hf := Tryz.results128) (hr := ?_); simp only [ne, nf, nl, nr, lget, reduceIte, Nat.reduceEqDiff]; first | rfl | refine congrArg RVb ?_ | refine congrArg RVi ?_ | skip); done)
              | trace_state
      · rw [rdT_out hl] at hr
        subst hr
        have hI := l1In_ok (s.length : Int) 1 6
        rw [show (decide ((1 : Int) ≤ (s.length : Int)) && decide ((s.length : Int) ≤ 6)) = false from by rw [Bool.and_eq_false_iff, decide_eq_false_iff_not, decide_eq_false_iff_not]; omega] at hI
        refine (fcr_in Tryz.func128 rfl (by simp only [Tryz.ntmps128, anys, List.length_cons, List.length_nil, Nat.reduceAdd, Nat.reduceSub, List.replicate_succ, List.replicate_zero, List.cons_append, List.nil_append] <;> rfl) ?_)
        repeat' first
          | refine w_seq ?_
          | refine w_block ?_
          | refine rb_n ?_
          | refine rb_ret ?_
          | refine rb_eq ?_
          | refine rb_ne (by rfl) ?_
          | refine w_exit ?_
          | refine rt_exit ?_
          | refine w_region ?_
          | refine l_nil ?_
          | refine rt_n ?_
          | refine w_ret ?_
          | refine rt_ret ?_
          | refine w_skip ?_
          | refine w_cond_t rfl ?_
          | refine w_cond_f rfl ?_
          | refine w_cnd rfl (fun hc => ?_) (fun hc => ?_)
          | refine w_cd rfl (fun hc => ?_) (fun hc => ?_)
          | refine w_cn rfl (fun hc => ?_) (fun hc => ?_)
          | refine w_cond rfl (fun hc => ?_) (fun hc => ?_)
          | (exfalso; omega)
          | (refine l_o ?_; first | refine l_eqnil rfl (by kernel_rfl) (by intro b; simp only [nz]; rfl) (fun b hb => ?_) | refine l_op rfl (by first | (apply k_index; first | exact ops_byte (i := 0) rfl rfl (List.getElem?_eq_getElem (by omega)) (by kernel_rfl) | fail) | (apply k_callf; first | exact ops_callf (hfc := hI) | fail) | fail) (hk := ?_) | refine l_op (hk := ?_) | (refine l_g ?_; first | refine l_y rfl rfl rfl ?_ | refine l_n rfl rfl rfl rfl (hk := ?_) | refine l_n' rfl rfl rfl (hk := ?_) | refine l_spnd rfl rfl rfl (h1 := fun hc => ?_) (h2 := fun hc => ?_) | refine l_spd rfl rfl rfl (h1 := fun hc => ?_) (h2 := fun hc => ?_) | refine l_spn rfl rfl rfl (h1 := fun hc => ?_) (h2 := fun hc => ?_) | refine l_sp rfl rfl rfl (h1 := fun hc => ?_) (h2 := fun hc => ?_)))
        refine en_end (hf := Tryz.results128) (hr := ?_); simp only [ne, nf, nl, nr, lget, reduceIte, Nat.reduceEqDiff]; first | rfl | refine congrArg RVb ?_ | refine congrArg RVi ?_ | skip
    · clear hm
      by_cases hl : 1 ≤ s.length ∧ s.length ≤ 6
      · have hI := l1In_ok (s.length : Int) 1 6
        rw [show (decide ((1 : Int) ≤ (s.length : Int)) && decide ((s.length : Int) ≤ 6)) = true from by rw [Bool.and_eq_true, decide_eq_true_eq, decide_eq_true_eq]; omega] at hI
        refine (fcr_in Tryz.func128 rfl (by simp only [Tryz.ntmps128, anys, List.length_cons, List.length_nil, Nat.reduceAdd, Nat.reduceSub, List.replicate_succ, List.replicate_zero, List.cons_append, List.nil_append] <;> rfl) ?_)
        repeat' first
          | refine w_seq ?_
          | refine w_block ?_
          | refine rb_n ?_
          | refine rb_ret ?_
          | refine rb_eq ?_
          | refine rb_ne (by rfl) ?_
          | refine w_exit ?_
          | refine rt_exit ?_
          | refine w_region ?_
          | refine l_nil ?_
          | refine rt_n ?_
          | refine w_ret ?_
          | refine rt_ret ?_
          | refine w_skip ?_
          | refine w_cond_t rfl ?_
          | refine w_cond_f rfl ?_
          | refine w_cnd rfl (fun hc => ?_) (fun hc => ?_)
          | refine w_cd rfl (fun hc => ?_) (fun hc => ?_)
          | refine w_cn rfl (fun hc => ?_) (fun hc => ?_)
          | refine w_cond rfl (fun hc => ?_) (fun hc => ?_)
          | (exfalso; omega)
          | (refine l_o ?_; first | refine l_eqnil rfl (by kernel_rfl) (by intro b; simp only [nz]; rfl) (fun b hb => ?_) | refine l_op rfl (by first | (apply k_callf; first | exact ops_callf (hfc := hI) | fail) | fail) (hk := ?_) | refine l_op (hk := ?_) | (refine l_g ?_; first | refine l_y rfl rfl rfl ?_ | refine l_n rfl rfl rfl rfl (hk := ?_) | refine l_n' rfl rfl rfl (hk := ?_) | refine l_spnd rfl rfl rfl (h1 := fun hc => ?_) (h2 := fun hc => ?_) | refine l_spd rfl rfl rfl (h1 := fun hc => ?_) (h2 := fun hc => ?_) | refine l_spn rfl rfl rfl (h1 := fun hc => ?_) (h2 := fun hc => ?_) | refine l_sp rfl rfl rfl (h1 := fun hc => ?_) (h2 := fun hc => ?_)))
        skip
        refine w_loopk (ι := Nat × Nat) (fun q => [(6, RVn q.1), (5, RVn q.2)]) (fun q => q.1 ≤ s.length ∧ rdD (s.drop q.1) q.2 = rdD s 0 ∧ q.2 < 10 ^ q.1) (fun q => s.length - q.1) (0, 0) (h0 := ?_) (hs := ?_) (round := ?_)
        · exact ⟨by omega, rfl, by decide⟩
        · refine le_eq (by (repeat' first | exact .nil | refine .keep ?_ | refine .any ?_); first | done | fail) rfl rfl
        · intro ⟨i, n⟩ ⟨hi, hg, hn⟩
          dsimp only at hi hg hn ⊢
          by_cases hil : i < s.length
          · rw [rdD_at hil] at hg
            have h256 := UInt8.toNat_lt s[i]
            have hp := pow_le6 (show i ≤ 6 by omega)
            by_cases hd : s[i].toNat < 48 ∨ 57 < s[i].toNat
            · rw [if_pos hd] at hg
              rw [rdT_none hg.symm] at hr
              subst hr
              repeat' first
                | refine w_seq ?_
                | refine w_block ?_
                | refine rb_n ?_
                | refine rb_ret ?_
                | refine rb_eq ?_
                | refine rb_ne (by rfl) ?_
                | refine w_exit ?_
                | refine rt_exit ?_
                | refine w_region ?_
                | refine l_nil ?_
                | refine rt_n ?_
                | refine w_ret ?_
                | refine rt_ret ?_
                | refine w_skip ?_
                | refine w_cond_t rfl ?_
                | refine w_cond_f rfl ?_
                | refine w_cnd rfl (fun hc => ?_) (fun hc => ?_)
                | refine w_cd rfl (fun hc => ?_) (fun hc => ?_)
                | refine w_cn rfl (fun hc => ?_) (fun hc => ?_)
                | refine w_cond rfl (fun hc => ?_) (fun hc => ?_)
                | (exfalso; omega)
                | (refine l_o ?_; first | refine l_eqnil rfl (by kernel_rfl) (by intro b; simp only [nz]; rfl) (fun b hb => ?_) | refine l_op rfl (by first | (apply k_index; first | exact ops_byte (i := i) rfl rfl (List.getElem?_eq_getElem (by omega)) (by kernel_rfl) | fail) | fail) (hk := ?_) | refine l_op (hk := ?_) | (refine l_g ?_; first | refine l_y rfl rfl rfl ?_ | refine l_n rfl rfl rfl rfl (hk := ?_) | refine l_n' rfl rfl rfl (hk := ?_) | refine l_spnd rfl rfl rfl (h1 := fun hc => ?_) (h2 := fun hc => ?_) | refine l_spd rfl rfl rfl (h1 := fun hc => ?_) (h2 := fun hc => ?_) | refine l_spn rfl rfl rfl (h1 := fun hc => ?_) (h2 := fun hc => ?_) | refine l_sp rfl rfl rfl (h1 := fun hc => ?_) (h2 := fun hc => ?_)))
              all_goals refine en_end (hf := Tryz.results128) (hr := ?_); simp only [ne, nf, nl, nr, lget, reduceIte, Nat.reduceEqDiff]; first | rfl | refine congrArg RVb ?_ | refine congrArg RVi ?_ | skip
            · rw [if_neg hd] at hg
              have hps := pow_step (c := s[i].toNat - 48) hn (by omega)
              repeat' first
                | refine w_seq ?_
                | refine w_block ?_
                | refine rb_n ?_
                | refine rb_ret ?_
                | refine rb_eq ?_
                | refine rb_ne (by rfl) ?_
                | refine w_exit ?_
                | refine rt_exit ?_
                | refine w_region ?_
                | refine l_nil ?_
                | refine rt_n ?_
                | refine w_ret ?_
                | refine rt_ret ?_
                | refine w_skip ?_
                | refine w_cond_t rfl ?_
                | refine w_cond_f rfl ?_
                | refine w_cnd rfl (fun hc => ?_) (fun hc => ?_)
                | refine w_cd rfl (fun hc => ?_) (fun hc => ?_)
                | refine w_cn rfl (fun hc => ?_) (fun hc => ?_)
                | refine w_cond rfl (fun hc => ?_) (fun hc => ?_)
                | (exfalso; omega)
                | (refine l_o ?_; first | refine l_eqnil rfl (by kernel_rfl) (by intro b; simp only [nz]; rfl) (fun b hb => ?_) | refine l_op rfl (by first | (apply k_index; first | exact ops_byte (i := i) rfl rfl (List.getElem?_eq_getElem (by omega)) (by kernel_rfl) | fail) | (apply k_sub; first | exact ops_sub8 (m := s[i].toNat) (n := 48) rfl rfl (by omega) (by omega) | fail) | (apply k_mul; first | exact ops_muln (m := 10) (n := n) rfl rfl (by omega) | fail) | (apply k_add; first | exact ops_addn (a := 10 * n) (b := s[i].toNat - 48) rfl rfl (by omega) | fail) | fail) (hk := ?_) | refine l_op (hk := ?_) | (refine l_g ?_; first | refine l_y rfl rfl rfl ?_ | refine l_n rfl rfl rfl rfl (hk := ?_) | refine l_n' rfl rfl rfl (hk := ?_) | refine l_spnd rfl rfl rfl (h1 := fun hc => ?_) (h2 := fun hc => ?_) | refine l_spd rfl rfl rfl (h1 := fun hc => ?_) (h2 := fun hc => ?_) | refine l_spn rfl rfl rfl (h1 := fun hc => ?_) (h2 := fun hc => ?_) | refine l_sp rfl rfl rfl (h1 := fun hc => ?_) (h2 := fun hc => ?_)))
              refine rn_mk (i + 1, 10 * n + (s[i].toNat - 48)) ?_ (by first | omega | (dsimp only; omega)) (le_eq (by (repeat' first | exact .nil | refine .keep ?_ | refine .any ?_); first | done | fail) rfl rfl)
              exact ⟨by dsimp only; omega, hg, hps⟩
          · obtain rfl : i = s.length := by omega
            rw [List.drop_eq_nil_of_le (Nat.le_refl _), rdD] at hg
            have hp := pow_le6 hl.2
            rw [rdT_yes (v := (n : Int)) hl hg.symm rfl] at hr
            have hN := l1Num_ok (n : Int) (by omega) (by omega)
            repeat' first
              | refine w_seq ?_
              | refine w_block ?_
              | refine rb_n ?_
              | refine rb_ret ?_
              | refine rb_eq ?_
              | refine rb_ne (by rfl) ?_
              | refine w_exit ?_
              | refine rt_exit ?_
              | refine w_region ?_
              | refine l_nil ?_
              | refine rt_n ?_
              | refine w_ret ?_
              | refine rt_ret ?_
              | refine w_skip ?_
              | refine w_cond_t rfl ?_
              | refine w_cond_f rfl ?_
              | refine w_cnd rfl (fun hc => ?_) (fun hc => ?_)
              | refine w_cd rfl (fun hc => ?_) (fun hc => ?_)
              | refine w_cn rfl (fun hc => ?_) (fun hc => ?_)
              | refine w_cond rfl (fun hc => ?_) (fun hc => ?_)
              | (exfalso; omega)
              | (refine l_o ?_; first | refine l_eqnil rfl (by kernel_rfl) (by intro b; simp only [nz]; rfl) (fun b hb => ?_) | refine l_op rfl (by first | (apply k_callf; first | exact ops_callf (hfc := hN) | fail) | fail) (hk := ?_) | refine l_op (hk := ?_) | (refine l_g ?_; first | refine l_y rfl rfl rfl ?_ | refine l_n rfl rfl rfl rfl (hk := ?_) | refine l_n' rfl rfl rfl (hk := ?_) | refine l_spnd rfl rfl rfl (h1 := fun hc => ?_) (h2 := fun hc => ?_) | refine l_spd rfl rfl rfl (h1 := fun hc => ?_) (h2 := fun hc => ?_) | refine l_spn rfl rfl rfl (h1 := fun hc => ?_) (h2 := fun hc => ?_) | refine l_sp rfl rfl rfl (h1 := fun hc => ?_) (h2 := fun hc => ?_)))
            all_goals first
              | (rw [if_neg hc] at hr; subst hr; (refine en_end (hf := Tryz.results128) (hr := ?_); simp only [ne, nf, nl, nr, lget, reduceIte, Nat.reduceEqDiff]; first | rfl | refine congrArg RVb ?_ | refine congrArg RVi ?_ | skip); done)
              | (rw [if_pos hc] at hr; subst hr; (refine en_end (hf := Tryz.results128) (hr := ?_); simp only [ne, nf, nl, nr, lget, reduceIte, Nat.reduceEqDiff]; first | rfl | refine congrArg RVb ?_ | refine congrArg RVi ?_ | skip); done)
              | (rw [if_pos (by simpa using hc)] at hr; subst hr; (refine en_end (hf := Tryz.results128) (hr := ?_); simp only [ne, nf, nl, nr, lget, reduceIte, Nat.reduceEqDiff]; first | rfl | refine congrArg RVb ?_ | refine congrArg RVi ?_ | skip); done)
              | trace_state
      · rw [rdT_out hl] at hr
        subst hr
        have hI := l1In_ok (s.length : Int) 1 6
        rw [show (decide ((1 : Int) ≤ (s.length : Int)) && decide ((s.length : Int) ≤ 6)) = false from by rw [Bool.and_eq_false_iff, decide_eq_false_iff_not, decide_eq_false_iff_not]; omega] at hI
        refine (fcr_in Tryz.func128 rfl (by simp only [Tryz.ntmps128, anys, List.length_cons, List.length_nil, Nat.reduceAdd, Nat.reduceSub, List.replicate_succ, List.replicate_zero, List.cons_append, List.nil_append] <;> rfl) ?_)
        repeat' first
          | refine w_seq ?_
          | refine w_block ?_
          | refine rb_n ?_
          | refine rb_ret ?_
          | refine rb_eq ?_
          | refine rb_ne (by rfl) ?_
          | refine w_exit ?_
          | refine rt_exit ?_
          | refine w_region ?_
          | refine l_nil ?_
          | refine rt_n ?_
          | refine w_ret ?_
          | refine rt_ret ?_
          | refine w_skip ?_
          | refine w_cond_t rfl ?_
          | refine w_cond_f rfl ?_
          | refine w_cnd rfl (fun hc => ?_) (fun hc => ?_)
          | refine w_cd rfl (fun hc => ?_) (fun hc => ?_)
          | refine w_cn rfl (fun hc => ?_) (fun hc => ?_)
          | refine w_cond rfl (fun hc => ?_) (fun hc => ?_)
          | (exfalso; omega)
          | (refine l_o ?_; first | refine l_eqnil rfl (by kernel_rfl) (by intro b; simp only [nz]; rfl) (fun b hb => ?_) | refine l_op rfl (by first | (apply k_callf; first | exact ops_callf (hfc := hI) | fail) | fail) (hk := ?_) | refine l_op (hk := ?_) | (refine l_g ?_; first | refine l_y rfl rfl rfl ?_ | refine l_n rfl rfl rfl rfl (hk := ?_) | refine l_n' rfl rfl rfl (hk := ?_) | refine l_spnd rfl rfl rfl (h1 := fun hc => ?_) (h2 := fun hc => ?_) | refine l_spd rfl rfl rfl (h1 := fun hc => ?_) (h2 := fun hc => ?_) | refine l_spn rfl rfl rfl (h1 := fun hc => ?_) (h2 := fun hc => ?_) | refine l_sp rfl rfl rfl (h1 := fun hc => ?_) (h2 := fun hc => ?_)))
        refine en_end (hf := Tryz.results128) (hr := ?_); simp only [ne, nf, nl, nr, lget, reduceIte, Nat.reduceEqDiff]; first | rfl | refine congrArg RVb ?_ | refine congrArg RVi ?_ | skip
end Go.Proofs.YtpcckakchpblcaaGreatDoor
