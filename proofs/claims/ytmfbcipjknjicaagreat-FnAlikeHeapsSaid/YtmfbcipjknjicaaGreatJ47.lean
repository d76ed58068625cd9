/- Small functions of the laws: sizes, likeness of lists. For all lists. -/
import Derived.Test.YtmfbcipjknjicaaGreatAlk
import Derived.Test.YtmfbcipjknjicaaGreatJ6
namespace Go.Proofs.YtmfbcipjknjicaaGreat
open Eng
attribute [local irreducible] OpS OpG FC FCr Rel Fl Ef DR Fs
set_option linter.unusedSimpArgs false
set_option linter.unusedVariables false
set_option maxHeartbeats 0
set_option maxRecDepth 100000

theorem rBigQ_ok (l : List UInt8) : FCr Tryz.prog 5 [RYs l] (RVb (decide ((65536 : Int) < (l.length : Nat)))) := by
  refine (fcr_in Tryz.func5 rfl (by simp only [Tryz.ntmps5, anys, List.length_cons, List.length_nil, Nat.reduceAdd, Nat.reduceSub, List.replicate_succ, List.replicate_zero, List.cons_append, List.nil_append] <;> rfl) ?_)
  repeat' first
    | refine w_seq ?_
    | refine w_region ?_
    | refine l_nil ?_
    | refine rt_n ?_
    | refine w_ret ?_
    | refine rt_ret ?_
    | refine w_skip ?_
    | (refine l_o ?_; first | refine l_op (hk := ?_))
  refine en_one (hf := Tryz.results5) (h := ?_); simp only [lget]; first | refine congrArg RVb ?_ | refine congrArg RVi ?_ | skip
end Go.Proofs.YtmfbcipjknjicaaGreat
/- Bytes cut, as laws do it. For all bytes of the lengths that the theorem names. -/
namespace Go.Proofs.YtmfbcipjknjicaaGreat
open Eng
section
variable {P : Program} {ty : TypeId} {pos : String} {after : Array Edge} {s : St} {d : Option Tmp} {g : Option (Nat × Bool)}
theorem intBits_xor8 (a b : UInt8) : Op.intBits .xor .u8 (a.toNat : Nat) (b.toNat : Nat) = pure (.int .u8 (((a ^^^ b).toNat : Nat) : Int)) := by
  have ha := UInt8.toNat_lt a
  have hb := UInt8.toNat_lt b
  have hx := UInt8.toNat_lt (a ^^^ b)
  have h5 : (BitVec.ofInt 8 (a.toNat : Nat) ^^^ BitVec.ofInt 8 (b.toNat : Nat)).toNat = (a ^^^ b).toNat := by
    rw [UInt8.toNat_xor, BitVec.toNat_xor]
    congr 1 <;> simp
  have h4 : IntKind.u8.wrap (((a ^^^ b).toNat : Nat) : Int) = (((a ^^^ b).toNat : Nat) : Int) := by rw [IntKind.wrap_u8]; omega
  show pure (Value.int .u8 (IntKind.u8.wrap ((BitVec.ofInt 8 (a.toNat : Nat) ^^^ BitVec.ofInt 8 (b.toNat : Nat)).toNat : Int))) = _
  rw [h5, h4]
theorem ops_xor8 {x y t u} {a b : UInt8} (hx : s.get x = RVy a) (hy : s.get y = RVy b) : OpS P ⟨d, .binOp .xor t x y u, ty, pos, after, g⟩ s ⟨sput d (RVy (a ^^^ b)) s.fr, s.O⟩ :=
  ops_exact fun _ a' _ _ _ _ hr => by simp [execOp, hr.ex hx, hr.ex hy, binOp, eqGuard, intBits_xor8]
end
open Eng
attribute [local irreducible] OpS OpG FC FCr Rel Fl Ef DR Fs
attribute [local simp] RV.fzR_names
set_option linter.unusedSimpArgs false
set_option linter.unusedVariables false
set_option maxHeartbeats 0
set_option maxRecDepth 100000

/-- Bytes cut, as laws do it. -/
def cutN (n : Nat) (code : List UInt8) : List UInt8 := UInt8.ofNat (37 * n + code.length % 50) :: (code.drop n).map fun b => b ^^^ UInt8.ofNat n
theorem rCutN_ok (n : Nat) (hn : n = 3) (code : List UInt8) (hc : code.length ≤ 1000000) : FCr Tryz.prog 10 [RYs code, RVn n] (.ow 1 ((cutN n code).map RVy)) := by
  refine (fcr_in Tryz.func10 rfl (by simp only [Tryz.ntmps10, anys, List.length_cons, List.length_nil, Nat.reduceAdd, Nat.reduceSub, List.replicate_succ, List.replicate_zero, List.cons_append, List.nil_append] <;> rfl) ?_)
  repeat' first
    | refine w_seq ?_
    | refine w_block ?_
    | refine rb_n ?_
    | refine rb_ret ?_
    | refine rb_eq ?_
    | refine rb_ne (by rfl) ?_
    | refine w_exit ?_
    | refine rt_exit ?_
    | refine w_region ?_
    | refine l_nil ?_
    | refine rt_n ?_
    | refine w_ret ?_
    | refine rt_ret ?_
    | refine w_skip ?_
    | refine w_cond_t rfl ?_
    | refine w_cond_f rfl ?_
    | refine w_cnd rfl (fun hc => ?_) (fun hc => ?_)
    | refine w_cd rfl (fun hc => ?_) (fun hc => ?_)
    | refine w_cn rfl (fun hc => ?_) (fun hc => ?_)
    | refine w_cond rfl (fun hc => ?_) (fun hc => ?_)
    | (refine l_o ?_; first | refine l_op rfl (by first | (apply k_mul; first | exact ops_muln (m := 37) (n := n) rfl rfl (by omega) | fail) | (apply k_rem; first | exact ops_remn (m := code.length) (n := 50) rfl rfl (by omega) | fail) | (apply k_add; first | exact ops_addn (a := 37 * n) (b := code.length % 50) rfl rfl (by omega) | fail) | (apply k_convert; first | exact ops_conv8 (m := 37 * n + code.length % 50) rfl (by kernel_rfl) Tryz.underlying5 (by omega) | fail) | fail) (hk := ?_) | refine l_op (hk := ?_))
  refine w_loopm (ι := Nat × List UInt8) (fun q => [(6, RVn q.1), (5, .ref 14 0 q.2.length), (14, .any)]) (fun q => [(14, 1, q.2.map RVy)]) (fun q => n ≤ q.1 ∧ q.2.length + n = q.1 + 1 ∧ (q.1 ≤ n ∨ q.1 ≤ code.length) ∧ q.2 = UInt8.ofNat (37 * n + code.length % 50) :: ((code.drop n).take (q.1 - n)).map fun b => b ^^^ UInt8.ofNat n) (fun q => code.length - q.1) (n, [UInt8.ofNat (37 * n + code.length % 50)]) (h0 := ?_) (hs := ?_) (round := ?_)
  · exact ⟨by omega, by simp; omega, .inl (by omega), by simp⟩
  · refine le_eq (by (repeat' first | exact .nil | refine .keep ?_ | refine .any ?_); first | done | fail) rfl rfl
  · intro ⟨i, out⟩ ⟨h2, hol, hi, ho⟩
    dsimp only at h2 hol hi ho ⊢
    by_cases hil : i < code.length
    · repeat' first
        | refine w_seq ?_
        | refine w_block ?_
        | refine rb_n ?_
        | refine rb_ret ?_
        | refine rb_eq ?_
        | refine rb_ne (by rfl) ?_
        | refine w_exit ?_
        | refine rt_exit ?_
        | refine w_region ?_
        | refine l_nil ?_
        | refine rt_n ?_
        | refine w_ret ?_
        | refine rt_ret ?_
        | refine w_skip ?_
        | refine w_cond_t rfl ?_
        | refine w_cond_f rfl ?_
        | refine w_cnd rfl (fun hc => ?_) (fun hc => ?_)
        | refine w_cd rfl (fun hc => ?_) (fun hc => ?_)
        | refine w_cn rfl (fun hc => ?_) (fun hc => ?_)
        | refine w_cond rfl (fun hc => ?_) (fun hc => ?_)
        | (exfalso; omega)
        | (refine l_o ?_; first | refine l_op rfl (by first | (apply k_convert; first | exact ops_conv8 (m := n) rfl (by kernel_rfl) Tryz.underlying5 (by omega) | fail) | (apply k_xor; first | exact ops_xor8 (a := code[i]) (b := UInt8.ofNat n) rfl rfl | fail) | fail) (hk := ?_) | refine l_op (hk := ?_))
      refine rn_mk (i + 1, out ++ [code[i] ^^^ UInt8.ofNat n]) ?_ ?_ (le_eq (by (repeat' first | exact .nil | refine .keep ?_ | refine .any ?_); first | done | fail) rfl rfl)
      rotate_left
      · show code.length - (i + 1) < code.length - i; omega
      refine ⟨by dsimp only; omega, by simp; omega, .inr (by dsimp only; omega), ?_⟩
      dsimp only
      have e : (code.drop n).take (i + 1 - n) = (code.drop n).take (i - n) ++ [code[i]] := by
        rw [show i + 1 - n = (i - n) + 1 by omega, List.take_succ_eq_append_getElem (by simp; omega), List.getElem_drop]
        congr 2
        congr 1
        omega
      rw [e, List.map_append, ho]
      simp
    · have e : (code.drop n).take (i - n) = code.drop n := List.take_of_length_le (by simp; omega)
      rw [e] at ho
      rw [show cutN n code = out from ho.symm]
      repeat' first
        | refine w_seq ?_
        | refine w_block ?_
        | refine rb_n ?_
        | refine rb_ret ?_
        | refine rb_eq ?_
        | refine rb_ne (by rfl) ?_
        | refine w_exit ?_
        | refine rt_exit ?_
        | refine w_region ?_
        | refine l_nil ?_
        | refine rt_n ?_
        | refine w_ret ?_
        | refine rt_ret ?_
        | refine w_skip ?_
        | refine w_cond_t rfl ?_
        | refine w_cond_f rfl ?_
        | refine w_cnd rfl (fun hc => ?_) (fun hc => ?_)
        | refine w_cd rfl (fun hc => ?_) (fun hc => ?_)
        | refine w_cn rfl (fun hc => ?_) (fun hc => ?_)
        | refine w_cond rfl (fun hc => ?_) (fun hc => ?_)
        | (exfalso; omega)
        | (refine l_o ?_; first | refine l_op (hk := ?_))
      refine en_end (hf := Tryz.results10) (hr := ?_); simp only [ne, nf, nl, nr, lget, reduceIte, Nat.reduceEqDiff]; first | rfl | refine congrArg RVb ?_ | refine congrArg RVi ?_ | skip
end Go.Proofs.YtmfbcipjknjicaaGreat
