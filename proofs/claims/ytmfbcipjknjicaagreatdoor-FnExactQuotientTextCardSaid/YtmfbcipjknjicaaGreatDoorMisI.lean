/- The program's key of a position, and the least number that is left out. For all positions of the sizes that the theorems name. -/
import Derived.Test.YtmfbcipjknjicaaGreatDoorHpR
import Derived.Test.YtmfbcipjknjicaaGreatDoorJ22
import Derived.Test.YtmfbcipjknjicaaGreatDoorMisK
namespace Go.Proofs.YtmfbcipjknjicaaGreatDoor
open Eng
attribute [local irreducible] OpS OpG FC FCr Rel Fl Ef DR Fs
attribute [local simp] RV.fzR_names
set_option linter.unusedSimpArgs false
set_option linter.unusedVariables false
set_option maxHeartbeats 0
set_option maxRecDepth 100000

theorem keyOf_ok (h : List Int) (t o : Nat) (ht : t ≤ 255) (ho : o ≤ 255) (hx : ∀ x ∈ h, 0 < x ∧ x ≤ 20) (hl : h.length ≤ 20) : FCr Tryz.prog 80 [RIs h, RVn t, RVn o] (.str (keyT h t o)) := by
  refine (fcr_in Tryz.func80 rfl (by simp only [Tryz.ntmps80, anys, List.length_cons, List.length_nil, Nat.reduceAdd, Nat.reduceSub, List.replicate_succ, List.replicate_zero, List.cons_append, List.nil_append] <;> rfl) ?_)
  repeat' first
    | refine w_seq ?_
    | refine w_block ?_
    | refine rb_n ?_
    | refine rb_ret ?_
    | refine rb_eq ?_
    | refine rb_ne (by rfl) ?_
    | refine w_exit ?_
    | refine rt_exit ?_
    | refine w_region ?_
    | refine l_nil ?_
    | refine rt_n ?_
    | refine w_ret ?_
    | refine rt_ret ?_
    | refine w_skip ?_
    | refine w_cond_t rfl ?_
    | refine w_cond_f rfl ?_
    | refine w_cnd rfl (fun hc => ?_) (fun hc => ?_)
    | refine w_cd rfl (fun hc => ?_) (fun hc => ?_)
    | refine w_cn rfl (fun hc => ?_) (fun hc => ?_)
    | refine w_cond rfl (fun hc => ?_) (fun hc => ?_)
    | (refine l_o ?_; first | refine l_op rfl (by first | (apply k_convert; first | exact ops_conv8I rfl (by kernel_rfl) (by kernel_rfl) (by omega) | fail) | fail) (hk := ?_) | refine l_op (hk := ?_))
  refine w_loopm (ι := Nat × List UInt8) (fun q => [(17, RVn q.1), (7, .ref 14 0 q.2.length), (14, .any)]) (fun q => [(14, 1, q.2.map RVy)]) (fun q => q.1 ≤ h.length ∧ q.2.length = q.1 + 2 ∧ q.2 = byt t :: byt o :: (h.take q.1).map byt) (fun q => h.length - q.1) (0, [byt t, byt o]) (h0 := ?_) (hs := ?_) (round := ?_)
  · exact ⟨Nat.zero_le _, rfl, rfl⟩
  · refine le_eq (by (repeat' first | exact .nil | refine .keep ?_ | refine .any ?_); first | done | fail) rfl rfl
  · intro ⟨k, L⟩ ⟨hk, hLl, hL⟩
    dsimp only at hk hLl hL ⊢
    by_cases hk2 : k < h.length
    · have hxk := hx _ (List.getElem_mem hk2)
      repeat' first
        | refine w_seq ?_
        | refine w_block ?_
        | refine rb_n ?_
        | refine rb_ret ?_
        | refine rb_eq ?_
        | refine rb_ne (by rfl) ?_
        | refine w_exit ?_
        | refine rt_exit ?_
        | refine w_region ?_
        | refine l_nil ?_
        | refine rt_n ?_
        | refine w_ret ?_
        | refine rt_ret ?_
        | refine w_skip ?_
        | refine w_cond_t rfl ?_
        | refine w_cond_f rfl ?_
        | refine w_cnd rfl (fun hc => ?_) (fun hc => ?_)
        | refine w_cd rfl (fun hc => ?_) (fun hc => ?_)
        | refine w_cn rfl (fun hc => ?_) (fun hc => ?_)
        | refine w_cond rfl (fun hc => ?_) (fun hc => ?_)
        | (exfalso; omega)
        | (refine l_o ?_; first | refine l_op rfl (by first | (apply k_convert; first | exact ops_conv8I rfl (by kernel_rfl) (by kernel_rfl) (by omega) | fail) | fail) (hk := ?_) | refine l_op (hk := ?_))
      refine rn_mk (k + 1, L ++ [byt h[k]]) ?_ (by first | omega | (dsimp only; omega)) (le_eq (by (repeat' first | exact .nil | refine .keep ?_ | refine .any ?_); first | done | fail) rfl rfl)
      refine ⟨hk2, by dsimp only; simp; omega, ?_⟩
      dsimp only
      rw [hL, List.take_succ_eq_append_getElem hk2, List.map_append]
      rfl
    · obtain rfl : k = h.length := by omega
      rw [List.take_length] at hL
      have hL : L = keyT h t o := hL
      subst hL
      refine w_le _ (le_freeze 14 rfl (by simp only [nz, nf, nl, nb, nr, ng, nq, nu, reduceIte, Nat.reduceEqDiff, Nat.reduceAdd]; rfl) (by simp only [nz, nf, nl, nb, nr, ng, nq, nu, reduceIte, Nat.reduceEqDiff, Nat.reduceAdd]; rfl)) ?_
      repeat' first
        | refine w_seq ?_
        | refine w_block ?_
        | refine rb_n ?_
        | refine rb_ret ?_
        | refine rb_eq ?_
        | refine rb_ne (by rfl) ?_
        | refine w_exit ?_
        | refine rt_exit ?_
        | refine w_region ?_
        | refine l_nil ?_
        | refine rt_n ?_
        | refine w_ret ?_
        | refine rt_ret ?_
        | refine w_skip ?_
        | refine w_cond_t rfl ?_
        | refine w_cond_f rfl ?_
        | refine w_cnd rfl (fun hc => ?_) (fun hc => ?_)
        | refine w_cd rfl (fun hc => ?_) (fun hc => ?_)
        | refine w_cn rfl (fun hc => ?_) (fun hc => ?_)
        | refine w_cond rfl (fun hc => ?_) (fun hc => ?_)
        | (exfalso; omega)
        | (refine l_o ?_; first | refine l_op rfl (by first | (apply k_convert; first | exact ops_convs (l := keyT h t o) rfl Tryz.underlying22 Tryz.underlying5 Tryz.underlying9 | fail) | fail) (hk := ?_) | refine l_op (hk := ?_))
      refine en_one (hf := Tryz.results80) (h := ?_); simp only [lget]; first | refine congrArg RVb ?_ | refine congrArg RVi ?_ | skip
theorem mexOf_ok (l : List Int) (hl : l.length ≤ 1048576) : FCr Tryz.prog 82 [RIs l] (RVi ((mexL l : Nat) : Int)) := by
  refine (fcr_in Tryz.func82 rfl (by simp only [Tryz.ntmps82, anys, List.length_cons, List.length_nil, Nat.reduceAdd, Nat.reduceSub, List.replicate_succ, List.replicate_zero, List.cons_append, List.nil_append] <;> rfl) ?_)
  repeat' first
    | refine w_seq ?_
    | refine w_block ?_
    | refine rb_n ?_
    | refine rb_ret ?_
    | refine rb_eq ?_
    | refine rb_ne (by rfl) ?_
    | refine w_exit ?_
    | refine rt_exit ?_
    | refine w_region ?_
    | refine l_nil ?_
    | refine rt_n ?_
    | refine w_ret ?_
    | refine rt_ret ?_
    | refine w_skip ?_
    | refine w_cond_t rfl ?_
    | refine w_cond_f rfl ?_
    | refine w_cnd rfl (fun hc => ?_) (fun hc => ?_)
    | refine w_cd rfl (fun hc => ?_) (fun hc => ?_)
    | refine w_cn rfl (fun hc => ?_) (fun hc => ?_)
    | refine w_cond rfl (fun hc => ?_) (fun hc => ?_)
    | (refine l_o ?_; first | refine l_op (hk := ?_))
  refine l_makeIB (hk := fun b => ?_)
  repeat' first
    | refine w_seq ?_
    | refine w_block ?_
    | refine rb_n ?_
    | refine rb_ret ?_
    | refine rb_eq ?_
    | refine rb_ne (by rfl) ?_
    | refine w_exit ?_
    | refine rt_exit ?_
    | refine w_region ?_
    | refine l_nil ?_
    | refine rt_n ?_
    | refine w_ret ?_
    | refine rt_ret ?_
    | refine w_skip ?_
    | refine w_cond_t rfl ?_
    | refine w_cond_f rfl ?_
    | refine w_cnd rfl (fun hc => ?_) (fun hc => ?_)
    | refine w_cd rfl (fun hc => ?_) (fun hc => ?_)
    | refine w_cn rfl (fun hc => ?_) (fun hc => ?_)
    | refine w_cond rfl (fun hc => ?_) (fun hc => ?_)
    | (refine l_o ?_; first | refine l_op (hk := ?_))
  refine w_loopm (ι := Nat × List (Int × Bool)) (fun q => [(10, RVn q.1), (5, .any), (12, .any), (13, .any)]) (fun q => [(7, 0, MIB b q.2)]) (fun q => q.1 ≤ l.length ∧ Once q.2 ∧ ∀ x, (q.2.lookup x).getD false = decide (x ∈ l.take q.1)) (fun q => l.length - q.1) (0, []) (h0 := ?_) (hs := ?_) (round := ?_)
  · exact ⟨Nat.zero_le _, by simp [Once], by simp⟩
  · refine le_eq (by (repeat' first | exact .nil | refine .keep ?_ | refine .any ?_); first | done | fail) rfl rfl
  · intro ⟨k, m⟩ ⟨hk, hO, hm⟩
    dsimp only at hk hO hm ⊢
    by_cases hk2 : k < l.length
    · repeat' first
        | refine w_seq ?_
        | refine w_block ?_
        | refine rb_n ?_
        | refine rb_ret ?_
        | refine rb_eq ?_
        | refine rb_ne (by rfl) ?_
        | refine w_exit ?_
        | refine rt_exit ?_
        | refine w_region ?_
        | refine l_nil ?_
        | refine rt_n ?_
        | refine w_ret ?_
        | refine rt_ret ?_
        | refine w_skip ?_
        | refine w_cond_t rfl ?_
        | refine w_cond_f rfl ?_
        | refine w_cnd rfl (fun hc => ?_) (fun hc => ?_)
        | refine w_cd rfl (fun hc => ?_) (fun hc => ?_)
        | refine w_cn rfl (fun hc => ?_) (fun hc => ?_)
        | refine w_cond rfl (fun hc => ?_) (fun hc => ?_)
        | (exfalso; omega)
        | (refine l_o ?_; first | refine l_op rfl (by first | (apply k_mapUpdate; first | exact ops_putIB (val := true) (n := 7) hO rfl rfl rfl rfl Tryz.underlying119 Tryz.underlying3 | fail) | fail) (hk := ?_) | refine l_op (hk := ?_))
      refine rn_mk (k + 1, sput2 m l[k] true) ?_ (by first | omega | (dsimp only; omega)) (le_eq (by (repeat' first | exact .nil | refine .keep ?_ | refine .any ?_); first | done | fail) rfl rfl)
      refine ⟨hk2, once_put hO _ _, fun x => ?_⟩
      have e : (x ∈ l.take (k + 1)) = (x ∈ l.take k ∨ x = l[k]) := by rw [List.take_succ_eq_append_getElem hk2, List.mem_append, List.mem_singleton]
      simp only [lookup_put, e]
      by_cases hx : x = l[k]
      · simp [hx]
      · have := hm x
        simp [hx, this]
    · obtain rfl : k = l.length := by omega
      rw [List.take_length] at hm
      repeat' first
        | refine w_seq ?_
        | refine w_block ?_
        | refine rb_n ?_
        | refine rb_ret ?_
        | refine rb_eq ?_
        | refine rb_ne (by rfl) ?_
        | refine w_exit ?_
        | refine rt_exit ?_
        | refine w_region ?_
        | refine l_nil ?_
        | refine rt_n ?_
        | refine w_ret ?_
        | refine rt_ret ?_
        | refine w_skip ?_
        | refine w_cond_t rfl ?_
        | refine w_cond_f rfl ?_
        | refine w_cnd rfl (fun hc => ?_) (fun hc => ?_)
        | refine w_cd rfl (fun hc => ?_) (fun hc => ?_)
        | refine w_cn rfl (fun hc => ?_) (fun hc => ?_)
        | refine w_cond rfl (fun hc => ?_) (fun hc => ?_)
        | (exfalso; omega)
        | (refine l_o ?_; first | refine l_op (hk := ?_))
      refine w_loopm (ι := Nat) (fun n => [(6, RVn n), (17, .any), (18, .any), (19, .any), (20, .any), (21, .any)]) (fun _ => [(7, 0, MIB b m)]) (fun n => ∀ j < n, ((j : Nat) : Int) ∈ l) (fun n => l.length + 1 - n) 0 (h0 := ?_) (hs := ?_) (round := ?_)
      · intro j hj; omega
      · refine le_eq (by (repeat' first | exact .nil | refine .keep ?_ | refine .any ?_); first | done | fail) rfl rfl
      · intro n hb
        have hnl := below_len hb
        have hmn := hm (n : Int)
        by_cases hn : (n : Int) ∈ l
        · have hmn : (List.lookup (n : Int) m).getD false = true := by rw [hmn]; simpa using hn
          repeat' first
            | refine w_seq ?_
            | refine w_block ?_
            | refine rb_n ?_
            | refine rb_ret ?_
            | refine rb_eq ?_
            | refine rb_ne (by rfl) ?_
            | refine w_exit ?_
            | refine rt_exit ?_
            | refine w_region ?_
            | refine l_nil ?_
            | refine rt_n ?_
            | refine w_ret ?_
            | refine rt_ret ?_
            | refine w_skip ?_
            | refine w_cond_t rfl ?_
            | refine w_cond_f rfl ?_
            | refine w_cnd rfl (fun hc => ?_) (fun hc => ?_)
            | refine w_cd rfl (fun hc => ?_) (fun hc => ?_)
            | refine w_cn rfl (fun hc => ?_) (fun hc => ?_)
            | refine w_cond rfl (fun hc => ?_) (fun hc => ?_)
            | (refine l_o ?_; first | refine l_op rfl (by first | (apply k_lookup; first | exact ops_getIBv (n := 7) hO rfl rfl rfl Tryz.underlying119 Tryz.underlying3 (by kernel_rfl) hmn | fail) | fail) (hk := ?_) | refine l_op (hk := ?_))
          refine rn_mk (n + 1) ?_ (by first | omega | (dsimp only; omega)) (le_eq (by (repeat' first | exact .nil | refine .keep ?_ | refine .any ?_); first | done | fail) rfl rfl)
          intro j hj
          rcases Nat.lt_or_ge j n with h | h
          · exact hb j h
          · obtain rfl : j = n := by omega
            exact hn
        · have hmn : (List.lookup (n : Int) m).getD false = false := by rw [hmn]; simpa using hn
          repeat' first
            | refine w_seq ?_
            | refine w_block ?_
            | refine rb_n ?_
            | refine rb_ret ?_
            | refine rb_eq ?_
            | refine rb_ne (by rfl) ?_
            | refine w_exit ?_
            | refine rt_exit ?_
            | refine w_region ?_
            | refine l_nil ?_
            | refine rt_n ?_
            | refine w_ret ?_
            | refine rt_ret ?_
            | refine w_skip ?_
            | refine w_cond_t rfl ?_
            | refine w_cond_f rfl ?_
            | refine w_cnd rfl (fun hc => ?_) (fun hc => ?_)
            | refine w_cd rfl (fun hc => ?_) (fun hc => ?_)
            | refine w_cn rfl (fun hc => ?_) (fun hc => ?_)
            | refine w_cond rfl (fun hc => ?_) (fun hc => ?_)
            | (refine l_o ?_; first | refine l_op rfl (by first | (apply k_lookup; first | exact ops_getIBv (n := 7) hO rfl rfl rfl Tryz.underlying119 Tryz.underlying3 (by kernel_rfl) hmn | fail) | fail) (hk := ?_) | refine l_op (hk := ?_))
          refine en_one (hf := Tryz.results82) (h := ?_); simp only [lget]; first | refine congrArg RVb ?_ | refine congrArg RVi ?_ | skip
          rw [mexL_eq hn hb]
end Go.Proofs.YtmfbcipjknjicaaGreatDoor
