/- Rows (pairs of texts) measured, copied, compared, marked, as the drawn laws do it. For all rows. -/
import Derived.Test.YtijjcakbhnolhaaDoorExt
namespace Go.Proofs.YtijjcakbhnolhaaDoor
open Eng
attribute [local irreducible] OpS OpG FC FCr Rel Fl Ef DR Fs
set_option linter.unusedSimpArgs false
set_option maxHeartbeats 0
set_option maxRecDepth 100000

def mdig (n : Nat) : List UInt8 := if n = 0 then [] else mdig (n / 10) ++ [UInt8.ofNat (48 + n % 10)]
def mtext (k : Nat) : List UInt8 := if k = 0 then [109, 48] else 109 :: mdig k
theorem markText_ok (k : Nat) (hk : k ≤ 1099511627776) : FCr Tryd.prog 29 [RVn k] (RV.str (mtext k)) := by
  unfold mtext
  by_cases h0 : k = 0
  · rw [if_pos h0]
    refine (fcr_in Tryd.func29 rfl (by simp only [Tryd.ntmps29, anys, List.length_cons, List.length_nil, Nat.reduceAdd, Nat.reduceSub, List.replicate_succ, List.replicate_zero, List.cons_append, List.nil_append] <;> rfl) ?_)
    repeat' first | apply w_seq | apply w_block | apply rb_n | apply rb_ret | apply rb_eq | refine rb_ne (by rfl) ?_ | apply w_exit | apply rt_exit | apply w_region | apply l_nil | apply rt_n | apply w_ret | apply rt_ret | apply w_skip | refine w_cond_t rfl ?_ | refine w_cond_f rfl ?_ | ((first | refine w_cnd rfl ?_ ?_ | refine w_cd rfl ?_ ?_ | refine w_cn rfl ?_ ?_ | refine w_cond rfl ?_ ?_) <;> intro hc) | (exfalso; omega) | (refine l_o ?_; first | refine l_op (hk := ?_))
    refine en_one (hf := Tryd.results29) (h := ?_); simp only [lget]; first | refine congrArg RVb ?_ | refine congrArg RVi ?_ | skip
  · rw [if_neg h0]
    refine (fcr_in Tryd.func29 rfl (by simp only [Tryd.ntmps29, anys, List.length_cons, List.length_nil, Nat.reduceAdd, Nat.reduceSub, List.replicate_succ, List.replicate_zero, List.cons_append, List.nil_append] <;> rfl) ?_)
    repeat' first | apply w_seq | apply w_block | apply rb_n | apply rb_ret | apply rb_eq | refine rb_ne (by rfl) ?_ | apply w_exit | apply rt_exit | apply w_region | apply l_nil | apply rt_n | apply w_ret | apply rt_ret | apply w_skip | refine w_cond_t rfl ?_ | refine w_cond_f rfl ?_ | ((first | refine w_cnd rfl ?_ ?_ | refine w_cd rfl ?_ ?_ | refine w_cn rfl ?_ ?_ | refine w_cond rfl ?_ ?_) <;> intro hc) | (exfalso; omega) | (refine l_o ?_; first | refine l_op (hk := ?_))
    refine w_loopm (ι := Nat × List UInt8) (fun q => [(0, RVn q.1), (3, .str q.2)]) (fun _ => []) (fun q => q.1 ≤ k ∧ q.2.length + q.1 ≤ k ∧ mdig q.1 ++ q.2 = mdig k) (fun q => q.1) (k, []) (h0 := ?_) (hs := ?_) (round := ?_)
    · simp
    · refine le_eq (by (repeat' first | exact .nil | refine .keep ?_ | refine .any ?_); first | done | fail) rfl rfl
    · intro ⟨n, out⟩ ⟨h1, h2, h3⟩
      dsimp only at h1 h2 h3 ⊢
      by_cases hn : n = 0
      · subst hn
        repeat' first | apply w_seq | apply w_block | apply rb_n | apply rb_ret | apply rb_eq | refine rb_ne (by rfl) ?_ | apply w_exit | apply rt_exit | apply w_region | apply l_nil | apply rt_n | apply w_ret | apply rt_ret | apply w_skip | refine w_cond_t rfl ?_ | refine w_cond_f rfl ?_ | ((first | refine w_cnd rfl ?_ ?_ | refine w_cd rfl ?_ ?_ | refine w_cn rfl ?_ ?_ | refine w_cond rfl ?_ ?_) <;> intro hc) | (exfalso; omega) | (refine l_o ?_; first | refine l_op rfl (by first | (apply k_add; first | exact ops_cat (p := [109]) rfl rfl (by simp; omega) | fail) | fail) (hk := ?_) | refine l_op (hk := ?_))
        rw [mdig, if_pos rfl] at h3
        refine en_one (hf := Tryd.results29) (h := ?_); simp only [lget]; first | refine congrArg RVb ?_ | refine congrArg RVi ?_ | skip
        rw [← h3]; rfl
      · rw [mdig, if_neg hn, List.append_assoc] at h3
        repeat' first | apply w_seq | apply w_block | apply rb_n | apply rb_ret | apply rb_eq | refine rb_ne (by rfl) ?_ | apply w_exit | apply rt_exit | apply w_region | apply l_nil | apply rt_n | apply w_ret | apply rt_ret | apply w_skip | refine w_cond_t rfl ?_ | refine w_cond_f rfl ?_ | ((first | refine w_cnd rfl ?_ ?_ | refine w_cd rfl ?_ ?_ | refine w_cn rfl ?_ ?_ | refine w_cond rfl ?_ ?_) <;> intro hc) | (exfalso; omega) | (refine l_o ?_; first | refine l_op rfl (by first | (apply k_rem; first | exact ops_remn (n := 10) rfl rfl (by omega) | fail) | (apply k_quo; first | exact ops_quon (n := 10) rfl rfl (by omega) (by omega) | fail) | (apply k_add; first | exact ops_addn (a := 48) rfl rfl (by omega) | exact ops_cat (p := [UInt8.ofNat (48 + n % 10)]) rfl rfl (by simp; omega) | fail) | (apply k_buildSlice; first | exact ops_buildSlice_fz (k := 1) (z := .int .u8 0) rfl rfl rfl (by decide) (by decide) (by kernel_rfl) (by decide +kernel) (by kernel_rfl) | fail) | (apply k_convert; first | exact ops_conv8 (m := 48 + n % 10) rfl (by kernel_rfl) Tryd.underlying5 (by omega) | exact ops_convs (l := [UInt8.ofNat (48 + n % 10)]) (by simp only [nz, nf] <;> rfl) Tryd.underlying59 Tryd.underlying5 Tryd.underlying9 | fail) | fail) (hk := ?_) | refine l_op (hk := ?_))
        refine rn_mk (n / 10, UInt8.ofNat (48 + n % 10) :: out) ?_ (by first | omega | (dsimp only; omega)) (le_eq (by (repeat' first | exact .nil | refine .keep ?_ | refine .any ?_); first | done | fail) rfl rfl)
        exact ⟨by omega, by simp; omega, h3⟩
end Go.Proofs.YtijjcakbhnolhaaDoor
