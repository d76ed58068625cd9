/- Lists of ints and lists of such lists: measured, copied, compared, as the drawn laws do it. Each for all lists. -/
import Derived.Test.YtoekdkoadienmaaEe
import Derived.Test.YtoekdkoadienmaaRows
namespace Go.Proofs.Ytoekdkoadienmaa
open Eng
attribute [local irreducible] OpS OpG FC FCr Rel Fl Ef DR
set_option linter.unusedSimpArgs false
set_option maxHeartbeats 0
set_option maxRecDepth 100000

theorem dc {α : Type} {l : List α} {k : Nat} (h : k < l.length) : l.drop k = l[k] :: l.drop (k + 1) := List.drop_eq_getElem_cons h
theorem dn {α : Type} {l : List α} {k : Nat} (h : ¬ (k : Int) < (l.length : Int)) : l.drop k = [] := List.drop_of_length_le (by omega)
theorem drop_both {α : Type} {l m : List α} {k : Nat} (h : k < l.length) (h2 : k < m.length) : (l.drop k = m.drop k) ↔ l[k] = m[k] ∧ l.drop (k + 1) = m.drop (k + 1) := by
  rw [List.drop_eq_getElem_cons h, List.drop_eq_getElem_cons h2, List.cons.injEq]

theorem take_set_next {α : Type} {m l : List α} {k : Nat} (hg : m.take k = l.take k) (hm : m.length = l.length) (h : k < l.length) : (m.set k l[k]).take (k + 1) = l.take (k + 1) := by
  rw [List.take_succ_eq_append_getElem (by simp; omega), List.take_succ_eq_append_getElem (by omega), List.take_set_of_le (by omega), hg]
  simp
theorem szIntS_ok (l : List Int) (left : Int) (h0 : 0 ≤ left) (h1 : left ≤ 1048576) : FCr Try.prog 69 [RIs l, RVi left] (RVi (if left - l.length < 0 then -1 else left - l.length)) := by
  refine fcr_lens fun hL => ?_
  simp only [lnk] at hL
  refine (fcr_in Try.func69 rfl (by simp only [Try.ntmps69, anys, List.length_cons, List.length_nil, Nat.reduceAdd, Nat.reduceSub, List.replicate_succ, List.replicate_zero, List.cons_append, List.nil_append] <;> rfl) ?_)
  repeat' first
    | refine w_seq ?_
    | refine w_region ?_
    | refine l_nil ?_
    | refine rt_n ?_
    | refine w_ret ?_
    | refine rt_ret ?_
    | refine w_skip ?_
    | refine w_cond_t rfl ?_
    | refine w_cond_f rfl ?_
    | refine w_cnd rfl (fun hc => ?_) (fun hc => ?_)
    | refine w_cd rfl (fun hc => ?_) (fun hc => ?_)
    | refine w_cn rfl (fun hc => ?_) (fun hc => ?_)
    | refine w_cond rfl (fun hc => ?_) (fun hc => ?_)
    | (refine l_o ?_; refine l_op rfl (by first | exact ops_move | exact ops_assign | (apply k_lss; first | exact ops_lss rfl rfl | exact ops_lts rfl rfl | fail) | (apply k_sub; first | exact ops_sub rfl rfl (by omega) (by omega) | fail) | (apply k_len; first | exact ops_len_sh rfl (by kernel_rfl) | exact ops_len_ref rfl (by kernel_rfl) | exact ops_len_nil rfl (by kernel_rfl) | exact ops_lens rfl (by kernel_rfl) | fail) | fail) (by simp only [nz, nf, nl, nb, nr, reduceIte, Nat.reduceEqDiff, Nat.reduceAdd]; rfl) ?_)
  all_goals
    refine en_one (by first | exact .inl rfl | exact .inr rfl) Try.results69 rfl rfl ?_; simp only [lget]; first | refine congrArg RVb ?_ | refine congrArg RVi ?_ | skip
    simp [*]

/-- How the lists of a list are measured. -/
def szSS : List (List Int) → Int → Int
  | [], left => left
  | r :: rs, left => if left - r.length < 0 then -1 else szSS rs (left - r.length)

/-- How a list of lists is measured. -/
def szSSr (l : List (List Int)) (left : Int) : Int := if left - l.length < 0 then -1 else szSS l (left - l.length)

theorem szIntSS_ok (l : List (List Int)) (left : Int) (h0 : 0 ≤ left) (h1 : left ≤ 1048576) :
    FCr Try.prog 43 [RIss l, RVi left] (RVi (szSSr l left)) := by
  refine fcr_lens fun hL => ?_
  simp only [lnk] at hL
  refine (fcr_in Try.func43 rfl (by simp only [Try.ntmps43, anys, List.length_cons, List.length_nil, Nat.reduceAdd, Nat.reduceSub, List.replicate_succ, List.replicate_zero, List.cons_append, List.nil_append] <;> rfl) ?_)
  repeat' first
    | refine w_seq ?_
    | refine w_block ?_
    | refine rb_n ?_
    | refine rb_ret ?_
    | refine rb_eq ?_
    | refine rb_ne (by rfl) ?_
    | refine w_exit ?_
    | refine rt_exit ?_
    | refine w_region ?_
    | refine l_nil ?_
    | refine rt_n ?_
    | refine w_ret ?_
    | refine rt_ret ?_
    | refine w_skip ?_
    | refine w_cond_t rfl ?_
    | refine w_cond_f rfl ?_
    | refine w_cnd rfl (fun hc => ?_) (fun hc => ?_)
    | refine w_cd rfl (fun hc => ?_) (fun hc => ?_)
    | refine w_cn rfl (fun hc => ?_) (fun hc => ?_)
    | refine w_cond rfl (fun hc => ?_) (fun hc => ?_)
    | (refine l_o ?_; refine l_op rfl (by first | exact ops_move | exact ops_assign | (apply k_lss; first | exact ops_lss rfl rfl | exact ops_lts rfl rfl | fail) | (apply k_add; first | exact ops_inc rfl (by omega) | exact ops_add rfl rfl (by omega) (by omega) | exact ops_cat rfl rfl (by omega) | fail) | (apply k_sub; first | exact ops_sub rfl rfl (by omega) (by omega) | fail) | (apply k_len; first | exact ops_len_sh rfl (by kernel_rfl) | exact ops_len_ref rfl (by kernel_rfl) | exact ops_len_nil rfl (by kernel_rfl) | exact ops_lens rfl (by kernel_rfl) | fail) | (apply k_load; first | exact ops_load_psh rfl rfl (by decide +kernel) | exact ops_load_psha rfl (by decide +kernel) (by kernel_rfl) (by simp) | exact ops_load_map rfl rfl (by omega) rfl (by decide +kernel) | exact ops_load_mapa rfl rfl (by omega) rfl (by decide +kernel) (by kernel_rfl) | exact ops_load_mapj rfl rfl (by omega) rfl rfl (by decide +kernel) | exact ops_load_ptr rfl rfl rfl rfl rfl (by decide +kernel) | exact ops_load_ptra rfl rfl rfl rfl (by decide +kernel) (by kernel_rfl) | fail) | (apply k_indexAddr; first | exact ops_idx_map rfl rfl (by omega) (by kernel_rfl) (by kernel_rfl) | exact ops_idx_refm rfl rfl (by omega) rfl (by omega) (by kernel_rfl) (by kernel_rfl) | exact ops_idx_mapI rfl rfl (by omega) (by omega) (by kernel_rfl) (by kernel_rfl) | exact ops_idx_refmI rfl rfl (by omega) (by omega) rfl (by omega) (by kernel_rfl) (by kernel_rfl) | exact ops_idx_ref rfl rfl (by omega) rfl (by simp) (by kernel_rfl) (by kernel_rfl) | fail) | fail) (by simp only [nz, nf, nl, nb, nr, reduceIte, Nat.reduceEqDiff, Nat.reduceAdd]; rfl) ?_)
  · refine en_one (by first | exact .inl rfl | exact .inr rfl) Try.results43 rfl rfl ?_; simp only [lget]; first | refine congrArg RVb ?_ | refine congrArg RVi ?_ | skip
    simp [szSSr, *]
  have hn := hc; clear hc
  refine w_loopm (ι := Nat × Int) (fun k => [(5, RVi k.1), (1, RVi k.2)]) (fun _ => []) (fun k => k.1 ≤ l.length ∧ 0 ≤ k.2 ∧ k.2 ≤ 1048576 ∧ szSS (l.drop k.1) k.2 = szSS l (left - l.length)) (fun k => l.length - k.1) (0, left - l.length) (by simp only [wr, List.filterMap_cons, List.filterMap_nil, List.cons_append, List.nil_append, List.append_nil] <;> rfl) (by simp only [forget, lset] <;> rfl) (by intro i; simp only [puts, lset] <;> rfl) ?_ ?_ ?_
  · simp; omega
  · refine le_eq (by (repeat' first | exact .nil | refine .keep ?_ | refine .any ?_); first | done | fail) rfl rfl
  · intro ⟨k, p⟩ ⟨hk, hp0, hp1, hg⟩
    dsimp only at hk hp0 hp1 hg ⊢
    repeat' first
      | refine w_seq ?_
      | refine w_block ?_
      | refine rb_n ?_
      | refine rb_ret ?_
      | refine rb_eq ?_
      | refine rb_ne (by rfl) ?_
      | refine w_exit ?_
      | refine rt_exit ?_
      | refine w_region ?_
      | refine l_nil ?_
      | refine rt_n ?_
      | refine w_ret ?_
      | refine rt_ret ?_
      | refine w_skip ?_
      | refine w_cond_t rfl ?_
      | refine w_cond_f rfl ?_
      | refine w_cnd rfl (fun hc => ?_) (fun hc => ?_)
      | refine w_cd rfl (fun hc => ?_) (fun hc => ?_)
      | refine w_cn rfl (fun hc => ?_) (fun hc => ?_)
      | refine w_cond rfl (fun hc => ?_) (fun hc => ?_)
      | (refine l_o ?_; refine l_op rfl (by first | exact ops_move | exact ops_assign | (apply k_lss; first | exact ops_lss rfl rfl | exact ops_lts rfl rfl | fail) | (apply k_add; first | exact ops_inc rfl (by omega) | exact ops_add rfl rfl (by omega) (by omega) | exact ops_cat rfl rfl (by omega) | fail) | (apply k_sub; first | exact ops_sub rfl rfl (by omega) (by omega) | fail) | (apply k_len; first | exact ops_len_sh rfl (by kernel_rfl) | exact ops_len_ref rfl (by kernel_rfl) | exact ops_len_nil rfl (by kernel_rfl) | exact ops_lens rfl (by kernel_rfl) | fail) | (apply k_load; first | exact ops_load_psh rfl rfl (by decide +kernel) | exact ops_load_psha rfl (by decide +kernel) (by kernel_rfl) (by simp) | exact ops_load_map rfl rfl (by omega) rfl (by decide +kernel) | exact ops_load_mapa rfl rfl (by omega) rfl (by decide +kernel) (by kernel_rfl) | exact ops_load_mapj rfl rfl (by omega) rfl rfl (by decide +kernel) | exact ops_load_ptr rfl rfl rfl rfl rfl (by decide +kernel) | exact ops_load_ptra rfl rfl rfl rfl (by decide +kernel) (by kernel_rfl) | fail) | (apply k_indexAddr; first | exact ops_idx_map rfl rfl (by omega) (by kernel_rfl) (by kernel_rfl) | exact ops_idx_refm rfl rfl (by omega) rfl (by omega) (by kernel_rfl) (by kernel_rfl) | exact ops_idx_mapI rfl rfl (by omega) (by omega) (by kernel_rfl) (by kernel_rfl) | exact ops_idx_refmI rfl rfl (by omega) (by omega) rfl (by omega) (by kernel_rfl) (by kernel_rfl) | exact ops_idx_ref rfl rfl (by omega) rfl (by simp) (by kernel_rfl) (by kernel_rfl) | fail) | (apply k_callf; first | exact ops_callf rfl rfl (by kernel_rfl) (szIntS_ok _ p hp0 hp1) | fail) | fail) (by simp only [nz, nf, nl, nb, nr, reduceIte, Nat.reduceEqDiff, Nat.reduceAdd]; rfl) ?_)
    · refine en_one (by first | exact .inl rfl | exact .inr rfl) Try.results43 rfl rfl ?_; simp only [lget]; first | refine congrArg RVb ?_ | refine congrArg RVi ?_ | skip
      grind [szSSr, szSS, dc]
    · have hc3 : ¬ p - l[k].length < 0 := by grind
      rw [if_neg hc3]
      refine rn_mk (k + 1, p - l[k].length) ?_ (by first | omega | (dsimp only; omega)) (le_eq (by (repeat' first | exact .nil | refine .keep ?_ | refine .any ?_); first | done | fail) rfl rfl)
      grind [szSS, dc]
    · refine en_one (by first | exact .inl rfl | exact .inr rfl) Try.results43 rfl rfl ?_; simp only [lget]; first | refine congrArg RVb ?_ | refine congrArg RVi ?_ | skip
      grind [szSSr, szSS, dn]

theorem eqIntS_ok (l m : List Int) : FCr Try.prog 29 [RIs l, RIs m] (RVb (decide (l = m))) := by
  refine fcr_lens fun hL => ?_
  simp only [lnk] at hL
  refine (fcr_in Try.func29 rfl (by simp only [Try.ntmps29, anys, List.length_cons, List.length_nil, Nat.reduceAdd, Nat.reduceSub, List.replicate_succ, List.replicate_zero, List.cons_append, List.nil_append] <;> rfl) ?_)
  repeat' first
    | refine w_seq ?_
    | refine w_block ?_
    | refine rb_n ?_
    | refine rb_ret ?_
    | refine rb_eq ?_
    | refine rb_ne (by rfl) ?_
    | refine w_exit ?_
    | refine rt_exit ?_
    | refine w_region ?_
    | refine l_nil ?_
    | refine rt_n ?_
    | refine w_ret ?_
    | refine rt_ret ?_
    | refine w_skip ?_
    | refine w_cond_t rfl ?_
    | refine w_cond_f rfl ?_
    | refine w_cnd rfl (fun hc => ?_) (fun hc => ?_)
    | refine w_cd rfl (fun hc => ?_) (fun hc => ?_)
    | refine w_cn rfl (fun hc => ?_) (fun hc => ?_)
    | refine w_cond rfl (fun hc => ?_) (fun hc => ?_)
    | (refine l_o ?_; refine l_op rfl (by first | exact ops_move | exact ops_assign | (apply k_lss; first | exact ops_lss rfl rfl | exact ops_lts rfl rfl | fail) | (apply k_neq; first | exact ops_nei rfl rfl | exact ops_nes rfl rfl | exact ops_neb rfl rfl (by kernel_rfl) | fail) | (apply k_add; first | exact ops_inc rfl (by omega) | exact ops_add rfl rfl (by omega) (by omega) | exact ops_cat rfl rfl (by omega) | fail) | (apply k_len; first | exact ops_len_sh rfl (by kernel_rfl) | exact ops_len_ref rfl (by kernel_rfl) | exact ops_len_nil rfl (by kernel_rfl) | exact ops_lens rfl (by kernel_rfl) | fail) | (apply k_load; first | exact ops_load_psh rfl rfl (by decide +kernel) | exact ops_load_psha rfl (by decide +kernel) (by kernel_rfl) (by simp) | exact ops_load_map rfl rfl (by omega) rfl (by decide +kernel) | exact ops_load_mapa rfl rfl (by omega) rfl (by decide +kernel) (by kernel_rfl) | exact ops_load_mapj rfl rfl (by omega) rfl rfl (by decide +kernel) | exact ops_load_ptr rfl rfl rfl rfl rfl (by decide +kernel) | exact ops_load_ptra rfl rfl rfl rfl (by decide +kernel) (by kernel_rfl) | fail) | (apply k_indexAddr; first | exact ops_idx_map rfl rfl (by omega) (by kernel_rfl) (by kernel_rfl) | exact ops_idx_refm rfl rfl (by omega) rfl (by omega) (by kernel_rfl) (by kernel_rfl) | exact ops_idx_mapI rfl rfl (by omega) (by omega) (by kernel_rfl) (by kernel_rfl) | exact ops_idx_refmI rfl rfl (by omega) (by omega) rfl (by omega) (by kernel_rfl) (by kernel_rfl) | exact ops_idx_ref rfl rfl (by omega) rfl (by simp) (by kernel_rfl) (by kernel_rfl) | fail) | fail) (by simp only [nz, nf, nl, nb, nr, reduceIte, Nat.reduceEqDiff, Nat.reduceAdd]; rfl) ?_)
    | refine d_nil ?_
    | (refine d_o ?_; first | refine d_fl rfl (by first | exact .move | exact .assign | exact .pl (by first | (apply q_lss; first | exact fs_lss rfl rfl | exact fs_lts rfl rfl | fail) | (apply q_neq; first | exact fs_nei rfl rfl | exact fs_nes rfl rfl | exact fs_neb rfl rfl (by kernel_rfl) | fail) | (apply q_add; first | exact fs_inc rfl (by omega) | exact fs_add rfl rfl (by omega) (by omega) | exact fs_cat rfl rfl (by omega) | fail) | (apply q_len; first | exact fs_len_sh rfl (by kernel_rfl) | exact fs_len_ref rfl (by kernel_rfl) | exact fs_len_nil rfl (by kernel_rfl) | exact fs_lens rfl (by kernel_rfl) | fail) | (apply q_load; first | exact fs_load_psh rfl rfl (by decide +kernel) | exact fs_load_psha rfl (by decide +kernel) (by kernel_rfl) (by simp) | exact fs_load_map rfl rfl rfl (by omega) rfl (by decide +kernel) | exact fs_load_mapa rfl rfl rfl (by omega) rfl (by decide +kernel) (by kernel_rfl) | exact fs_load_mapj rfl rfl rfl (by omega) rfl rfl (by decide +kernel) | exact fs_load_ptr rfl rfl rfl rfl rfl rfl (by decide +kernel) | exact fs_load_ptra rfl rfl rfl rfl rfl (by decide +kernel) (by kernel_rfl) | fail) | (apply q_indexAddr; first | exact fs_idx_map rfl rfl (by omega) (by kernel_rfl) (by kernel_rfl) | exact fs_idx_refm rfl rfl (by omega) rfl rfl (by omega) (by kernel_rfl) (by kernel_rfl) | exact fs_idx_mapI rfl rfl (by omega) (by omega) (by kernel_rfl) (by kernel_rfl) | exact fs_idx_refmI rfl rfl (by omega) (by omega) rfl rfl (by omega) (by kernel_rfl) (by kernel_rfl) | exact fs_idx_ref rfl rfl (by omega) rfl rfl (by simp) (by kernel_rfl) (by kernel_rfl) | fail) | fail) | fail) (by simp only [nz, nf, nl, nb, nr, reduceIte, Nat.reduceEqDiff, Nat.reduceAdd]; rfl) (by first | (simp [nm]; done) | simp [nm, nz, nb]) ?_)
    | (refine w_o ?_; first | refine w_draw (id := 6) (fun _ => true) (fun k => [].contains k) [] 64 (by kernel_rfl) (by kernel_rfl) (by simp [nm]) ?_)
  · refine en_one (by first | exact .inl rfl | exact .inr rfl) Try.results29 rfl rfl ?_; simp only [lget]; first | refine congrArg RVb ?_ | refine congrArg RVi ?_ | skip
    grind
  have hn : l.length = m.length := by omega
  clear hc
  refine w_loopm (ι := Nat) (fun k => [(5, RVi k)]) (fun _ => []) (fun k => k ≤ l.length ∧ ((l.drop k = m.drop k) ↔ l = m)) (fun k => l.length - k) 0 (by simp only [wr, List.filterMap_cons, List.filterMap_nil, List.cons_append, List.nil_append, List.append_nil] <;> rfl) (by simp only [forget, lset] <;> rfl) (by intro i; simp only [puts, lset] <;> rfl) ?_ ?_ ?_
  · simp
  · refine le_eq (by (repeat' first | exact .nil | refine .keep ?_ | refine .any ?_); first | done | fail) rfl rfl
  · intro k ⟨hk, hg⟩
    repeat' first
      | refine w_seq ?_
      | refine w_block ?_
      | refine rb_n ?_
      | refine rb_ret ?_
      | refine rb_eq ?_
      | refine rb_ne (by rfl) ?_
      | refine w_exit ?_
      | refine rt_exit ?_
      | refine w_region ?_
      | refine l_nil ?_
      | refine rt_n ?_
      | refine w_ret ?_
      | refine rt_ret ?_
      | refine w_skip ?_
      | refine w_cond_t rfl ?_
      | refine w_cond_f rfl ?_
      | refine w_cnd rfl (fun hc => ?_) (fun hc => ?_)
      | refine w_cd rfl (fun hc => ?_) (fun hc => ?_)
      | refine w_cn rfl (fun hc => ?_) (fun hc => ?_)
      | refine w_cond rfl (fun hc => ?_) (fun hc => ?_)
      | (refine l_o ?_; refine l_op rfl (by first | exact ops_move | exact ops_assign | (apply k_lss; first | exact ops_lss rfl rfl | exact ops_lts rfl rfl | fail) | (apply k_neq; first | exact ops_nei rfl rfl | exact ops_nes rfl rfl | exact ops_neb rfl rfl (by kernel_rfl) | fail) | (apply k_add; first | exact ops_inc rfl (by omega) | exact ops_add rfl rfl (by omega) (by omega) | exact ops_cat rfl rfl (by omega) | fail) | (apply k_len; first | exact ops_len_sh rfl (by kernel_rfl) | exact ops_len_ref rfl (by kernel_rfl) | exact ops_len_nil rfl (by kernel_rfl) | exact ops_lens rfl (by kernel_rfl) | fail) | (apply k_load; first | exact ops_load_psh rfl rfl (by decide +kernel) | exact ops_load_psha rfl (by decide +kernel) (by kernel_rfl) (by simp) | exact ops_load_map rfl rfl (by omega) rfl (by decide +kernel) | exact ops_load_mapa rfl rfl (by omega) rfl (by decide +kernel) (by kernel_rfl) | exact ops_load_mapj rfl rfl (by omega) rfl rfl (by decide +kernel) | exact ops_load_ptr rfl rfl rfl rfl rfl (by decide +kernel) | exact ops_load_ptra rfl rfl rfl rfl (by decide +kernel) (by kernel_rfl) | fail) | (apply k_indexAddr; first | exact ops_idx_map rfl rfl (by omega) (by kernel_rfl) (by kernel_rfl) | exact ops_idx_refm rfl rfl (by omega) rfl (by omega) (by kernel_rfl) (by kernel_rfl) | exact ops_idx_mapI rfl rfl (by omega) (by omega) (by kernel_rfl) (by kernel_rfl) | exact ops_idx_refmI rfl rfl (by omega) (by omega) rfl (by omega) (by kernel_rfl) (by kernel_rfl) | exact ops_idx_ref rfl rfl (by omega) rfl (by simp) (by kernel_rfl) (by kernel_rfl) | fail) | fail) (by simp only [nz, nf, nl, nb, nr, reduceIte, Nat.reduceEqDiff, Nat.reduceAdd]; rfl) ?_)
      | refine d_nil ?_
      | (refine d_o ?_; first | refine d_fl rfl (by first | exact .move | exact .assign | exact .pl (by first | (apply q_lss; first | exact fs_lss rfl rfl | exact fs_lts rfl rfl | fail) | (apply q_neq; first | exact fs_nei rfl rfl | exact fs_nes rfl rfl | exact fs_neb rfl rfl (by kernel_rfl) | fail) | (apply q_add; first | exact fs_inc rfl (by omega) | exact fs_add rfl rfl (by omega) (by omega) | exact fs_cat rfl rfl (by omega) | fail) | (apply q_len; first | exact fs_len_sh rfl (by kernel_rfl) | exact fs_len_ref rfl (by kernel_rfl) | exact fs_len_nil rfl (by kernel_rfl) | exact fs_lens rfl (by kernel_rfl) | fail) | (apply q_load; first | exact fs_load_psh rfl rfl (by decide +kernel) | exact fs_load_psha rfl (by decide +kernel) (by kernel_rfl) (by simp) | exact fs_load_map rfl rfl rfl (by omega) rfl (by decide +kernel) | exact fs_load_mapa rfl rfl rfl (by omega) rfl (by decide +kernel) (by kernel_rfl) | exact fs_load_mapj rfl rfl rfl (by omega) rfl rfl (by decide +kernel) | exact fs_load_ptr rfl rfl rfl rfl rfl rfl (by decide +kernel) | exact fs_load_ptra rfl rfl rfl rfl rfl (by decide +kernel) (by kernel_rfl) | fail) | (apply q_indexAddr; first | exact fs_idx_map rfl rfl (by omega) (by kernel_rfl) (by kernel_rfl) | exact fs_idx_refm rfl rfl (by omega) rfl rfl (by omega) (by kernel_rfl) (by kernel_rfl) | exact fs_idx_mapI rfl rfl (by omega) (by omega) (by kernel_rfl) (by kernel_rfl) | exact fs_idx_refmI rfl rfl (by omega) (by omega) rfl rfl (by omega) (by kernel_rfl) (by kernel_rfl) | exact fs_idx_ref rfl rfl (by omega) rfl rfl (by simp) (by kernel_rfl) (by kernel_rfl) | fail) | fail) | fail) (by simp only [nz, nf, nl, nb, nr, reduceIte, Nat.reduceEqDiff, Nat.reduceAdd]; rfl) (by first | (simp [nm]; done) | simp [nm, nz, nb]) ?_)
      | (refine w_o ?_; first | refine w_draw (id := 6) (fun _ => true) (fun k => [].contains k) [] 64 (by kernel_rfl) (by kernel_rfl) (by simp [nm]) ?_)
    · refine en_one (by first | exact .inl rfl | exact .inr rfl) Try.results29 rfl rfl ?_; simp only [lget]; first | refine congrArg RVb ?_ | refine congrArg RVi ?_ | skip
      grind [drop_both]
    · refine rn_mk (k + 1) ?_ (by first | omega | (dsimp only; omega)) (le_eq (by (repeat' first | exact .nil | refine .keep ?_ | refine .any ?_); first | done | fail) rfl rfl)
      grind [drop_both]
    · refine en_one (by first | exact .inl rfl | exact .inr rfl) Try.results29 rfl rfl ?_; simp only [lget]; first | refine congrArg RVb ?_ | refine congrArg RVi ?_ | skip
      grind [dn]

theorem eqIntSS_ok (l m : List (List Int)) : FCr Try.prog 49 [RIss l, RIss m] (RVb (decide (l = m))) := by
  refine fcr_lens fun hL => ?_
  simp only [lnk] at hL
  refine (fcr_in Try.func49 rfl (by simp only [Try.ntmps49, anys, List.length_cons, List.length_nil, Nat.reduceAdd, Nat.reduceSub, List.replicate_succ, List.replicate_zero, List.cons_append, List.nil_append] <;> rfl) ?_)
  repeat' first
    | refine w_seq ?_
    | refine w_block ?_
    | refine rb_n ?_
    | refine rb_ret ?_
    | refine rb_eq ?_
    | refine rb_ne (by rfl) ?_
    | refine w_exit ?_
    | refine rt_exit ?_
    | refine w_region ?_
    | refine l_nil ?_
    | refine rt_n ?_
    | refine w_ret ?_
    | refine rt_ret ?_
    | refine w_skip ?_
    | refine w_cond_t rfl ?_
    | refine w_cond_f rfl ?_
    | refine w_cnd rfl (fun hc => ?_) (fun hc => ?_)
    | refine w_cd rfl (fun hc => ?_) (fun hc => ?_)
    | refine w_cn rfl (fun hc => ?_) (fun hc => ?_)
    | refine w_cond rfl (fun hc => ?_) (fun hc => ?_)
    | (refine l_o ?_; refine l_op rfl (by first | exact ops_move | exact ops_assign | (apply k_lss; first | exact ops_lss rfl rfl | exact ops_lts rfl rfl | fail) | (apply k_neq; first | exact ops_nei rfl rfl | exact ops_nes rfl rfl | exact ops_neb rfl rfl (by kernel_rfl) | fail) | (apply k_add; first | exact ops_inc rfl (by omega) | exact ops_add rfl rfl (by omega) (by omega) | exact ops_cat rfl rfl (by omega) | fail) | (apply k_not; first | exact ops_not rfl | fail) | (apply k_len; first | exact ops_len_sh rfl (by kernel_rfl) | exact ops_len_ref rfl (by kernel_rfl) | exact ops_len_nil rfl (by kernel_rfl) | exact ops_lens rfl (by kernel_rfl) | fail) | (apply k_load; first | exact ops_load_psh rfl rfl (by decide +kernel) | exact ops_load_psha rfl (by decide +kernel) (by kernel_rfl) (by simp) | exact ops_load_map rfl rfl (by omega) rfl (by decide +kernel) | exact ops_load_mapa rfl rfl (by omega) rfl (by decide +kernel) (by kernel_rfl) | exact ops_load_mapj rfl rfl (by omega) rfl rfl (by decide +kernel) | exact ops_load_ptr rfl rfl rfl rfl rfl (by decide +kernel) | exact ops_load_ptra rfl rfl rfl rfl (by decide +kernel) (by kernel_rfl) | fail) | (apply k_indexAddr; first | exact ops_idx_map rfl rfl (by omega) (by kernel_rfl) (by kernel_rfl) | exact ops_idx_refm rfl rfl (by omega) rfl (by omega) (by kernel_rfl) (by kernel_rfl) | exact ops_idx_mapI rfl rfl (by omega) (by omega) (by kernel_rfl) (by kernel_rfl) | exact ops_idx_refmI rfl rfl (by omega) (by omega) rfl (by omega) (by kernel_rfl) (by kernel_rfl) | exact ops_idx_ref rfl rfl (by omega) rfl (by simp) (by kernel_rfl) (by kernel_rfl) | fail) | fail) (by simp only [nz, nf, nl, nb, nr, reduceIte, Nat.reduceEqDiff, Nat.reduceAdd]; rfl) ?_)
    | refine d_nil ?_
    | (refine d_o ?_; first | refine d_fl rfl (by first | exact .move | exact .assign | exact .pl (by first | (apply q_lss; first | exact fs_lss rfl rfl | exact fs_lts rfl rfl | fail) | (apply q_neq; first | exact fs_nei rfl rfl | exact fs_nes rfl rfl | exact fs_neb rfl rfl (by kernel_rfl) | fail) | (apply q_add; first | exact fs_inc rfl (by omega) | exact fs_add rfl rfl (by omega) (by omega) | exact fs_cat rfl rfl (by omega) | fail) | (apply q_not; first | exact fs_not rfl | fail) | (apply q_len; first | exact fs_len_sh rfl (by kernel_rfl) | exact fs_len_ref rfl (by kernel_rfl) | exact fs_len_nil rfl (by kernel_rfl) | exact fs_lens rfl (by kernel_rfl) | fail) | (apply q_load; first | exact fs_load_psh rfl rfl (by decide +kernel) | exact fs_load_psha rfl (by decide +kernel) (by kernel_rfl) (by simp) | exact fs_load_map rfl rfl rfl (by omega) rfl (by decide +kernel) | exact fs_load_mapa rfl rfl rfl (by omega) rfl (by decide +kernel) (by kernel_rfl) | exact fs_load_mapj rfl rfl rfl (by omega) rfl rfl (by decide +kernel) | exact fs_load_ptr rfl rfl rfl rfl rfl rfl (by decide +kernel) | exact fs_load_ptra rfl rfl rfl rfl rfl (by decide +kernel) (by kernel_rfl) | fail) | (apply q_indexAddr; first | exact fs_idx_map rfl rfl (by omega) (by kernel_rfl) (by kernel_rfl) | exact fs_idx_refm rfl rfl (by omega) rfl rfl (by omega) (by kernel_rfl) (by kernel_rfl) | exact fs_idx_mapI rfl rfl (by omega) (by omega) (by kernel_rfl) (by kernel_rfl) | exact fs_idx_refmI rfl rfl (by omega) (by omega) rfl rfl (by omega) (by kernel_rfl) (by kernel_rfl) | exact fs_idx_ref rfl rfl (by omega) rfl rfl (by simp) (by kernel_rfl) (by kernel_rfl) | fail) | fail) | fail) (by simp only [nz, nf, nl, nb, nr, reduceIte, Nat.reduceEqDiff, Nat.reduceAdd]; rfl) (by first | (simp [nm]; done) | simp [nm, nz, nb]) ?_)
    | (refine w_o ?_; first | refine w_draw (id := 6) (fun _ => true) (fun k => [8].contains k) [[]] 64 (by kernel_rfl) (by kernel_rfl) (by simp [nm]) ?_)
  · refine en_one (by first | exact .inl rfl | exact .inr rfl) Try.results49 rfl rfl ?_; simp only [lget]; first | refine congrArg RVb ?_ | refine congrArg RVi ?_ | skip
    grind
  have hn : l.length = m.length := by omega
  clear hc
  refine w_loopm (ι := Nat) (fun k => [(5, RVi k)]) (fun _ => []) (fun k => k ≤ l.length ∧ ((l.drop k = m.drop k) ↔ l = m)) (fun k => l.length - k) 0 (by simp only [wr, List.filterMap_cons, List.filterMap_nil, List.cons_append, List.nil_append, List.append_nil] <;> rfl) (by simp only [forget, lset] <;> rfl) (by intro i; simp only [puts, lset] <;> rfl) ?_ ?_ ?_
  · simp
  · refine le_eq (by (repeat' first | exact .nil | refine .keep ?_ | refine .any ?_); first | done | fail) rfl rfl
  · intro k ⟨hk, hg⟩
    repeat' first
      | refine w_seq ?_
      | refine w_block ?_
      | refine rb_n ?_
      | refine rb_ret ?_
      | refine rb_eq ?_
      | refine rb_ne (by rfl) ?_
      | refine w_exit ?_
      | refine rt_exit ?_
      | refine w_region ?_
      | refine l_nil ?_
      | refine rt_n ?_
      | refine w_ret ?_
      | refine rt_ret ?_
      | refine w_skip ?_
      | refine w_cond_t rfl ?_
      | refine w_cond_f rfl ?_
      | refine w_cnd rfl (fun hc => ?_) (fun hc => ?_)
      | refine w_cd rfl (fun hc => ?_) (fun hc => ?_)
      | refine w_cn rfl (fun hc => ?_) (fun hc => ?_)
      | refine w_cond rfl (fun hc => ?_) (fun hc => ?_)
      | (refine l_o ?_; refine l_op rfl (by first | exact ops_move | exact ops_assign | (apply k_lss; first | exact ops_lss rfl rfl | exact ops_lts rfl rfl | fail) | (apply k_neq; first | exact ops_nei rfl rfl | exact ops_nes rfl rfl | exact ops_neb rfl rfl (by kernel_rfl) | fail) | (apply k_add; first | exact ops_inc rfl (by omega) | exact ops_add rfl rfl (by omega) (by omega) | exact ops_cat rfl rfl (by omega) | fail) | (apply k_not; first | exact ops_not rfl | fail) | (apply k_len; first | exact ops_len_sh rfl (by kernel_rfl) | exact ops_len_ref rfl (by kernel_rfl) | exact ops_len_nil rfl (by kernel_rfl) | exact ops_lens rfl (by kernel_rfl) | fail) | (apply k_load; first | exact ops_load_psh rfl rfl (by decide +kernel) | exact ops_load_psha rfl (by decide +kernel) (by kernel_rfl) (by simp) | exact ops_load_map rfl rfl (by omega) rfl (by decide +kernel) | exact ops_load_mapa rfl rfl (by omega) rfl (by decide +kernel) (by kernel_rfl) | exact ops_load_mapj rfl rfl (by omega) rfl rfl (by decide +kernel) | exact ops_load_ptr rfl rfl rfl rfl rfl (by decide +kernel) | exact ops_load_ptra rfl rfl rfl rfl (by decide +kernel) (by kernel_rfl) | fail) | (apply k_indexAddr; first | exact ops_idx_map rfl rfl (by omega) (by kernel_rfl) (by kernel_rfl) | exact ops_idx_refm rfl rfl (by omega) rfl (by omega) (by kernel_rfl) (by kernel_rfl) | exact ops_idx_mapI rfl rfl (by omega) (by omega) (by kernel_rfl) (by kernel_rfl) | exact ops_idx_refmI rfl rfl (by omega) (by omega) rfl (by omega) (by kernel_rfl) (by kernel_rfl) | exact ops_idx_ref rfl rfl (by omega) rfl (by simp) (by kernel_rfl) (by kernel_rfl) | fail) | (apply k_callf; first | exact ops_callf rfl rfl (by kernel_rfl) (eqIntS_ok _ _) | fail) | fail) (by simp only [nz, nf, nl, nb, nr, reduceIte, Nat.reduceEqDiff, Nat.reduceAdd]; rfl) ?_)
      | refine d_nil ?_
      | (refine d_o ?_; first | refine d_fl rfl (by first | exact .move | exact .assign | exact .pl (by first | (apply q_lss; first | exact fs_lss rfl rfl | exact fs_lts rfl rfl | fail) | (apply q_neq; first | exact fs_nei rfl rfl | exact fs_nes rfl rfl | exact fs_neb rfl rfl (by kernel_rfl) | fail) | (apply q_add; first | exact fs_inc rfl (by omega) | exact fs_add rfl rfl (by omega) (by omega) | exact fs_cat rfl rfl (by omega) | fail) | (apply q_not; first | exact fs_not rfl | fail) | (apply q_len; first | exact fs_len_sh rfl (by kernel_rfl) | exact fs_len_ref rfl (by kernel_rfl) | exact fs_len_nil rfl (by kernel_rfl) | exact fs_lens rfl (by kernel_rfl) | fail) | (apply q_load; first | exact fs_load_psh rfl rfl (by decide +kernel) | exact fs_load_psha rfl (by decide +kernel) (by kernel_rfl) (by simp) | exact fs_load_map rfl rfl rfl (by omega) rfl (by decide +kernel) | exact fs_load_mapa rfl rfl rfl (by omega) rfl (by decide +kernel) (by kernel_rfl) | exact fs_load_mapj rfl rfl rfl (by omega) rfl rfl (by decide +kernel) | exact fs_load_ptr rfl rfl rfl rfl rfl rfl (by decide +kernel) | exact fs_load_ptra rfl rfl rfl rfl rfl (by decide +kernel) (by kernel_rfl) | fail) | (apply q_indexAddr; first | exact fs_idx_map rfl rfl (by omega) (by kernel_rfl) (by kernel_rfl) | exact fs_idx_refm rfl rfl (by omega) rfl rfl (by omega) (by kernel_rfl) (by kernel_rfl) | exact fs_idx_mapI rfl rfl (by omega) (by omega) (by kernel_rfl) (by kernel_rfl) | exact fs_idx_refmI rfl rfl (by omega) (by omega) rfl rfl (by omega) (by kernel_rfl) (by kernel_rfl) | exact fs_idx_ref rfl rfl (by omega) rfl rfl (by simp) (by kernel_rfl) (by kernel_rfl) | fail) | fail) | fail) (by simp only [nz, nf, nl, nb, nr, reduceIte, Nat.reduceEqDiff, Nat.reduceAdd]; rfl) (by first | (simp [nm]; done) | simp [nm, nz, nb]) ?_ | refine d_ef rfl (by first | exact .callf rfl rfl (by kernel_rfl) (eqIntS_ok _ _) | fail) (by simp only [nz, nf, nl, nb, nr, reduceIte, Nat.reduceEqDiff, Nat.reduceAdd]; rfl) (by simp only [nz, nf, nl, nr, reduceIte, Nat.reduceEqDiff] <;> rfl) (by first | (simp [nm]; done) | simp [nm, nz, nb]) (by first | exact fun _ _ => rfl | exact ro_of (by simp [olook])) ?_)
      | (refine w_o ?_; first | refine w_draw (id := 6) (fun _ => true) (fun k => [8].contains k) [[]] 64 (by kernel_rfl) (by kernel_rfl) (by simp [nm]) ?_)
    · refine en_one (by first | exact .inl rfl | exact .inr rfl) Try.results49 rfl rfl ?_; simp only [lget]; first | refine congrArg RVb ?_ | refine congrArg RVi ?_ | skip
      grind [drop_both]
    · refine rn_mk (k + 1) ?_ (by first | omega | (dsimp only; omega)) (le_eq (by (repeat' first | exact .nil | refine .keep ?_ | refine .any ?_); first | done | fail) rfl rfl)
      grind [drop_both]
    · refine en_one (by first | exact .inl rfl | exact .inr rfl) Try.results49 rfl rfl ?_; simp only [lget]; first | refine congrArg RVb ?_ | refine congrArg RVi ?_ | skip
      grind [dn]

theorem toIntS_ok (l : List Int) (hl : l.length ≤ 1048576) : FCr Try.prog 72 [RIs l] (OIs l) := by
  refine (fcr_in Try.func72 rfl (by simp only [Try.ntmps72, anys, List.length_cons, List.length_nil, Nat.reduceAdd, Nat.reduceSub, List.replicate_succ, List.replicate_zero, List.cons_append, List.nil_append] <;> rfl) ?_)
  repeat' first
    | refine w_seq ?_
    | refine w_block ?_
    | refine rb_n ?_
    | refine rb_ret ?_
    | refine rb_eq ?_
    | refine rb_ne (by rfl) ?_
    | refine w_exit ?_
    | refine rt_exit ?_
    | refine w_region ?_
    | refine l_nil ?_
    | refine rt_n ?_
    | refine w_ret ?_
    | refine rt_ret ?_
    | refine w_skip ?_
    | refine w_cond_t rfl ?_
    | refine w_cond_f rfl ?_
    | refine w_cnd rfl (fun hc => ?_) (fun hc => ?_)
    | refine w_cd rfl (fun hc => ?_) (fun hc => ?_)
    | refine w_cn rfl (fun hc => ?_) (fun hc => ?_)
    | refine w_cond rfl (fun hc => ?_) (fun hc => ?_)
    | (refine l_o ?_; refine l_op rfl (by first | exact ops_move | exact ops_assign | (apply k_lss; first | exact ops_lss rfl rfl | exact ops_lts rfl rfl | fail) | (apply k_add; first | exact ops_inc rfl (by omega) | exact ops_add rfl rfl (by omega) (by omega) | exact ops_cat rfl rfl (by omega) | fail) | (apply k_len; first | exact ops_len_sh rfl (by kernel_rfl) | exact ops_len_ref rfl (by kernel_rfl) | exact ops_len_nil rfl (by kernel_rfl) | exact ops_lens rfl (by kernel_rfl) | fail) | (apply k_load; first | exact ops_load_psh rfl rfl (by decide +kernel) | exact ops_load_psha rfl (by decide +kernel) (by kernel_rfl) (by simp) | exact ops_load_map rfl rfl (by omega) rfl (by decide +kernel) | exact ops_load_mapa rfl rfl (by omega) rfl (by decide +kernel) (by kernel_rfl) | exact ops_load_mapj rfl rfl (by omega) rfl rfl (by decide +kernel) | exact ops_load_ptr rfl rfl rfl rfl rfl (by decide +kernel) | exact ops_load_ptra rfl rfl rfl rfl (by decide +kernel) (by kernel_rfl) | fail) | (apply k_indexAddr; first | exact ops_idx_map rfl rfl (by omega) (by kernel_rfl) (by kernel_rfl) | exact ops_idx_refm rfl rfl (by omega) rfl (by omega) (by kernel_rfl) (by kernel_rfl) | exact ops_idx_mapI rfl rfl (by omega) (by omega) (by kernel_rfl) (by kernel_rfl) | exact ops_idx_refmI rfl rfl (by omega) (by omega) rfl (by omega) (by kernel_rfl) (by kernel_rfl) | exact ops_idx_ref rfl rfl (by omega) rfl (by simp) (by kernel_rfl) (by kernel_rfl) | fail) | (apply k_makeSlice; first | exact ops_makeSlice_nil rfl rfl (by kernel_rfl) (by kernel_rfl) rfl (by kernel_rfl) (by omega) (by simp [nm]) (by simp [nm]) | exact ops_makeSlice rfl rfl (by kernel_rfl) (by kernel_rfl) rfl rfl (by kernel_rfl) (by omega) (by simp [nm]) (by simp [nm]) | exact ops_makeSlicea (zs := [_, _]) rfl rfl (by kernel_rfl) (by kernel_rfl) rfl (by decide) rfl (by kernel_rfl) (by omega) (by simp [nm]) (by simp [nm]) | fail) | (apply k_store; first | exact ops_store_sealm rfl rfl rfl (by omega) rfl (by kernel_rfl) rfl (by simp) (by simp [nm]) (by decide) | exact ops_store_map rfl rfl rfl (by omega) rfl rfl (by kernel_rfl) | exact ops_store rfl rfl rfl rfl (by simp [RV.cellsL]) rfl (by kernel_rfl) | exact ops_storea rfl rfl rfl rfl rfl rfl (by kernel_rfl) | exact ops_storea_map rfl rfl rfl (by omega) rfl rfl (by kernel_rfl) | fail) | fail) (by simp only [nz, nf, nl, nb, nr, reduceIte, Nat.reduceEqDiff, Nat.reduceAdd]; rfl) ?_)
  refine w_loopm (ι := Nat × List Int) (fun k => [(4, RVi k.1), (3, .ref 7 0 l.length), (7, .ref 7 0 l.length)]) (fun k => [(7, 1, k.2.map RVi)]) (fun k => k.1 ≤ l.length ∧ k.2.length = l.length ∧ k.2.take k.1 = l.take k.1) (fun k => l.length - k.1) (0, List.replicate l.length 0) (by simp only [wr, List.filterMap_cons, List.filterMap_nil, List.cons_append, List.nil_append, List.append_nil] <;> rfl) (by simp only [forget, lset] <;> rfl) (by intro i; simp only [puts, lset] <;> rfl) ?_ ?_ ?_
  · simp
  · refine le_eq (by (repeat' first | exact .nil | refine .keep ?_ | refine .any ?_); first | done | fail) rfl rfl
  · intro ⟨k, m⟩ ⟨hk, hm, hg⟩
    dsimp only at hk hm hg ⊢
    repeat' first
      | refine w_seq ?_
      | refine w_block ?_
      | refine rb_n ?_
      | refine rb_ret ?_
      | refine rb_eq ?_
      | refine rb_ne (by rfl) ?_
      | refine w_exit ?_
      | refine rt_exit ?_
      | refine w_region ?_
      | refine l_nil ?_
      | refine rt_n ?_
      | refine w_ret ?_
      | refine rt_ret ?_
      | refine w_skip ?_
      | refine w_cond_t rfl ?_
      | refine w_cond_f rfl ?_
      | refine w_cnd rfl (fun hc => ?_) (fun hc => ?_)
      | refine w_cd rfl (fun hc => ?_) (fun hc => ?_)
      | refine w_cn rfl (fun hc => ?_) (fun hc => ?_)
      | refine w_cond rfl (fun hc => ?_) (fun hc => ?_)
      | (refine l_o ?_; refine l_op rfl (by first | exact ops_move | exact ops_assign | (apply k_lss; first | exact ops_lss rfl rfl | exact ops_lts rfl rfl | fail) | (apply k_add; first | exact ops_inc rfl (by omega) | exact ops_add rfl rfl (by omega) (by omega) | exact ops_cat rfl rfl (by omega) | fail) | (apply k_len; first | exact ops_len_sh rfl (by kernel_rfl) | exact ops_len_ref rfl (by kernel_rfl) | exact ops_len_nil rfl (by kernel_rfl) | exact ops_lens rfl (by kernel_rfl) | fail) | (apply k_load; first | exact ops_load_psh rfl rfl (by decide +kernel) | exact ops_load_psha rfl (by decide +kernel) (by kernel_rfl) (by simp) | exact ops_load_map rfl rfl (by omega) rfl (by decide +kernel) | exact ops_load_mapa rfl rfl (by omega) rfl (by decide +kernel) (by kernel_rfl) | exact ops_load_mapj rfl rfl (by omega) rfl rfl (by decide +kernel) | exact ops_load_ptr rfl rfl rfl rfl rfl (by decide +kernel) | exact ops_load_ptra rfl rfl rfl rfl (by decide +kernel) (by kernel_rfl) | fail) | (apply k_indexAddr; first | exact ops_idx_map rfl rfl (by omega) (by kernel_rfl) (by kernel_rfl) | exact ops_idx_refm rfl rfl (by omega) rfl (by omega) (by kernel_rfl) (by kernel_rfl) | exact ops_idx_mapI rfl rfl (by omega) (by omega) (by kernel_rfl) (by kernel_rfl) | exact ops_idx_refmI rfl rfl (by omega) (by omega) rfl (by omega) (by kernel_rfl) (by kernel_rfl) | exact ops_idx_ref rfl rfl (by omega) rfl (by simp) (by kernel_rfl) (by kernel_rfl) | fail) | (apply k_makeSlice; first | exact ops_makeSlice_nil rfl rfl (by kernel_rfl) (by kernel_rfl) rfl (by kernel_rfl) (by omega) (by simp [nm]) (by simp [nm]) | exact ops_makeSlice rfl rfl (by kernel_rfl) (by kernel_rfl) rfl rfl (by kernel_rfl) (by omega) (by simp [nm]) (by simp [nm]) | exact ops_makeSlicea (zs := [_, _]) rfl rfl (by kernel_rfl) (by kernel_rfl) rfl (by decide) rfl (by kernel_rfl) (by omega) (by simp [nm]) (by simp [nm]) | fail) | (apply k_store; first | exact ops_store_sealm rfl rfl rfl (by omega) rfl (by kernel_rfl) rfl (by simp) (by simp [nm]) (by decide) | exact ops_store_map rfl rfl rfl (by omega) rfl rfl (by kernel_rfl) | exact ops_store rfl rfl rfl rfl (by simp [RV.cellsL]) rfl (by kernel_rfl) | exact ops_storea rfl rfl rfl rfl rfl rfl (by kernel_rfl) | exact ops_storea_map rfl rfl rfl (by omega) rfl rfl (by kernel_rfl) | fail) | fail) (by simp only [nz, nf, nl, nb, nr, reduceIte, Nat.reduceEqDiff, Nat.reduceAdd]; rfl) ?_)
    · refine rn_mk (k + 1, m.set k l[k]) ?_ (by first | omega | (dsimp only; omega)) (le_eq (by (repeat' first | exact .nil | refine .keep ?_ | refine .any ?_); first | done | fail) rfl rfl)
      exact ⟨by omega, by simpa using hm, take_set_next hg hm (by omega)⟩
    · refine en_end (by first | exact .inl rfl | exact .inr rfl) Try.results72 (by decide) rfl (by kernel_rfl) rfl (by simp [ne, nm, lget] <;> omega) ?_; simp only [ne, nf, nl, nr, lget, reduceIte, Nat.reduceEqDiff]; first | rfl | refine congrArg RVb ?_ | refine congrArg RVi ?_ | skip
      rw [List.take_of_length_le (by omega), List.take_of_length_le (by omega)] at hg
      rw [hg]

theorem toIntSS_ok (l : List (List Int)) (hl : l.length ≤ 1048576) (hll : ∀ r ∈ l, r.length ≤ 1048576) : FCr Try.prog 47 [RIss l] (OIss l) := by
  refine (fcr_in Try.func47 rfl (by simp only [Try.ntmps47, anys, List.length_cons, List.length_nil, Nat.reduceAdd, Nat.reduceSub, List.replicate_succ, List.replicate_zero, List.cons_append, List.nil_append] <;> rfl) ?_)
  repeat' first
    | refine w_seq ?_
    | refine w_block ?_
    | refine rb_n ?_
    | refine rb_ret ?_
    | refine rb_eq ?_
    | refine rb_ne (by rfl) ?_
    | refine w_exit ?_
    | refine rt_exit ?_
    | refine w_region ?_
    | refine l_nil ?_
    | refine rt_n ?_
    | refine w_ret ?_
    | refine rt_ret ?_
    | refine w_skip ?_
    | refine w_cond_t rfl ?_
    | refine w_cond_f rfl ?_
    | refine w_cnd rfl (fun hc => ?_) (fun hc => ?_)
    | refine w_cd rfl (fun hc => ?_) (fun hc => ?_)
    | refine w_cn rfl (fun hc => ?_) (fun hc => ?_)
    | refine w_cond rfl (fun hc => ?_) (fun hc => ?_)
    | (refine l_o ?_; refine l_op rfl (by first | exact ops_move | exact ops_assign | (apply k_lss; first | exact ops_lss rfl rfl | exact ops_lts rfl rfl | fail) | (apply k_add; first | exact ops_inc rfl (by omega) | exact ops_add rfl rfl (by omega) (by omega) | exact ops_cat rfl rfl (by omega) | fail) | (apply k_len; first | exact ops_len_sh rfl (by kernel_rfl) | exact ops_len_ref rfl (by kernel_rfl) | exact ops_len_nil rfl (by kernel_rfl) | exact ops_lens rfl (by kernel_rfl) | fail) | (apply k_load; first | exact ops_load_psh rfl rfl (by decide +kernel) | exact ops_load_psha rfl (by decide +kernel) (by kernel_rfl) (by simp) | exact ops_load_map rfl rfl (by omega) rfl (by decide +kernel) | exact ops_load_mapa rfl rfl (by omega) rfl (by decide +kernel) (by kernel_rfl) | exact ops_load_mapj rfl rfl (by omega) rfl rfl (by decide +kernel) | exact ops_load_ptr rfl rfl rfl rfl rfl (by decide +kernel) | exact ops_load_ptra rfl rfl rfl rfl (by decide +kernel) (by kernel_rfl) | fail) | (apply k_indexAddr; first | exact ops_idx_map rfl rfl (by omega) (by kernel_rfl) (by kernel_rfl) | exact ops_idx_refm rfl rfl (by omega) rfl (by omega) (by kernel_rfl) (by kernel_rfl) | exact ops_idx_mapI rfl rfl (by omega) (by omega) (by kernel_rfl) (by kernel_rfl) | exact ops_idx_refmI rfl rfl (by omega) (by omega) rfl (by omega) (by kernel_rfl) (by kernel_rfl) | exact ops_idx_ref rfl rfl (by omega) rfl (by simp) (by kernel_rfl) (by kernel_rfl) | fail) | (apply k_makeSlice; first | exact ops_makeSlice_nil rfl rfl (by kernel_rfl) (by kernel_rfl) rfl (by kernel_rfl) (by omega) (by simp [nm]) (by simp [nm]) | exact ops_makeSlice rfl rfl (by kernel_rfl) (by kernel_rfl) rfl rfl (by kernel_rfl) (by omega) (by simp [nm]) (by simp [nm]) | exact ops_makeSlicea (zs := [_, _]) rfl rfl (by kernel_rfl) (by kernel_rfl) rfl (by decide) rfl (by kernel_rfl) (by omega) (by simp [nm]) (by simp [nm]) | fail) | (apply k_store; first | exact ops_store_sealm rfl rfl rfl (by omega) rfl (by kernel_rfl) rfl (by simp) (by simp [nm]) (by decide) | exact ops_store_map rfl rfl rfl (by omega) rfl rfl (by kernel_rfl) | exact ops_store rfl rfl rfl rfl (by simp [RV.cellsL]) rfl (by kernel_rfl) | exact ops_storea rfl rfl rfl rfl rfl rfl (by kernel_rfl) | exact ops_storea_map rfl rfl rfl (by omega) rfl rfl (by kernel_rfl) | fail) | fail) (by simp only [nz, nf, nl, nb, nr, reduceIte, Nat.reduceEqDiff, Nat.reduceAdd]; rfl) ?_)
  refine w_loopm (ι := Nat × List (List Int)) (fun k => [(4, RVi k.1), (3, .ref 7 0 l.length), (7, .ref 7 0 l.length)]) (fun k => [(7, 1, k.2.map OIs)]) (fun k => k.1 ≤ l.length ∧ k.2.length = l.length ∧ k.2.take k.1 = l.take k.1) (fun k => l.length - k.1) (0, List.replicate l.length []) (by simp only [wr, List.filterMap_cons, List.filterMap_nil, List.cons_append, List.nil_append, List.append_nil] <;> rfl) (by simp only [forget, lset] <;> rfl) (by intro i; simp only [puts, lset] <;> rfl) ?_ ?_ ?_
  · simp
  · refine le_eq (by (repeat' first | exact .nil | refine .keep ?_ | refine .any ?_); first | done | fail) rfl rfl
  · intro ⟨k, m⟩ ⟨hk, hm, hg⟩
    dsimp only at hk hm hg ⊢
    repeat' first
      | refine w_seq ?_
      | refine w_block ?_
      | refine rb_n ?_
      | refine rb_ret ?_
      | refine rb_eq ?_
      | refine rb_ne (by rfl) ?_
      | refine w_exit ?_
      | refine rt_exit ?_
      | refine w_region ?_
      | refine l_nil ?_
      | refine rt_n ?_
      | refine w_ret ?_
      | refine rt_ret ?_
      | refine w_skip ?_
      | refine w_cond_t rfl ?_
      | refine w_cond_f rfl ?_
      | refine w_cnd rfl (fun hc => ?_) (fun hc => ?_)
      | refine w_cd rfl (fun hc => ?_) (fun hc => ?_)
      | refine w_cn rfl (fun hc => ?_) (fun hc => ?_)
      | refine w_cond rfl (fun hc => ?_) (fun hc => ?_)
      | (refine l_o ?_; refine l_op rfl (by first | exact ops_move | exact ops_assign | (apply k_lss; first | exact ops_lss rfl rfl | exact ops_lts rfl rfl | fail) | (apply k_add; first | exact ops_inc rfl (by omega) | exact ops_add rfl rfl (by omega) (by omega) | exact ops_cat rfl rfl (by omega) | fail) | (apply k_len; first | exact ops_len_sh rfl (by kernel_rfl) | exact ops_len_ref rfl (by kernel_rfl) | exact ops_len_nil rfl (by kernel_rfl) | exact ops_lens rfl (by kernel_rfl) | fail) | (apply k_load; first | exact ops_load_psh rfl rfl (by decide +kernel) | exact ops_load_psha rfl (by decide +kernel) (by kernel_rfl) (by simp) | exact ops_load_map rfl rfl (by omega) rfl (by decide +kernel) | exact ops_load_mapa rfl rfl (by omega) rfl (by decide +kernel) (by kernel_rfl) | exact ops_load_mapj rfl rfl (by omega) rfl rfl (by decide +kernel) | exact ops_load_ptr rfl rfl rfl rfl rfl (by decide +kernel) | exact ops_load_ptra rfl rfl rfl rfl (by decide +kernel) (by kernel_rfl) | fail) | (apply k_indexAddr; first | exact ops_idx_map rfl rfl (by omega) (by kernel_rfl) (by kernel_rfl) | exact ops_idx_refm rfl rfl (by omega) rfl (by omega) (by kernel_rfl) (by kernel_rfl) | exact ops_idx_mapI rfl rfl (by omega) (by omega) (by kernel_rfl) (by kernel_rfl) | exact ops_idx_refmI rfl rfl (by omega) (by omega) rfl (by omega) (by kernel_rfl) (by kernel_rfl) | exact ops_idx_ref rfl rfl (by omega) rfl (by simp) (by kernel_rfl) (by kernel_rfl) | fail) | (apply k_makeSlice; first | exact ops_makeSlice_nil rfl rfl (by kernel_rfl) (by kernel_rfl) rfl (by kernel_rfl) (by omega) (by simp [nm]) (by simp [nm]) | exact ops_makeSlice rfl rfl (by kernel_rfl) (by kernel_rfl) rfl rfl (by kernel_rfl) (by omega) (by simp [nm]) (by simp [nm]) | exact ops_makeSlicea (zs := [_, _]) rfl rfl (by kernel_rfl) (by kernel_rfl) rfl (by decide) rfl (by kernel_rfl) (by omega) (by simp [nm]) (by simp [nm]) | fail) | (apply k_store; first | exact ops_store_sealm rfl rfl rfl (by omega) rfl (by kernel_rfl) rfl (by simp) (by simp [nm]) (by decide) | exact ops_store_map rfl rfl rfl (by omega) rfl rfl (by kernel_rfl) | exact ops_store rfl rfl rfl rfl (by simp [RV.cellsL]) rfl (by kernel_rfl) | exact ops_storea rfl rfl rfl rfl rfl rfl (by kernel_rfl) | exact ops_storea_map rfl rfl rfl (by omega) rfl rfl (by kernel_rfl) | fail) | (apply k_callf; first | exact ops_callv (by first | rfl | (simp only [nz, nf, vw, nr, reduceIte, Nat.reduceEqDiff, ne_eq, not_false_eq_true]; rfl) | (simp [view1, viewC, olook, nv, nz, nf, *]; fail_if_success show _)) rfl (by kernel_rfl) (toIntS_ok _ (hll _ (List.getElem_mem _))) (by simp [RV.resOkT, RV.resOk, RV.isAgg, nm]) (by simp [ns]) (by simp [nz, nm]) (by simp [nz, nm]) | fail) | fail) (by simp only [nz, nf, nl, nb, nr, reduceIte, Nat.reduceEqDiff, Nat.reduceAdd]; rfl) ?_)
    · refine rn_mk (k + 1, m.set k l[k]) ?_ (by first | omega | (dsimp only; omega)) (le_eq (by (repeat' first | exact .nil | refine .keep ?_ | refine .any ?_); first | done | fail) rfl rfl)
      exact ⟨by omega, by simpa using hm, take_set_next hg hm (by omega)⟩
    · refine en_end (by first | exact .inl rfl | exact .inr rfl) Try.results47 (by decide) rfl (by kernel_rfl) rfl (by simp [ne, nm, lget] <;> omega) ?_; simp only [ne, nf, nl, nr, lget, reduceIte, Nat.reduceEqDiff]; first | rfl | refine congrArg RVb ?_ | refine congrArg RVi ?_ | skip
      rw [List.take_of_length_le (by omega), List.take_of_length_le (by omega)] at hg
      rw [hg]
end Go.Proofs.Ytoekdkoadienmaa
