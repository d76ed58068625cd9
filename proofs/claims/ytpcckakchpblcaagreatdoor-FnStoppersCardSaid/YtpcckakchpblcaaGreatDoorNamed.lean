/- NamedLoop of the reference. For all names. -/
import Derived.Test.YtpcckakchpblcaaGreatDoorReadLp
namespace Go.Proofs.YtpcckakchpblcaaGreatDoor
open Eng
attribute [local irreducible] OpS OpG FC FCr Rel Fl Ef DR Fs
attribute [local simp] RV.fzR_names
set_option linter.unusedSimpArgs false
set_option maxHeartbeats 0
set_option maxRecDepth 100000

/-- The names and the texts. -/
def nmL : List (List UInt8) := [[122, 101, 114, 111], [115, 116, 97, 114], [111, 110], [111, 102, 102], [100, 117, 100], [111, 118, 101, 114], [117, 110, 100, 101, 114], [111, 110, 101]]
def txL : List (List UInt8) := [[124], [124, 59, 48, 124, 48], [48, 124], [124, 48], [48, 124, 48], [124, 59, 48, 124, 49], [124, 59, 49, 124, 48], [124, 59, 48, 124]]
def nmd (s : List UInt8) : List (List UInt8) → List (List UInt8) → Option (List UInt8)
  | a :: x, t :: y => if a = s then some t else nmd s x y
  | _, _ => none
theorem nmd_at {s : List UInt8} {a t : List (List UInt8)} {i : Nat} (h : i < a.length) (h2 : i < t.length) : nmd s (a.drop i) (t.drop i) = if a[i] = s then some t[i] else nmd s (a.drop (i + 1)) (t.drop (i + 1)) := by
  rw [List.drop_eq_getElem_cons h, List.drop_eq_getElem_cons h2, nmd]
def nmA (t : Option (List UInt8)) : List (List Int) := match t with | none => [] | some t => ((readLp t).map (·.1)).getD []
def nmB (t : Option (List UInt8)) : List (List Int) := match t with | none => [] | some t => ((readLp t).map (·.2)).getD []
def nmI (t : Option (List UInt8)) : Int := match t with | none => 0 | some t => ((((readLp t).map (·.1)).getD []).length : Int) - 1
theorem readLp_good {t : List UInt8} {q : List (List Int) × List (List Int)} (h : readLp t = some q) : goodLp q.1 q.2 = true := by
  unfold readLp at h
  split at h
  · cases h
  · split at h
    · cases h
    · split at h
      · rename_i hg; cases h; exact hg
      · cases h
theorem readLp_len (t : List UInt8) : (((readLp t).map (·.1)).getD []).length ≤ 36 ∧ (((readLp t).map (·.2)).getD []).length ≤ 36 := by
  cases h : readLp t with
  | none => simp
  | some q =>
    have := goodLp_small (readLp_good h)
    simp only [Option.map_some, Option.getD_some]
    omega
theorem l26Names_ok : FCr Tryz.prog 59 [] (.ow 1 (nmL.map RV.str)) := by
  refine (fcr_in Tryz.func59 rfl (by simp only [Tryz.ntmps59, anys, List.length_cons, List.length_nil, Nat.reduceAdd, Nat.reduceSub, List.replicate_succ, List.replicate_zero, List.cons_append, List.nil_append] <;> rfl) ?_)
  repeat' first
    | refine w_seq ?_
    | refine w_region ?_
    | refine l_nil ?_
    | refine rt_n ?_
    | refine w_ret ?_
    | refine rt_ret ?_
    | refine w_skip ?_
    | (refine l_o ?_; first | refine l_op (hk := ?_))
  refine en_end (hf := Tryz.results59) (hr := ?_); simp only [ne, nf, nl, nr, lget, reduceIte, Nat.reduceEqDiff]; first | rfl | refine congrArg RVb ?_ | refine congrArg RVi ?_ | skip
theorem specNamed_ok (s : List UInt8) : FCr Tryz.prog 60 [RV.str s] (.tup [OLp (nmA (nmd s nmL txL)) (nmB (nmd s nmL txL)), RVi (nmI (nmd s nmL txL)), RVb (nmd s nmL txL).isSome]) := by
  have hNm := l26Names_ok
  have hnl : nmL.length = 8 := rfl
  have htl : txL.length = 8 := rfl
  have e1 : nmd s (nmL.drop 0) (txL.drop 0) = nmd s nmL txL := rfl
  have etx : ([RV.v (.string ⟨#[124]⟩), RV.v (.string ⟨#[124, 59, 48, 124, 48]⟩), RV.v (.string ⟨#[48, 124]⟩), RV.v (.string ⟨#[124, 48]⟩), RV.v (.string ⟨#[48, 124, 48]⟩), RV.v (.string ⟨#[124, 59, 48, 124, 49]⟩), RV.v (.string ⟨#[124, 59, 49, 124, 48]⟩), RV.v (.string ⟨#[124, 59, 48, 124]⟩)] : List RV) = txL.map RV.str := rfl
  generalize hr : nmd s nmL txL = r at *
  refine (fcr_in Tryz.func60 rfl (by simp only [Tryz.ntmps60, anys, List.length_cons, List.length_nil, Nat.reduceAdd, Nat.reduceSub, List.replicate_succ, List.replicate_zero, List.cons_append, List.nil_append] <;> rfl) ?_)
  repeat' first
    | refine w_seq ?_
    | refine w_block ?_
    | refine rb_n ?_
    | refine rb_ret ?_
    | refine rb_eq ?_
    | refine rb_ne (by rfl) ?_
    | refine w_exit ?_
    | refine rt_exit ?_
    | refine w_region ?_
    | refine l_nil ?_
    | refine rt_n ?_
    | refine w_ret ?_
    | refine rt_ret ?_
    | refine w_skip ?_
    | refine w_cond_t rfl ?_
    | refine w_cond_f rfl ?_
    | refine w_cnd rfl (fun hc => ?_) (fun hc => ?_)
    | refine w_cd rfl (fun hc => ?_) (fun hc => ?_)
    | refine w_cn rfl (fun hc => ?_) (fun hc => ?_)
    | refine w_cond rfl (fun hc => ?_) (fun hc => ?_)
    | (refine l_o ?_; first | refine l_eqnil rfl (by kernel_rfl) (by intro b; simp only [nz]; rfl) (fun b hb => ?_) | refine l_op rfl (by first | (apply k_callf; first | exact ops_callf (hfc := hNm) | fail) | fail) (hk := ?_) | refine l_op (hk := ?_))
    | refine d_nil ?_
    | (refine d_o ?_; first | refine d_fl (hk := ?_) | refine d_ef rfl (by first | exact .callf (hfc := hNm) | fail) (hk := ?_) | refine d_ef (hk := ?_))
    | (refine w_o ?_; first | refine w_draw (id := 8) (fun _ => true) (fun k => [5].contains k) [[]] 64 (by kernel_rfl) rfl (by kernel_rfl) (by simp [nm, nset, -List.map_take, -List.map_drop]) ?_)
  simp only [etx]
  generalize nmL = NL at *
  generalize txL = TL at *
  -- DBG
  refine w_loopm (ι := Nat) (fun q => [(7, RVn q)]) (fun q => [(10, 1, TL.map RV.str), (2, 2, [.agg [.v (.slice none 0 0), .v (.slice none 0 0)]])]) (fun q => q ≤ 8 ∧ nmd s (NL.drop q) (TL.drop q) = r) (fun q => 8 - q) 0 (h0 := ?_) (hs := ?_) (round := ?_)
  · exact ⟨by omega, e1⟩
  · refine le_eq (by (repeat' first | exact .nil | refine .keep ?_ | refine .any ?_); first | done | fail) rfl rfl
  · intro i ⟨hi, hg⟩
    by_cases hil : i < 8
    · have h1 : i < NL.length := by omega
      have h2 : i < TL.length := by omega
      rw [nmd_at h1 h2] at hg
      by_cases he : NL[i] = s
      · rw [if_pos he] at hg
        subst hg
        have hR := specRead_ok TL[i]
        obtain ⟨hla, hlb⟩ := readLp_len TL[i]
        dsimp only [nmA, nmB, nmI, Option.isSome_some]
        generalize ((readLp TL[i]).map (·.1)).getD [] = A at *
        generalize ((readLp TL[i]).map (·.2)).getD [] = B at *
        repeat' first
          | refine w_seq ?_
          | refine w_block ?_
          | refine rb_n ?_
          | refine rb_ret ?_
          | refine rb_eq ?_
          | refine rb_ne (by rfl) ?_
          | refine w_exit ?_
          | refine rt_exit ?_
          | refine w_region ?_
          | refine l_nil ?_
          | refine rt_n ?_
          | refine w_ret ?_
          | refine rt_ret ?_
          | refine w_skip ?_
          | refine w_cond_t rfl ?_
          | refine w_cond_f rfl ?_
          | refine w_cnd rfl (fun hc => ?_) (fun hc => ?_)
          | refine w_cd rfl (fun hc => ?_) (fun hc => ?_)
          | refine w_cn rfl (fun hc => ?_) (fun hc => ?_)
          | refine w_cond rfl (fun hc => ?_) (fun hc => ?_)
          | (exfalso; omega)
          | (exfalso; exact hc he)
          | (refine l_o ?_; first | refine l_eqnil rfl (by kernel_rfl) (by intro b; simp only [nz]; rfl) (fun b hb => ?_) | refine l_op rfl (by first | (apply k_sub; first | exact ops_sub (m := (A.length : Int)) (n := 1) rfl rfl (by omega) (by omega) | fail) | (apply k_callf; first | exact ops_callv (d := 29) (hfc := hR) | fail) | fail) (hk := ?_) | refine l_op (hk := ?_))
          | refine e_nil ?_
          | (refine e_o ?_; first | refine e_fl rfl (by first | exact .pl (by first | (apply q_sub; first | exact fs_sub (m := (A.length : Int)) (n := 1) rfl rfl (by omega) (by omega) | fail) | fail) | fail) (hk := ?_) | refine e_fl (hk := ?_) | refine e_ef rfl (by first | exact .callv (d := 29) (hfc := hR) | fail) (hk := ?_) | refine e_ef (hk := ?_))
          | (refine w_o ?_; first | refine w_drawS (id := 8) (rdP [(0,8),(1,8),(2,8)]) (fun k => [5].contains k) [[]] (by kernel_rfl) rfl (by kernel_rfl) (by simp [nm, nset, -List.map_take, -List.map_drop]) ?_)
        refine en_le _ (le_drop 8 (by simp only [nz, nf, nl, nb, nr, ng, nq, nu, reduceIte, Nat.reduceEqDiff, Nat.reduceAdd]; rfl) (by simp only [nz, nf, nl, nb, nr, ng, nq, nu, reduceIte, Nat.reduceEqDiff, Nat.reduceAdd]; rfl)) ?_
        refine en_endm ([(10, 1, TL.map RV.str), (2, 2, [.agg [.ref 100001029 0 A.length, .ref 200001029 0 B.length]])]) (hf := Tryz.results60) (hO := ?_) (hr := ?_)
        · rfl
        · rfl
      · rw [if_neg he] at hg
        repeat' first
          | refine w_seq ?_
          | refine w_block ?_
          | refine rb_n ?_
          | refine rb_ret ?_
          | refine rb_eq ?_
          | refine rb_ne (by rfl) ?_
          | refine w_exit ?_
          | refine rt_exit ?_
          | refine w_region ?_
          | refine l_nil ?_
          | refine rt_n ?_
          | refine w_ret ?_
          | refine rt_ret ?_
          | refine w_skip ?_
          | refine w_cond_t rfl ?_
          | refine w_cond_f rfl ?_
          | refine w_cnd rfl (fun hc => ?_) (fun hc => ?_)
          | refine w_cd rfl (fun hc => ?_) (fun hc => ?_)
          | refine w_cn rfl (fun hc => ?_) (fun hc => ?_)
          | refine w_cond rfl (fun hc => ?_) (fun hc => ?_)
          | (exfalso; omega)
          | (exfalso; exact he hc)
          | (refine l_o ?_; first | refine l_eqnil rfl (by kernel_rfl) (by intro b; simp only [nz]; rfl) (fun b hb => ?_) | refine l_op (hk := ?_))
          | refine d_nil ?_
          | (refine d_o ?_; first | refine d_fl (hk := ?_) | refine d_ef (hk := ?_))
          | (refine w_o ?_; first | refine w_draw (id := 8) (fun _ => true) (fun k => [5].contains k) [[]] 64 (by kernel_rfl) rfl (by kernel_rfl) (by simp [nm, nset, -List.map_take, -List.map_drop]) ?_)
        refine rn_mk (i + 1) ?_ (by first | omega | (dsimp only; omega)) (le_eq (by (repeat' first | exact .nil | refine .keep ?_ | refine .any ?_); first | done | fail) rfl rfl)
        exact ⟨by omega, hg⟩
    · obtain rfl : i = 8 := by omega
      rw [List.drop_eq_nil_of_le (by omega)] at hg
      subst hg
      repeat' first
        | refine w_seq ?_
        | refine w_block ?_
        | refine rb_n ?_
        | refine rb_ret ?_
        | refine rb_eq ?_
        | refine rb_ne (by rfl) ?_
        | refine w_exit ?_
        | refine rt_exit ?_
        | refine w_region ?_
        | refine l_nil ?_
        | refine rt_n ?_
        | refine w_ret ?_
        | refine rt_ret ?_
        | refine w_skip ?_
        | refine w_cond_t rfl ?_
        | refine w_cond_f rfl ?_
        | refine w_cnd rfl (fun hc => ?_) (fun hc => ?_)
        | refine w_cd rfl (fun hc => ?_) (fun hc => ?_)
        | refine w_cn rfl (fun hc => ?_) (fun hc => ?_)
        | refine w_cond rfl (fun hc => ?_) (fun hc => ?_)
        | (exfalso; omega)
        | (refine l_o ?_; first | refine l_eqnil rfl (by kernel_rfl) (by intro b; simp only [nz]; rfl) (fun b hb => ?_) | refine l_op (hk := ?_))
        | refine d_nil ?_
        | (refine d_o ?_; first | refine d_fl (hk := ?_) | refine d_ef (hk := ?_))
        | (refine w_o ?_; first | refine w_draw (id := 8) (fun _ => true) (fun k => [5].contains k) [[]] 64 (by kernel_rfl) rfl (by kernel_rfl) (by simp [nm, nset, -List.map_take, -List.map_drop]) ?_)
      refine en_endn ([OLp [] [], RVi 0, RVb false]) (hf := Tryz.results60) (hr := ?_); simp only [ne]; first | rfl | skip
end Go.Proofs.YtpcckakchpblcaaGreatDoor
