/- The draws of the loops' laws. For all bytes. -/
import Derived.Test.YtmplelnodamedaaDraw
import Derived.Test.YtmplelnodamedaaJ26
import Derived.Test.YtmplelnodamedaaJ30
import Derived.Test.YtmplelnodamedaaStopLaw
import Derived.Test.YtmplelnodamedaaStp
namespace Go.Proofs.Ytmplelnodamedaa
open Eng
attribute [local irreducible] OpS OpG FC FCr Rel Fl Ef DR Fs
set_option linter.unusedSimpArgs false
set_option maxHeartbeats 0
set_option maxRecDepth 100000

theorem rBig_ok (l : List UInt8) : FCr Try.prog 6 [RYs l] (RVb (decide ((65536 : Int) < (l.length : Nat)))) := by
  refine (fcr_in Try.func6 rfl (by simp only [Try.ntmps6, anys, List.length_cons, List.length_nil, Nat.reduceAdd, Nat.reduceSub, List.replicate_succ, List.replicate_zero, List.cons_append, List.nil_append] <;> rfl) ?_)
  repeat' first
    | refine w_seq ?_
    | refine w_region ?_
    | refine l_nil ?_
    | refine rt_n ?_
    | refine w_ret ?_
    | refine rt_ret ?_
    | refine w_skip ?_
    | (refine l_o ?_; first | refine l_op (hk := ?_))
  refine en_one (hf := Try.results6) (h := ?_); simp only [lget]; first | refine congrArg RVb ?_ | refine congrArg RVi ?_ | skip
theorem rInts_ok (l m : List Int) : FCr Try.prog 34 [RIs l, RIs m] (RVb (decide (l = m))) := by
  refine fcr_lens fun hL => ?_
  simp only [lnk] at hL
  refine (fcr_in Try.func34 rfl (by simp only [Try.ntmps34, anys, List.length_cons, List.length_nil, Nat.reduceAdd, Nat.reduceSub, List.replicate_succ, List.replicate_zero, List.cons_append, List.nil_append] <;> rfl) ?_)
  repeat' first
    | refine w_seq ?_
    | refine w_block ?_
    | refine rb_n ?_
    | refine rb_ret ?_
    | refine rb_eq ?_
    | refine rb_ne (by rfl) ?_
    | refine w_exit ?_
    | refine rt_exit ?_
    | refine w_region ?_
    | refine l_nil ?_
    | refine rt_n ?_
    | refine w_ret ?_
    | refine rt_ret ?_
    | refine w_skip ?_
    | refine w_cond_t rfl ?_
    | refine w_cond_f rfl ?_
    | refine w_cnd rfl (fun hc => ?_) (fun hc => ?_)
    | refine w_cd rfl (fun hc => ?_) (fun hc => ?_)
    | refine w_cn rfl (fun hc => ?_) (fun hc => ?_)
    | refine w_cond rfl (fun hc => ?_) (fun hc => ?_)
    | (refine l_o ?_; first | refine l_op (hk := ?_))
    | refine d_nil ?_
    | (refine d_o ?_; first | refine d_fl (hk := ?_) | refine d_ef (hk := ?_))
    | (refine w_o ?_; first | refine w_draw (id := 6) (fun _ => true) (fun k => [].contains k) [] 64 (by kernel_rfl) rfl (by kernel_rfl) (by simp [nm, nset, -List.map_take, -List.map_drop]) ?_)
  · refine en_one (hf := Try.results34) (h := ?_); simp only [lget]; first | refine congrArg RVb ?_ | refine congrArg RVi ?_ | skip
    grind
  have hn : l.length = m.length := by omega
  clear hc
  refine w_loopm (ι := Nat) (fun k => [(5, RVi k)]) (fun _ => []) (fun k => k ≤ l.length ∧ ((l.drop k = m.drop k) ↔ l = m)) (fun k => l.length - k) 0 (h0 := ?_) (hs := ?_) (round := ?_)
  · simp
  · refine le_eq (by (repeat' first | exact .nil | refine .keep ?_ | refine .any ?_); first | done | fail) rfl rfl
  · intro k ⟨hk, hg⟩
    repeat' first
      | refine w_seq ?_
      | refine w_block ?_
      | refine rb_n ?_
      | refine rb_ret ?_
      | refine rb_eq ?_
      | refine rb_ne (by rfl) ?_
      | refine w_exit ?_
      | refine rt_exit ?_
      | refine w_region ?_
      | refine l_nil ?_
      | refine rt_n ?_
      | refine w_ret ?_
      | refine rt_ret ?_
      | refine w_skip ?_
      | refine w_cond_t rfl ?_
      | refine w_cond_f rfl ?_
      | refine w_cnd rfl (fun hc => ?_) (fun hc => ?_)
      | refine w_cd rfl (fun hc => ?_) (fun hc => ?_)
      | refine w_cn rfl (fun hc => ?_) (fun hc => ?_)
      | refine w_cond rfl (fun hc => ?_) (fun hc => ?_)
      | (refine l_o ?_; first | refine l_op (hk := ?_))
      | refine d_nil ?_
      | (refine d_o ?_; first | refine d_fl (hk := ?_) | refine d_ef (hk := ?_))
      | (refine w_o ?_; first | refine w_draw (id := 6) (fun _ => true) (fun k => [].contains k) [] 64 (by kernel_rfl) rfl (by kernel_rfl) (by simp [nm, nset, -List.map_take, -List.map_drop]) ?_)
    · refine en_one (hf := Try.results34) (h := ?_); simp only [lget]; first | refine congrArg RVb ?_ | refine congrArg RVi ?_ | skip
      grind [drop_both]
    · refine rn_mk (k + 1) ?_ (by first | omega | (dsimp only; omega)) (le_eq (by (repeat' first | exact .nil | refine .keep ?_ | refine .any ?_); first | done | fail) rfl rfl)
      grind [drop_both]
    · refine en_one (hf := Try.results34) (h := ?_); simp only [lget]; first | refine congrArg RVb ?_ | refine congrArg RVi ?_ | skip
      grind [dn]
/-- The reader at the beginning. -/
abbrev cur0 (code : List UInt8) : Cur := ⟨code, 0, 0⟩
theorem loose_at (c : Cur) (most : Nat) (h0 : 0 < most) : (loose c most).1.at_ ≤ c.at_ + 200 + 16 * most := by
  obtain ⟨s1, s2, s3, s4⟩ := drawLp_small c most h0
  have hf : ∀ (f : Nat) (q : Cur × List (List Int) × List (List Int)), (fillLp f q).1.at_ ≤ q.1.at_ + 2 * f := by
    intro f
    induction f with
    | zero => intro q; exact Nat.le_refl _
    | succ f ih =>
      intro q
      have := pickC_at q.1 2
      simp only [fillLp]
      split
      · have := ih (pickC q.1 2, q.2.1 ++ [[0]], q.2.2 ++ [[]]); dsimp only at this; omega
      · dsimp only; omega
  have k1 := pickC_at (drawLp c most).1 12
  have k2 := pickC_at (pickC (drawLp c most).1 12) (drawLp c most).2.1.length
  have k3 := pickC_at (pickC (pickC (drawLp c most).1 12) (drawLp c most).2.1.length) 4
  have k4 := pickC_at (pickC (pickC (pickC (drawLp c most).1 12) (drawLp c most).2.1.length) 4) 3
  unfold loose
  split
  · split
    · dsimp only; omega
    · split
      · dsimp only; omega
      · split
        · dsimp only; omega
        · have := hf 38 (pickC (pickC (pickC (drawLp c most).1 12) (drawLp c most).2.1.length) 4, (drawLp c most).2); dsimp only at this; omega
  · dsimp only; omega
end Go.Proofs.Ytmplelnodamedaa
/- How far the reader goes when a stopper is drawn. For all bytes. -/
namespace Go.Proofs.Ytmplelnodamedaa
open Eng
attribute [local irreducible] OpS OpG FC FCr Rel Fl Ef DR Fs
attribute [local simp] RV.fzR_names
set_option linter.unusedSimpArgs false
set_option maxHeartbeats 0
set_option maxRecDepth 100000

theorem loose_at2 (c : Cur) (most : Nat) (h0 : 0 < most) : (loose c most).1.at_ ≤ c.at_ + 200 + 16 * most := loose_at c most h0
theorem drawStp_at (c : Cur) (most : Nat) (h0 : 0 < most) (hm : most ≤ 36) : (drawStp c most).1.at_ ≤ c.at_ + 2000 := by
  unfold drawStp
  have k1 := pickC_at c 3
  generalize pickC c 3 = c1 at *
  split
  · have := pickC_at c1 8
    dsimp only; omega
  · have k2 := pickC_at c1 most
    have hl := pickV_lt c1 most h0
    have hS := (stpTo_small (pickC c1 most, [], []) ⟨rfl, rfl⟩ (1 + pickV c1 most)).1
    generalize stpTo (pickC c1 most, [], []) (1 + pickV c1 most) = q at *
    have k3 := pickC_at q.1 10
    dsimp only at hS
    split
    · have := loose_at2 (pickC q.1 10) 5 (by omega)
      omega
    · dsimp only; omega
end Go.Proofs.Ytmplelnodamedaa
/- l26Keeps of the reference: whether a place of two loops is kept by what is held of the next ones. For all loops that lead inside. -/
namespace Go.Proofs.Ytmplelnodamedaa
open Eng
attribute [local irreducible] OpS OpG FC FCr Rel Fl Ef DR Fs
set_option linter.unusedSimpArgs false
set_option maxHeartbeats 0
set_option maxRecDepth 100000

section
variable (GL GR HL HR : List (List Nat))
def kkN (i : Nat) : List Nat :=
  if i % 2 = 0 then (GL.getD (i / 2 / HL.length) []).map (fun x => 2 * (x * HL.length + i / 2 % HL.length) + 1) ++ (HR.getD (i / 2 % HL.length) []).map (fun y => 2 * (i / 2 / HL.length * HL.length + y) + 1)
  else (GR.getD (i / 2 / HL.length) []).map (fun x => 2 * (x * HL.length + i / 2 % HL.length)) ++ (HL.getD (i / 2 % HL.length) []).map (fun y => 2 * (i / 2 / HL.length * HL.length + y))
end
theorem kkN_eq {gL gR hL hR : List (List Int)} (i : Nat) : kkN (toN gL) (toN gR) (toN hL) (toN hR) i = kkJ gL gR hL hR i := by
  unfold kkN kkJ
  simp only [toN_gd, toN_len, List.map_map]
  rfl
theorem any_succ {f : Nat → Bool} {A : List Nat} {k : Nat} (h : k < A.length) : (A.take (k + 1)).any f = ((A.take k).any f || f A[k]) := by
  rw [List.take_succ_eq_append_getElem h, List.any_append]; simp
theorem all_succ {f : Nat → Bool} {A : List Nat} {k : Nat} (h : k < A.length) : (A.take (k + 1)).all f = ((A.take k).all f && f A[k]) := by
  rw [List.take_succ_eq_append_getElem h, List.all_append]; simp
theorem gdB {H : List Bool} {i : Nat} (h : i < H.length) : H.getD i false = H[i] := by simp [List.getD_eq_getElem?_getD, h]
end Go.Proofs.Ytmplelnodamedaa
/- HoldTable, StopAtLeast, StopSame and PlacesAlike of the program. For all loops and places. -/
namespace Go.Proofs.Ytmplelnodamedaa
open Eng
attribute [local irreducible] OpS OpG FC FCr Rel Fl Ef DR Fs
set_option linter.unusedSimpArgs false
set_option maxHeartbeats 0
set_option maxRecDepth 100000

theorem stops_good {L R : List (List Int)} (h : stops L R = true) : goodLp L R = true := by
  unfold stops at h
  simp only [Bool.and_eq_true] at h
  exact h.1
def tblJ (gL gR hL hR : List (List Int)) : List (List Bool) := if stops gL gR && stops hL hR then hTab (hldJ gL gR hL hR) gL.length hL.length else []
def plc (L : List (List Int)) (a : Int) : Bool := decide (0 ≤ a) && decide (a < L.length)
def okS (gL gR hL hR : List (List Int)) (u v : Int) : Bool := stops gL gR && stops hL hR && plc gL u && plc hL v
def atl (gL gR hL hR : List (List Int)) (u v : Int) : Bool := okS gL gR hL hR u v && (hldJ gL gR hL hR).getD (2 * (u.toNat * hL.length + v.toNat) + 1) false
theorem hTab_at {H : List Bool} {n m u v : Nat} (hu : u < n) (hv : v < m) : ∃ (h1 : u < (hTab H n m).length) (h2 : v < (hTab H n m)[u].length), (hTab H n m)[u][v] = H.getD (2 * (u * m + v) + 1) false := by
  refine ⟨by simp [hTab, hu], by simp [hTab, hRow, hv], by simp [hTab, hRow]⟩
end Go.Proofs.Ytmplelnodamedaa
/- l26Hold of the reference comes to what solving by rounds leaves; HoldTable, StopAtLeast, StopSame of the reference. For all good loops. -/
namespace Go.Proofs.Ytmplelnodamedaa
open Eng
attribute [local irreducible] OpS OpG FC FCr Rel Fl Ef DR Fs
set_option linter.unusedSimpArgs false
set_option maxHeartbeats 0
set_option maxRecDepth 100000

end Go.Proofs.Ytmplelnodamedaa
/- HoldTable, StopAtLeast, StopSame of the reference answer as the program's. For all loops and places. -/
namespace Go.Proofs.Ytmplelnodamedaa
open Eng
attribute [local irreducible] OpS OpG FC FCr Rel Fl Ef DR Fs
set_option linter.unusedSimpArgs false
set_option maxHeartbeats 0
set_option maxRecDepth 100000

theorem hldJ_len (gL gR hL hR : List (List Int)) : (hldJ gL gR hL hR).length = nJ gL hL := by simp [hldJ, hld]
theorem okS_comm (gL gR : List (List Int)) (u : Int) (hL hR : List (List Int)) (v : Int) : okS hL hR gL gR v u = okS gL gR hL hR u v := by
  unfold okS
  cases stops gL gR <;> cases stops hL hR <;> cases plc gL u <;> cases plc hL v <;> rfl
end Go.Proofs.Ytmplelnodamedaa
/- Tables of who holds out of drawn loops; the law FnHoldTables answers true. For all bytes. -/
namespace Go.Proofs.Ytmplelnodamedaa
open Eng
attribute [local irreducible] OpS OpG FC FCr Rel Fl Ef DR Fs
attribute [local simp] RV.fzR_names
set_option linter.unusedSimpArgs false
set_option maxHeartbeats 0
set_option maxRecDepth 100000

def rAtV (code : List UInt8) (i : Nat) : Nat := if h : i < code.length then code[i].toNat else (i * 11 + 3 * code.length) % 256
end Go.Proofs.Ytmplelnodamedaa
/- What the draws of PruneLoop's and StopAtLeast's laws give. For all bytes. -/
namespace Go.Proofs.Ytmplelnodamedaa
open Eng
attribute [local irreducible] OpS OpG FC FCr Rel Fl Ef DR Fs
attribute [local simp] RV.fzR_names
set_option linter.unusedSimpArgs false
set_option maxHeartbeats 0
set_option maxRecDepth 100000

theorem drawReached_ok (code : List UInt8) : ∃ (L R : List (List Int)) (a : Int), -1 ≤ a ∧ a < 8 ∧ FCr Try.prog 24 [RYs code] (.tup [OLp L R, RVi a]) := by
  have h := loose_ok (cur0 code) 7 (by simp) (by omega) (by omega)
  have ha := loose_at (cur0 code) 7 (by omega)
  have h1 := pick_ok (loose (cur0 code) 7).1 9 (by simp at ha; omega) (by omega)
  have h4 := pickV_lt (loose (cur0 code) 7).1 9 (by omega)
  refine ⟨(loose (cur0 code) 7).2.1, (loose (cur0 code) 7).2.2, (pickV (loose (cur0 code) 7).1 9 : Nat) - 1, by omega, by omega, ?_⟩
  generalize loose (cur0 code) 7 = q at *
  generalize pickC q.1 9 = c3 at *
  generalize pickV q.1 9 = x at *
  refine (fcr_in Try.func24 rfl (by simp only [Try.ntmps24, anys, List.length_cons, List.length_nil, Nat.reduceAdd, Nat.reduceSub, List.replicate_succ, List.replicate_zero, List.cons_append, List.nil_append] <;> rfl) ?_)
  repeat' first
    | refine w_seq ?_
    | refine w_region ?_
    | refine l_nil ?_
    | refine rt_n ?_
    | refine w_ret ?_
    | refine rt_ret ?_
    | refine w_skip ?_
    | (refine l_o ?_; first | refine l_op rfl (by first | (apply k_sub; first | exact ops_sub (m := (x : Int)) (n := 1) rfl rfl (by omega) (by omega) | fail) | (apply k_callf; first | exact ops_callP (d := 10) 8 [RCur q.1] (hfc := h) | exact ops_callP (d := 13) 8 [RCur c3] (hfc := h1) | fail) | fail) (hk := ?_) | refine l_op (hk := ?_))
    | refine e_nil ?_
    | (refine e_o ?_; first | refine e_fl rfl (by first | exact .pl (by first | (apply q_sub; first | exact fs_sub (m := (x : Int)) (n := 1) rfl rfl (by omega) (by omega) | fail) | fail) | fail) (hk := ?_) | refine e_fl (hk := ?_) | refine e_ef rfl (by first | exact .callP (d := 10) 8 [RCur q.1] (hfc := h) | exact .callP (d := 13) 8 [RCur c3] (hfc := h1) | fail) (hk := ?_) | refine e_ef (hk := ?_))
    | (refine w_o ?_; first | refine w_drawS (id := 3) (rdP [(0, 5)]) (fun k => [2, 4].contains k) [[],[]] (by kernel_rfl) rfl (by kernel_rfl) (by simp [nm, nset, -List.map_take, -List.map_drop]) ?_)
  refine en_le _ (le_drop 5 (by simp only [nz, nf, nl, nb, nr, ng, nq, nu, reduceIte, Nat.reduceEqDiff, Nat.reduceAdd]; rfl) (by simp only [nz, nf, nl, nb, nr, ng, nq, nu, reduceIte, Nat.reduceEqDiff, Nat.reduceAdd]; rfl)) ?_
  refine en_end (hf := Try.results24) (hr := ?_); simp only [ne, nf, nl, nr, lget, reduceIte, Nat.reduceEqDiff]; first | rfl | refine congrArg RVb ?_ | refine congrArg RVi ?_ | skip
theorem drawPr_ok (code : List UInt8) : ∃ (L R : List (List Int)) (a : Int), -1 ≤ a ∧ a < 8 ∧ FCr Try.prog 7 [RYs code] (.tup [OLp L R, RVi a]) := by
  obtain ⟨L, R, a, h1, h2, h⟩ := drawReached_ok code
  refine ⟨L, R, a, h1, h2, ?_⟩
  refine (fcr_in Try.func7 rfl (by simp only [Try.ntmps7, anys, List.length_cons, List.length_nil, Nat.reduceAdd, Nat.reduceSub, List.replicate_succ, List.replicate_zero, List.cons_append, List.nil_append] <;> rfl) ?_)
  repeat' first
    | refine w_seq ?_
    | refine w_region ?_
    | refine l_nil ?_
    | refine rt_n ?_
    | refine w_ret ?_
    | refine rt_ret ?_
    | refine w_skip ?_
    | (refine l_o ?_; first | refine l_op rfl (by first | (apply k_callf; first | exact ops_callv (hfc := h) | fail) | fail) (hk := ?_) | refine l_op (hk := ?_))
  refine en_end (hf := Try.results7) (hr := ?_); simp only [ne, nf, nl, nr, lget, reduceIte, Nat.reduceEqDiff]; first | rfl | refine congrArg RVb ?_ | refine congrArg RVi ?_ | skip
theorem fillLp_len : ∀ (f : Nat) (q : Cur × List (List Int) × List (List Int)), (fillLp f q).2.1.length ≤ q.2.1.length + f
  | 0, q => by simp [fillLp]
  | f + 1, q => by
    rw [fillLp]
    split
    · have := fillLp_len f (pickC q.1 2, q.2.1 ++ [[0]], q.2.2 ++ [[]])
      simp only [List.length_append, List.length_singleton] at this
      omega
    · dsimp only; omega
theorem loose_len (c : Cur) (most : Nat) (h0 : 0 < most) : (loose c most).2.1.length ≤ most + 38 := by
  have h := (drawLp_small c most h0).2.2.1
  unfold loose
  generalize drawLp c most = q at *
  split
  · split
    · simp; omega
    · split
      · dsimp only; omega
      · split
        · simp
        · have := fillLp_len 38 (pickC (pickC (pickC q.1 12) q.2.1.length) 4, q.2)
          dsimp only at this
          omega
  · dsimp only; omega
theorem drawStp_len (c : Cur) (most : Nat) (h0 : 0 < most) (hm : most ≤ 36) : (drawStp c most).2.1.length ≤ 100 := by
  unfold drawStp
  split
  · dsimp only
    unfold nmA
    split
    · simp
    · have := readLp_len (by assumption)
      omega
  · have hl := pickV_lt (pickC c 3) most h0
    have hS := (stpTo_small (pickC (pickC c 3) most, [], []) ⟨rfl, rfl⟩ (1 + pickV (pickC c 3) most)).2.1
    generalize stpTo (pickC (pickC c 3) most, [], []) (1 + pickV (pickC c 3) most) = q at *
    split
    · have := loose_len (pickC q.1 10) 5 (by omega)
      omega
    · dsimp only; omega
end Go.Proofs.Ytmplelnodamedaa
