/- Who wins moving first, for each node of a form. For all forms within the bounds that the theorems name. -/
import Derived.Test.YtdignmbeiohhiaaFormI
import Derived.Test.YtdignmbeiohhiaaOpsE
import Derived.Test.YtdignmbeiohhiaaPush
namespace Go.Proofs.Ytdignmbeiohhiaa
open Eng
attribute [local irreducible] OpS OpG FC FCr Rel Fl Ef DR Fs
attribute [local simp] RV.fzR_names
set_option linter.unusedSimpArgs false
set_option maxHeartbeats 0
set_option maxRecDepth 100000

namespace Eng
theorem Gf.makeSlice {P ops RO d t l c ty pos after s} {kl kc : IntKind} {n : Nat} (hl : s.get l = .v (.int kl (n : Nat))) (hc : s.get c = .v (.int kc (n : Nat))) (ht : P.underlying t = some (.slice (P.elem t))) (hw : P.cellsOf (P.elem t) = 1) {z : Value} (hz : zeroOf P (P.elem t) = some z) (h1 : z.oneCell' = true)
    (hb : (P.info? (P.elem t)).map (fun i => decide (i.bytes ≤ 64)) = some true) (hn : n ≤ 1099511627776) (hd : d < 1000000000000) : Gf P ops RO [d] ⟨some d, .makeSlice t l c, ty, pos, after, none⟩ s (.ref d 0 n) [(d, 1, List.replicate n (.v z))] :=
  Gf.plain fun s2 hs hn2 => ops_makeSlice (by rw [hs l (by simp [Op.operands])]; exact hl) (by rw [hs c (by simp [Op.operands])]; exact hc) ht hw hz h1 hb hn ⟨hd, (hn2 d (by simp)).1⟩ (hn2 d (by simp)).2
end Eng

/-- Whether one of the nodes named is not won by the other one moving first. -/
def orN (R : List Bool) (acc : Bool) : List Nat → Bool
  | [] => acc
  | x :: xs => orN R (acc || !R.getD x false) xs
theorem orN_snoc (R : List Bool) : ∀ (l : List Nat) (acc : Bool) (x : Nat), orN R acc (l ++ [x]) = (orN R acc l || !R.getD x false)
  | [], _, _ => rfl
  | y :: ys, acc, x => by rw [List.cons_append, orN, orN, orN_snoc R ys]
/-- Who wins moving first, of the first k nodes. -/
def wn (f : List Nd) : Nat → List Bool × List Bool
  | 0 => ([], [])
  | k + 1 => ((wn f k).1 ++ [orN (wn f k).2 false (nd f k).1], (wn f k).2 ++ [orN (wn f k).1 false (nd f k).2])
theorem wn_len (f : List Nd) : ∀ k, (wn f k).1.length = k ∧ (wn f k).2.length = k
  | 0 => ⟨rfl, rfl⟩
  | k + 1 => by have := wn_len f k; simp only [wn, List.length_append, List.length_cons, List.length_nil]; omega
/-- The list so far, the next one under way. -/
def wW (P : List Bool) (n : Nat) (x : Bool) : List Bool := P ++ x :: List.replicate (n - P.length - 1) false
theorem wW_len {P : List Bool} {n : Nat} (x : Bool) (h : P.length < n) : (wW P n x).length = n := by unfold wW; simp; omega
theorem wW_at {P : List Bool} {n k : Nat} {x : Bool} (h : k < P.length) (hk : k < (wW P n x).length) : (wW P n x)[k] = P.getD k false := by
  have e : wW P n x = P ++ x :: List.replicate (n - P.length - 1) false := rfl
  rw [List.getElem_of_eq e hk, List.getElem_append_left h, gdp h]
theorem wW_self {P : List Bool} {n i : Nat} {x : Bool} (hP : P.length = i) (hi : i < (wW P n x).length) : (wW P n x)[i] = x := by
  have e : wW P n x = P ++ x :: List.replicate (n - P.length - 1) false := rfl
  rw [List.getElem_of_eq e hi, List.getElem_append_right (by omega)]
  simp [hP]
theorem wW_set {P : List Bool} {n i : Nat} {x y : Bool} (hP : P.length = i) : (wW P n x).set i y = wW P n y := by
  unfold wW
  rw [List.set_append_right _ _ (by omega), hP, Nat.sub_self, List.set_cons_zero]
theorem wW_zero {P : List Bool} {n : Nat} (h : P.length < n) : P ++ List.replicate (n - P.length) false = wW P n false := by
  unfold wW
  rw [show n - P.length = (n - P.length - 1) + 1 by omega, List.replicate_succ]; simp
theorem wW_snoc {P : List Bool} {n : Nat} {x : Bool} : wW P n x = (P ++ [x]) ++ List.replicate (n - (P ++ [x]).length) false := by
  unfold wW
  rw [List.append_assoc, List.length_append]; simp [Nat.sub_sub]
theorem wins_ok (f : List Nd) (ok : OkF f) (hN : f.length ≤ 120) : FCr Try.prog 99 [.sh (f.map RNd)] (.tup [OBs (wn f f.length).1, OBs (wn f f.length).2]) := by
  refine (fcr_in Try.func99 rfl (by simp only [Try.ntmps99, anys, List.length_cons, List.length_nil, Nat.reduceAdd, Nat.reduceSub, List.replicate_succ, List.replicate_zero, List.cons_append, List.nil_append] <;> rfl) ?_)
  repeat' first
    | refine w_seq ?_
    | refine w_block ?_
    | refine rb_n ?_
    | refine rb_ret ?_
    | refine rb_eq ?_
    | refine rb_ne (by rfl) ?_
    | refine w_exit ?_
    | refine rt_exit ?_
    | refine w_region ?_
    | refine l_nil ?_
    | refine rt_n ?_
    | refine w_ret ?_
    | refine rt_ret ?_
    | refine w_skip ?_
    | refine w_cond_t rfl ?_
    | refine w_cond_f rfl ?_
    | refine w_cnd rfl (fun hc => ?_) (fun hc => ?_)
    | refine w_cd rfl (fun hc => ?_) (fun hc => ?_)
    | refine w_cn rfl (fun hc => ?_) (fun hc => ?_)
    | refine w_cond rfl (fun hc => ?_) (fun hc => ?_)
    | (refine w_drawP (id := 1) (roL []) (fun _ => false) [(2, 14), (5, 17)] (by kernel_rfl) rfl (by kernel_rfl) rfl (by decide) (by simp [nm, onames]) ?_)
    | (refine l_o ?_; first | refine l_op (hk := ?_) | (refine l_g ?_; first | refine l_y rfl rfl rfl ?_ | refine l_n rfl rfl rfl rfl (hk := ?_) | refine l_n' rfl rfl rfl (hk := ?_) | refine l_spnd rfl rfl rfl (h1 := fun hc => ?_) (h2 := fun hc => ?_) | refine l_spd rfl rfl rfl (h1 := fun hc => ?_) (h2 := fun hc => ?_) | refine l_spn rfl rfl rfl (h1 := fun hc => ?_) (h2 := fun hc => ?_) | refine l_sp rfl rfl rfl (h1 := fun hc => ?_) (h2 := fun hc => ?_)))
    | refine d_nil ?_
    | (refine d_o ?_; first | refine d_fl (hk := ?_) | refine d_ef (hk := ?_) | (refine d_g ?_; first | refine d_spnd rfl rfl rfl (h1 := fun hc => ?_) (h2 := fun hc => ?_) | refine d_spd rfl rfl rfl (h1 := fun hc => ?_) (h2 := fun hc => ?_) | refine d_spn rfl rfl rfl (h1 := fun hc => ?_) (h2 := fun hc => ?_) | refine d_sp rfl rfl rfl (h1 := fun hc => ?_) (h2 := fun hc => ?_)))
    | (refine w_o ?_; first | refine w_draw (id := 1) (fun _ => true) (fun k => [2, 5].contains k) [[], []] 64 (by kernel_rfl) rfl (by kernel_rfl) (by simp [nm, nset, -List.map_take, -List.map_drop]) ?_)
  repeat' first
    | refine p_nil ?_
    | refine p_pu (.makeSlice rfl rfl (by kernel_rfl) (by kernel_rfl) rfl rfl (by kernel_rfl) (by omega) (by decide)) (hk := ?_)
    | refine p_fl (hk := ?_)
  repeat' first
    | refine w_seq ?_
    | refine w_block ?_
    | refine rb_n ?_
    | refine rb_ret ?_
    | refine rb_eq ?_
    | refine rb_ne (by rfl) ?_
    | refine w_exit ?_
    | refine rt_exit ?_
    | refine w_region ?_
    | refine l_nil ?_
    | refine rt_n ?_
    | refine w_ret ?_
    | refine rt_ret ?_
    | refine w_skip ?_
    | refine w_cond_t rfl ?_
    | refine w_cond_f rfl ?_
    | refine w_cnd rfl (fun hc => ?_) (fun hc => ?_)
    | refine w_cd rfl (fun hc => ?_) (fun hc => ?_)
    | refine w_cn rfl (fun hc => ?_) (fun hc => ?_)
    | refine w_cond rfl (fun hc => ?_) (fun hc => ?_)
    | (refine l_o ?_; first | refine l_op (hk := ?_) | (refine l_g ?_; first | refine l_y rfl rfl rfl ?_ | refine l_n rfl rfl rfl rfl (hk := ?_) | refine l_n' rfl rfl rfl (hk := ?_) | refine l_spnd rfl rfl rfl (h1 := fun hc => ?_) (h2 := fun hc => ?_) | refine l_spd rfl rfl rfl (h1 := fun hc => ?_) (h2 := fun hc => ?_) | refine l_spn rfl rfl rfl (h1 := fun hc => ?_) (h2 := fun hc => ?_) | refine l_sp rfl rfl rfl (h1 := fun hc => ?_) (h2 := fun hc => ?_)))
    | refine d_nil ?_
    | (refine d_o ?_; first | refine d_fl (hk := ?_) | refine d_ef (hk := ?_) | (refine d_g ?_; first | refine d_spnd rfl rfl rfl (h1 := fun hc => ?_) (h2 := fun hc => ?_) | refine d_spd rfl rfl rfl (h1 := fun hc => ?_) (h2 := fun hc => ?_) | refine d_spn rfl rfl rfl (h1 := fun hc => ?_) (h2 := fun hc => ?_) | refine d_sp rfl rfl rfl (h1 := fun hc => ?_) (h2 := fun hc => ?_)))
    | (refine w_o ?_; first | refine w_draw (id := 1) (fun _ => true) (fun k => [2, 5].contains k) [[], []] 64 (by kernel_rfl) rfl (by kernel_rfl) (by simp [nm, nset, -List.map_take, -List.map_drop]) ?_)
  refine w_loopm (ι := Nat × List Bool × List Bool) (fun q => [(20, RVn q.1), (6, .any), (4, .ref 14 0 f.length), (14, .ref 14 0 f.length), (5, .ref 17 0 f.length), (17, .ref 17 0 f.length)]) (fun q => [(17, 1, q.2.2.map RVb), (14, 1, q.2.1.map RVb)]) (fun q => q.1 ≤ f.length ∧ q.2.1 = (wn f q.1).1 ++ List.replicate (f.length - q.1) false ∧ q.2.2 = (wn f q.1).2 ++ List.replicate (f.length - q.1) false) (fun q => f.length - q.1) (0, List.replicate f.length false, List.replicate f.length false) (h0 := ?_) (hs := ?_) (round := ?_)
  · exact ⟨by omega, by simp [wn], by simp [wn]⟩
  · refine le_eq (by (repeat' first | exact .nil | refine .keep ?_ | refine .any ?_); first | done | fail) rfl (by simp)
  · intro ⟨i, A, B⟩ ⟨hi, hA, hB⟩
    dsimp only at hi hA hB ⊢
    by_cases hil : i < f.length
    · obtain ⟨l1, l2⟩ := wn_len f i
      have hfi : f[i] = nd f i := (gdp hil).symm
      have hoL := (ok i).1.2
      have hoR := (ok i).2.2
      have hlL := sn_len (ok i).1.1 hoL
      have hlR := sn_len (ok i).2.1 hoR
      have hwn : wn f (i + 1) = ((wn f i).1 ++ [orN (wn f i).2 false (nd f i).1], (wn f i).2 ++ [orN (wn f i).1 false (nd f i).2]) := rfl
      generalize wn f i = q at *
      obtain ⟨P, Q⟩ := q
      dsimp only at *
      generalize nd f i = nn at *
      obtain ⟨nL, nR⟩ := nn
      dsimp only at *
      have eA : A = wW P f.length false := by rw [hA, ← wW_zero (by omega), l1]
      have eB : B = wW Q f.length false := by rw [hB, ← wW_zero (by omega), l2]
      clear hA hB
      subst eA
      subst eB
      repeat' first
        | refine w_seq ?_
        | refine w_block ?_
        | refine rb_n ?_
        | refine rb_ret ?_
        | refine rb_eq ?_
        | refine rb_ne (by rfl) ?_
        | refine w_exit ?_
        | refine rt_exit ?_
        | refine w_region ?_
        | refine l_nil ?_
        | refine rt_n ?_
        | refine w_ret ?_
        | refine rt_ret ?_
        | refine w_skip ?_
        | refine w_cond_t rfl ?_
        | refine w_cond_f rfl ?_
        | refine w_cnd rfl (fun hc => ?_) (fun hc => ?_)
        | refine w_cd rfl (fun hc => ?_) (fun hc => ?_)
        | refine w_cn rfl (fun hc => ?_) (fun hc => ?_)
        | refine w_cond rfl (fun hc => ?_) (fun hc => ?_)
        | (exfalso; omega)
        | (refine l_o ?_; first | refine l_op (hk := ?_) | (refine l_g ?_; first | refine l_y rfl rfl rfl ?_ | refine l_n rfl rfl rfl rfl (hk := ?_) | refine l_n' rfl rfl rfl (hk := ?_) | refine l_spnd rfl rfl rfl (h1 := fun hc => ?_) (h2 := fun hc => ?_) | refine l_spd rfl rfl rfl (h1 := fun hc => ?_) (h2 := fun hc => ?_) | refine l_spn rfl rfl rfl (h1 := fun hc => ?_) (h2 := fun hc => ?_) | refine l_sp rfl rfl rfl (h1 := fun hc => ?_) (h2 := fun hc => ?_)))
        | refine d_nil ?_
        | (refine d_o ?_; first | refine d_fl (hk := ?_) | refine d_ef (hk := ?_) | (refine d_g ?_; first | refine d_spnd rfl rfl rfl (h1 := fun hc => ?_) (h2 := fun hc => ?_) | refine d_spd rfl rfl rfl (h1 := fun hc => ?_) (h2 := fun hc => ?_) | refine d_spn rfl rfl rfl (h1 := fun hc => ?_) (h2 := fun hc => ?_) | refine d_sp rfl rfl rfl (h1 := fun hc => ?_) (h2 := fun hc => ?_)))
        | (refine w_o ?_; first | refine w_draw (id := 1) (fun _ => true) (fun k => [2, 5].contains k) [[], []] 64 (by kernel_rfl) rfl (by kernel_rfl) (by simp [nm, nset, -List.map_take, -List.map_drop]) ?_)
      simp only [hfi]
      refine w_loopm (ι := Nat) (fun q => [(28, RVn q), (9, .any)]) (fun q => [(7, 2, [.agg [RNs nL, RNs nR]]), (17, 1, (wW Q f.length false).map RVb), (14, 1, (wW P f.length (orN Q false (nL.take q))).map RVb)]) (fun q => q ≤ nL.length) (fun q => nL.length - q) 0 (h0 := ?_) (hs := ?_) (round := ?_)
      · exact Nat.zero_le _
      · refine le_eq (by (repeat' first | exact .nil | refine .keep ?_ | refine .any ?_); first | done | fail) rfl rfl
      · intro q hq
        have z1 := wW_len (P := P) (orN Q false (nL.take q)) (show P.length < f.length by omega)
        have z2 := wW_len (P := Q) false (show Q.length < f.length by omega)
        by_cases hql : q < nL.length
        · have hx := hoL _ (List.getElem_mem hql)
          have e2 := orN_snoc Q (nL.take q) false nL[q]
          rw [← take_next hql] at e2
          have e3 := fun y => wW_set (n := f.length) (x := orN Q false (nL.take q)) (y := y) l1
          have g1 := fun (h : nL[q] < (wW Q f.length false).length) => wW_at (P := Q) (n := f.length) (k := nL[q]) (x := false) (by rw [l2]; exact hx) h
          have g2 := fun (h : i < (wW P f.length (orN Q false (nL.take q))).length) => wW_self (P := P) (n := f.length) (i := i) (x := orN Q false (nL.take q)) l1 h
          generalize wW P f.length (orN Q false (nL.take q)) = W at *
          generalize wW Q f.length false = V at *
          generalize orN Q false (nL.take q) = m at *
          have hb1 : nL[q] < V.length := by omega
          have g1' := g1 hb1
          have hb2 : i < W.length := by omega
          have g2' := g2 hb2
          cases m with
          | true =>
            repeat' first
              | refine w_seq ?_
              | refine w_block ?_
              | refine rb_n ?_
              | refine rb_ret ?_
              | refine rb_eq ?_
              | refine rb_ne (by rfl) ?_
              | refine w_exit ?_
              | refine rt_exit ?_
              | refine w_region ?_
              | refine l_nil ?_
              | refine rt_n ?_
              | refine w_ret ?_
              | refine rt_ret ?_
              | refine w_skip ?_
              | refine w_cond_t rfl ?_
              | refine w_cond_f rfl ?_
              | refine w_cnd rfl (fun hc => ?_) (fun hc => ?_)
              | refine w_cd rfl (fun hc => ?_) (fun hc => ?_)
              | refine w_cn rfl (fun hc => ?_) (fun hc => ?_)
              | refine w_cond rfl (fun hc => ?_) (fun hc => ?_)
              | (exfalso; omega)
              | (rw [g2'])
              | (refine l_o ?_; first | refine l_op (hk := ?_) | (refine l_g ?_; first | refine l_y rfl rfl rfl ?_ | refine l_n rfl rfl rfl rfl (hk := ?_) | refine l_n' rfl rfl rfl (hk := ?_) | refine l_spnd rfl rfl rfl (h1 := fun hc => ?_) (h2 := fun hc => ?_) | refine l_spd rfl rfl rfl (h1 := fun hc => ?_) (h2 := fun hc => ?_) | refine l_spn rfl rfl rfl (h1 := fun hc => ?_) (h2 := fun hc => ?_) | refine l_sp rfl rfl rfl (h1 := fun hc => ?_) (h2 := fun hc => ?_)))
              | refine d_nil ?_
              | (refine d_o ?_; first | refine d_fl (hk := ?_) | refine d_ef (hk := ?_) | (refine d_g ?_; first | refine d_spnd rfl rfl rfl (h1 := fun hc => ?_) (h2 := fun hc => ?_) | refine d_spd rfl rfl rfl (h1 := fun hc => ?_) (h2 := fun hc => ?_) | refine d_spn rfl rfl rfl (h1 := fun hc => ?_) (h2 := fun hc => ?_) | refine d_sp rfl rfl rfl (h1 := fun hc => ?_) (h2 := fun hc => ?_)))
              | (refine w_o ?_; first | refine w_draw (id := 1) (fun _ => true) (fun k => [2, 5].contains k) [[], []] 64 (by kernel_rfl) rfl (by kernel_rfl) (by simp [nm, nset, -List.map_take, -List.map_drop]) ?_)
            refine rn_mk (q + 1) (by omega) (by omega) ?_
            rw [e2, ← e3, Bool.true_or]
            refine le_eq (by (repeat' first | exact .nil | refine .keep ?_ | refine .any ?_); first | done | fail) rfl rfl
          | false =>
            repeat' first
              | refine w_seq ?_
              | refine w_block ?_
              | refine rb_n ?_
              | refine rb_ret ?_
              | refine rb_eq ?_
              | refine rb_ne (by rfl) ?_
              | refine w_exit ?_
              | refine rt_exit ?_
              | refine w_region ?_
              | refine l_nil ?_
              | refine rt_n ?_
              | refine w_ret ?_
              | refine rt_ret ?_
              | refine w_skip ?_
              | refine w_cond_t rfl ?_
              | refine w_cond_f rfl ?_
              | refine w_cnd rfl (fun hc => ?_) (fun hc => ?_)
              | refine w_cd rfl (fun hc => ?_) (fun hc => ?_)
              | refine w_cn rfl (fun hc => ?_) (fun hc => ?_)
              | refine w_cond rfl (fun hc => ?_) (fun hc => ?_)
              | (exfalso; omega)
              | (rw [g2'])
              | (refine l_o ?_; first | refine l_op (hk := ?_) | (refine l_g ?_; first | refine l_y rfl rfl rfl ?_ | refine l_n rfl rfl rfl rfl (hk := ?_) | refine l_n' rfl rfl rfl (hk := ?_) | refine l_spnd rfl rfl rfl (h1 := fun hc => ?_) (h2 := fun hc => ?_) | refine l_spd rfl rfl rfl (h1 := fun hc => ?_) (h2 := fun hc => ?_) | refine l_spn rfl rfl rfl (h1 := fun hc => ?_) (h2 := fun hc => ?_) | refine l_sp rfl rfl rfl (h1 := fun hc => ?_) (h2 := fun hc => ?_)))
              | refine d_nil ?_
              | (refine d_o ?_; first | refine d_fl (hk := ?_) | refine d_ef (hk := ?_) | (refine d_g ?_; first | refine d_spnd rfl rfl rfl (h1 := fun hc => ?_) (h2 := fun hc => ?_) | refine d_spd rfl rfl rfl (h1 := fun hc => ?_) (h2 := fun hc => ?_) | refine d_spn rfl rfl rfl (h1 := fun hc => ?_) (h2 := fun hc => ?_) | refine d_sp rfl rfl rfl (h1 := fun hc => ?_) (h2 := fun hc => ?_)))
              | (refine w_o ?_; first | refine w_draw (id := 1) (fun _ => true) (fun k => [2, 5].contains k) [[], []] 64 (by kernel_rfl) rfl (by kernel_rfl) (by simp [nm, nset, -List.map_take, -List.map_drop]) ?_)
            refine rn_mk (q + 1) (by omega) (by omega) ?_
            rw [e2, ← e3, Bool.false_or, ← g1']
            refine le_eq (by (repeat' first | exact .nil | refine .keep ?_ | refine .any ?_); first | done | fail) rfl rfl
        · obtain rfl : q = nL.length := by omega
          rw [List.take_length]
          generalize hM : orN Q false nL = M at *
          repeat' first
            | refine w_seq ?_
            | refine w_block ?_
            | refine rb_n ?_
            | refine rb_ret ?_
            | refine rb_eq ?_
            | refine rb_ne (by rfl) ?_
            | refine w_exit ?_
            | refine rt_exit ?_
            | refine w_region ?_
            | refine l_nil ?_
            | refine rt_n ?_
            | refine w_ret ?_
            | refine rt_ret ?_
            | refine w_skip ?_
            | refine w_cond_t rfl ?_
            | refine w_cond_f rfl ?_
            | refine w_cnd rfl (fun hc => ?_) (fun hc => ?_)
            | refine w_cd rfl (fun hc => ?_) (fun hc => ?_)
            | refine w_cn rfl (fun hc => ?_) (fun hc => ?_)
            | refine w_cond rfl (fun hc => ?_) (fun hc => ?_)
            | (exfalso; omega)
            | (refine l_o ?_; first | refine l_op (hk := ?_) | (refine l_g ?_; first | refine l_y rfl rfl rfl ?_ | refine l_n rfl rfl rfl rfl (hk := ?_) | refine l_n' rfl rfl rfl (hk := ?_) | refine l_spnd rfl rfl rfl (h1 := fun hc => ?_) (h2 := fun hc => ?_) | refine l_spd rfl rfl rfl (h1 := fun hc => ?_) (h2 := fun hc => ?_) | refine l_spn rfl rfl rfl (h1 := fun hc => ?_) (h2 := fun hc => ?_) | refine l_sp rfl rfl rfl (h1 := fun hc => ?_) (h2 := fun hc => ?_)))
            | refine d_nil ?_
            | (refine d_o ?_; first | refine d_fl (hk := ?_) | refine d_ef (hk := ?_) | (refine d_g ?_; first | refine d_spnd rfl rfl rfl (h1 := fun hc => ?_) (h2 := fun hc => ?_) | refine d_spd rfl rfl rfl (h1 := fun hc => ?_) (h2 := fun hc => ?_) | refine d_spn rfl rfl rfl (h1 := fun hc => ?_) (h2 := fun hc => ?_) | refine d_sp rfl rfl rfl (h1 := fun hc => ?_) (h2 := fun hc => ?_)))
            | (refine w_o ?_; first | refine w_draw (id := 1) (fun _ => true) (fun k => [2, 5].contains k) [[], []] 64 (by kernel_rfl) rfl (by kernel_rfl) (by simp [nm, nset, -List.map_take, -List.map_drop]) ?_)
          refine w_loopm (ι := Nat) (fun q => [(50, RVn q), (11, .any)]) (fun q => [(7, 2, [.agg [RNs nL, RNs nR]]), (17, 1, (wW Q f.length (orN P false (nR.take q))).map RVb), (14, 1, (wW P f.length M).map RVb)]) (fun q => q ≤ nR.length) (fun q => nR.length - q) 0 (h0 := ?_) (hs := ?_) (round := ?_)
          · exact Nat.zero_le _
          · refine le_eq (by (repeat' first | exact .nil | refine .keep ?_ | refine .any ?_); first | done | fail) rfl rfl
          · intro q hq
            have z1 := wW_len (P := P) M (show P.length < f.length by omega)
            have z2 := wW_len (P := Q) (orN P false (nR.take q)) (show Q.length < f.length by omega)
            by_cases hql : q < nR.length
            · have hx := hoR _ (List.getElem_mem hql)
              have e2 := orN_snoc P (nR.take q) false nR[q]
              rw [← take_next hql] at e2
              have e3 := fun y => wW_set (n := f.length) (x := orN P false (nR.take q)) (y := y) l2
              have g1 := fun (h : nR[q] < (wW P f.length M).length) => wW_at (P := P) (n := f.length) (k := nR[q]) (x := M) (by rw [l1]; exact hx) h
              have g2 := fun (h : i < (wW Q f.length (orN P false (nR.take q))).length) => wW_self (P := Q) (n := f.length) (i := i) (x := orN P false (nR.take q)) l2 h
              generalize wW Q f.length (orN P false (nR.take q)) = W at *
              generalize wW P f.length M = V at *
              generalize orN P false (nR.take q) = m at *
              have hb1 : nR[q] < V.length := by omega
              have g1' := g1 hb1
              have hb2 : i < W.length := by omega
              have g2' := g2 hb2
              cases m with
              | true =>
                repeat' first
                  | refine w_seq ?_
                  | refine w_block ?_
                  | refine rb_n ?_
                  | refine rb_ret ?_
                  | refine rb_eq ?_
                  | refine rb_ne (by rfl) ?_
                  | refine w_exit ?_
                  | refine rt_exit ?_
                  | refine w_region ?_
                  | refine l_nil ?_
                  | refine rt_n ?_
                  | refine w_ret ?_
                  | refine rt_ret ?_
                  | refine w_skip ?_
                  | refine w_cond_t rfl ?_
                  | refine w_cond_f rfl ?_
                  | refine w_cnd rfl (fun hc => ?_) (fun hc => ?_)
                  | refine w_cd rfl (fun hc => ?_) (fun hc => ?_)
                  | refine w_cn rfl (fun hc => ?_) (fun hc => ?_)
                  | refine w_cond rfl (fun hc => ?_) (fun hc => ?_)
                  | (exfalso; omega)
                  | (rw [g2'])
                  | (refine l_o ?_; first | refine l_op (hk := ?_) | (refine l_g ?_; first | refine l_y rfl rfl rfl ?_ | refine l_n rfl rfl rfl rfl (hk := ?_) | refine l_n' rfl rfl rfl (hk := ?_) | refine l_spnd rfl rfl rfl (h1 := fun hc => ?_) (h2 := fun hc => ?_) | refine l_spd rfl rfl rfl (h1 := fun hc => ?_) (h2 := fun hc => ?_) | refine l_spn rfl rfl rfl (h1 := fun hc => ?_) (h2 := fun hc => ?_) | refine l_sp rfl rfl rfl (h1 := fun hc => ?_) (h2 := fun hc => ?_)))
                  | refine d_nil ?_
                  | (refine d_o ?_; first | refine d_fl (hk := ?_) | refine d_ef (hk := ?_) | (refine d_g ?_; first | refine d_spnd rfl rfl rfl (h1 := fun hc => ?_) (h2 := fun hc => ?_) | refine d_spd rfl rfl rfl (h1 := fun hc => ?_) (h2 := fun hc => ?_) | refine d_spn rfl rfl rfl (h1 := fun hc => ?_) (h2 := fun hc => ?_) | refine d_sp rfl rfl rfl (h1 := fun hc => ?_) (h2 := fun hc => ?_)))
                  | (refine w_o ?_; first | refine w_draw (id := 1) (fun _ => true) (fun k => [2, 5].contains k) [[], []] 64 (by kernel_rfl) rfl (by kernel_rfl) (by simp [nm, nset, -List.map_take, -List.map_drop]) ?_)
                refine rn_mk (q + 1) (by omega) (by omega) ?_
                rw [e2, ← e3, Bool.true_or]
                refine le_eq (by (repeat' first | exact .nil | refine .keep ?_ | refine .any ?_); first | done | fail) rfl rfl
              | false =>
                repeat' first
                  | refine w_seq ?_
                  | refine w_block ?_
                  | refine rb_n ?_
                  | refine rb_ret ?_
                  | refine rb_eq ?_
                  | refine rb_ne (by rfl) ?_
                  | refine w_exit ?_
                  | refine rt_exit ?_
                  | refine w_region ?_
                  | refine l_nil ?_
                  | refine rt_n ?_
                  | refine w_ret ?_
                  | refine rt_ret ?_
                  | refine w_skip ?_
                  | refine w_cond_t rfl ?_
                  | refine w_cond_f rfl ?_
                  | refine w_cnd rfl (fun hc => ?_) (fun hc => ?_)
                  | refine w_cd rfl (fun hc => ?_) (fun hc => ?_)
                  | refine w_cn rfl (fun hc => ?_) (fun hc => ?_)
                  | refine w_cond rfl (fun hc => ?_) (fun hc => ?_)
                  | (exfalso; omega)
                  | (rw [g2'])
                  | (refine l_o ?_; first | refine l_op (hk := ?_) | (refine l_g ?_; first | refine l_y rfl rfl rfl ?_ | refine l_n rfl rfl rfl rfl (hk := ?_) | refine l_n' rfl rfl rfl (hk := ?_) | refine l_spnd rfl rfl rfl (h1 := fun hc => ?_) (h2 := fun hc => ?_) | refine l_spd rfl rfl rfl (h1 := fun hc => ?_) (h2 := fun hc => ?_) | refine l_spn rfl rfl rfl (h1 := fun hc => ?_) (h2 := fun hc => ?_) | refine l_sp rfl rfl rfl (h1 := fun hc => ?_) (h2 := fun hc => ?_)))
                  | refine d_nil ?_
                  | (refine d_o ?_; first | refine d_fl (hk := ?_) | refine d_ef (hk := ?_) | (refine d_g ?_; first | refine d_spnd rfl rfl rfl (h1 := fun hc => ?_) (h2 := fun hc => ?_) | refine d_spd rfl rfl rfl (h1 := fun hc => ?_) (h2 := fun hc => ?_) | refine d_spn rfl rfl rfl (h1 := fun hc => ?_) (h2 := fun hc => ?_) | refine d_sp rfl rfl rfl (h1 := fun hc => ?_) (h2 := fun hc => ?_)))
                  | (refine w_o ?_; first | refine w_draw (id := 1) (fun _ => true) (fun k => [2, 5].contains k) [[], []] 64 (by kernel_rfl) rfl (by kernel_rfl) (by simp [nm, nset, -List.map_take, -List.map_drop]) ?_)
                refine rn_mk (q + 1) (by omega) (by omega) ?_
                rw [e2, ← e3, Bool.false_or, ← g1']
                refine le_eq (by (repeat' first | exact .nil | refine .keep ?_ | refine .any ?_); first | done | fail) rfl rfl
            · obtain rfl : q = nR.length := by omega
              rw [List.take_length]
              generalize hM2 : orN P false nR = M2 at *
              repeat' first
                | refine w_seq ?_
                | refine w_block ?_
                | refine rb_n ?_
                | refine rb_ret ?_
                | refine rb_eq ?_
                | refine rb_ne (by rfl) ?_
                | refine w_exit ?_
                | refine rt_exit ?_
                | refine w_region ?_
                | refine l_nil ?_
                | refine rt_n ?_
                | refine w_ret ?_
                | refine rt_ret ?_
                | refine w_skip ?_
                | refine w_cond_t rfl ?_
                | refine w_cond_f rfl ?_
                | refine w_cnd rfl (fun hc => ?_) (fun hc => ?_)
                | refine w_cd rfl (fun hc => ?_) (fun hc => ?_)
                | refine w_cn rfl (fun hc => ?_) (fun hc => ?_)
                | refine w_cond rfl (fun hc => ?_) (fun hc => ?_)
                | (exfalso; omega)
                | (refine l_o ?_; first | refine l_op (hk := ?_) | (refine l_g ?_; first | refine l_y rfl rfl rfl ?_ | refine l_n rfl rfl rfl rfl (hk := ?_) | refine l_n' rfl rfl rfl (hk := ?_) | refine l_spnd rfl rfl rfl (h1 := fun hc => ?_) (h2 := fun hc => ?_) | refine l_spd rfl rfl rfl (h1 := fun hc => ?_) (h2 := fun hc => ?_) | refine l_spn rfl rfl rfl (h1 := fun hc => ?_) (h2 := fun hc => ?_) | refine l_sp rfl rfl rfl (h1 := fun hc => ?_) (h2 := fun hc => ?_)))
                | refine d_nil ?_
                | (refine d_o ?_; first | refine d_fl (hk := ?_) | refine d_ef (hk := ?_) | (refine d_g ?_; first | refine d_spnd rfl rfl rfl (h1 := fun hc => ?_) (h2 := fun hc => ?_) | refine d_spd rfl rfl rfl (h1 := fun hc => ?_) (h2 := fun hc => ?_) | refine d_spn rfl rfl rfl (h1 := fun hc => ?_) (h2 := fun hc => ?_) | refine d_sp rfl rfl rfl (h1 := fun hc => ?_) (h2 := fun hc => ?_)))
                | (refine w_o ?_; first | refine w_draw (id := 1) (fun _ => true) (fun k => [2, 5].contains k) [[], []] 64 (by kernel_rfl) rfl (by kernel_rfl) (by simp [nm, nset, -List.map_take, -List.map_drop]) ?_)
              refine rn_mk (i + 1, wW P f.length M, wW Q f.length M2) ?_ (by first | omega | (dsimp only; omega)) (le_dropd 7 (by simp only [nz]; rfl) (by simp only [nz, reduceIte, Nat.reduceEqDiff] <;> rfl) (le_eq (by (repeat' first | exact .nil | refine .keep ?_ | refine .any ?_); first | done | fail) rfl rfl))
              refine ⟨by dsimp only; omega, ?_, ?_⟩
              · dsimp only
                rw [hwn, wW_snoc]
                simp [l1]
              · dsimp only
                rw [hwn, wW_snoc]
                simp [l2]
    · obtain rfl : i = f.length := by omega
      rw [Nat.sub_self, List.replicate_zero, List.append_nil] at hA hB
      obtain ⟨l1, l2⟩ := wn_len f f.length
      rw [← hA, ← hB] at *
      repeat' first
        | refine w_seq ?_
        | refine w_block ?_
        | refine rb_n ?_
        | refine rb_ret ?_
        | refine rb_eq ?_
        | refine rb_ne (by rfl) ?_
        | refine w_exit ?_
        | refine rt_exit ?_
        | refine w_region ?_
        | refine l_nil ?_
        | refine rt_n ?_
        | refine w_ret ?_
        | refine rt_ret ?_
        | refine w_skip ?_
        | refine w_cond_t rfl ?_
        | refine w_cond_f rfl ?_
        | refine w_cnd rfl (fun hc => ?_) (fun hc => ?_)
        | refine w_cd rfl (fun hc => ?_) (fun hc => ?_)
        | refine w_cn rfl (fun hc => ?_) (fun hc => ?_)
        | refine w_cond rfl (fun hc => ?_) (fun hc => ?_)
        | (exfalso; omega)
        | (refine l_o ?_; first | refine l_op (hk := ?_) | (refine l_g ?_; first | refine l_y rfl rfl rfl ?_ | refine l_n rfl rfl rfl rfl (hk := ?_) | refine l_n' rfl rfl rfl (hk := ?_) | refine l_spnd rfl rfl rfl (h1 := fun hc => ?_) (h2 := fun hc => ?_) | refine l_spd rfl rfl rfl (h1 := fun hc => ?_) (h2 := fun hc => ?_) | refine l_spn rfl rfl rfl (h1 := fun hc => ?_) (h2 := fun hc => ?_) | refine l_sp rfl rfl rfl (h1 := fun hc => ?_) (h2 := fun hc => ?_)))
        | refine d_nil ?_
        | (refine d_o ?_; first | refine d_fl (hk := ?_) | refine d_ef (hk := ?_) | (refine d_g ?_; first | refine d_spnd rfl rfl rfl (h1 := fun hc => ?_) (h2 := fun hc => ?_) | refine d_spd rfl rfl rfl (h1 := fun hc => ?_) (h2 := fun hc => ?_) | refine d_spn rfl rfl rfl (h1 := fun hc => ?_) (h2 := fun hc => ?_) | refine d_sp rfl rfl rfl (h1 := fun hc => ?_) (h2 := fun hc => ?_)))
        | (refine w_o ?_; first | refine w_draw (id := 1) (fun _ => true) (fun k => [2, 5].contains k) [[], []] 64 (by kernel_rfl) rfl (by kernel_rfl) (by simp [nm, nset, -List.map_take, -List.map_drop]) ?_)
      refine en_end (hf := Try.results99) (hr := ?_); simp only [ne, nf, nl, nr, lget, reduceIte, Nat.reduceEqDiff]; first | rfl | refine congrArg RVb ?_ | refine congrArg RVi ?_ | skip
end Go.Proofs.Ytdignmbeiohhiaa
