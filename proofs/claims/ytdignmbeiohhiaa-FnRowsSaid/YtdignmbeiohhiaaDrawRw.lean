/- Rows drawn: what is drawn is bounded. For all readers within the bounds that the theorems name. -/
import Derived.Test.YtdignmbeiohhiaaCallX
import Derived.Test.YtdignmbeiohhiaaCloneR
import Derived.Test.YtdignmbeiohhiaaCur
import Derived.Test.YtdignmbeiohhiaaPutRw
import Derived.Test.YtdignmbeiohhiaaText
namespace Go.Proofs.Ytdignmbeiohhiaa
open Eng
attribute [local irreducible] OpS OpG FC FCr Rel Fl Ef DR Fs
attribute [local simp] RV.fzR_names
set_option linter.unusedSimpArgs false
set_option maxHeartbeats 0
set_option maxRecDepth 100000

theorem of_ok (c : Cur) (l : List (List UInt8)) (h : c.at_ ≤ 1099511627775) (hl : l ≠ []) (hl2 : l.length ≤ 1099511627776) : FC Try.prog 80 [.ptr 1000000000000 0 0, RSs l] [(1000000000000, 3, [RCur c])]
    (fun rv O => rv = RV.str (l.getD (pickV c l.length) []) ∧ O = [(1000000000000, 3, [RCur (pickC c l.length)])]) := by
  have h0 : 0 < l.length := List.length_pos_iff.2 hl
  have hp := pickV_lt c l.length h0
  rw [gdI hp]
  refine (fc_in Try.func80 rfl (by simp only [Try.ntmps80, anys, List.length_cons, List.length_nil, Nat.reduceAdd, Nat.reduceSub, List.replicate_succ, List.replicate_zero, List.cons_append, List.nil_append] <;> rfl) ?_)
  repeat' first
    | refine w_seq ?_
    | refine w_region ?_
    | refine l_nil ?_
    | refine rt_n ?_
    | refine w_ret ?_
    | refine rt_ret ?_
    | refine w_skip ?_
    | (refine l_o ?_; first | refine l_op rfl (by first | (apply k_callf; first | exact ops_callP 1000000000000 [RCur (pickC c l.length)] (hfc := pick_ok c l.length h hl2) | fail) | fail) (hk := ?_) | refine l_op (hk := ?_))
  refine en_endm [] (hf := Try.results80) (hO := ?_) (hr := ?_)
  · rfl
  · rfl
def keysL : List (List UInt8) := [[97], [98], [97, 98], [110, 105, 109, 32, 51], [100, 111, 109, 32, 46, 46], [122], [115, 116, 97, 108, 107, 32, 76, 82]]
def wrthL : List (List UInt8) := [[48], [49], [42, 51], [49, 47, 50], [123, 49, 124, 45, 49, 125]]
theorem getD_len {n : Nat} {l : List (List UInt8)} (h : ∀ x ∈ l, x.length ≤ n) (i : Nat) : (l.getD i []).length ≤ n := by
  rw [List.getD_eq_getElem?_getD]
  cases hx : l[i]? with
  | none => simp
  | some x => exact h x (List.mem_of_getElem? hx)
/-- A row drawn, and the reader behind it. -/
def drawRw (c : Cur) : Rw × Cur := ((keysL.getD (pickV c 7) [], wrthL.getD (pickV (pickC c 7) 5) []), pickC (pickC c 7) 5)
theorem drawRw_sm (c : Cur) : smRw (drawRw c).1 ∧ (drawRw c).2.at_ ≤ c.at_ + 4 := by
  have h1 := getD_len (n := 8) (l := keysL) (by decide) (pickV c 7)
  have h2 := getD_len (n := 8) (l := wrthL) (by decide) (pickV (pickC c 7) 5)
  have h3 := pickC_at c 7
  have h4 := pickC_at (pickC c 7) 5
  exact ⟨⟨by show (keysL.getD _ _).length ≤ _; omega, by show (wrthL.getD _ _).length ≤ _; omega⟩, by show (pickC _ 5).at_ ≤ _; omega⟩
theorem drawRow_ok (c : Cur) (h : c.at_ ≤ 1099511627000) : FC Try.prog 78 [.ptr 1000000000000 0 0] [(1000000000000, 3, [RCur c])]
    (fun rv O => rv = RRw (drawRw c).1 ∧ O = [(1000000000000, 3, [RCur (drawRw c).2])]) := by
  have h3 := pickC_at c 7
  have p1 := of_ok c keysL (by omega) (by decide) (by decide)
  have p2 := of_ok (pickC c 7) wrthL (by omega) (by decide) (by decide)
  rw [show keysL.length = 7 from rfl] at p1
  rw [show wrthL.length = 5 from rfl] at p2
  unfold drawRw
  generalize keysL.getD (pickV c 7) [] = K at *
  generalize wrthL.getD (pickV (pickC c 7) 5) [] = V at *
  generalize pickC c 7 = c1 at *
  generalize pickC c1 5 = c2 at *
  unfold keysL at p1
  unfold wrthL at p2
  refine (fc_in Try.func78 rfl (by simp only [Try.ntmps78, anys, List.length_cons, List.length_nil, Nat.reduceAdd, Nat.reduceSub, List.replicate_succ, List.replicate_zero, List.cons_append, List.nil_append] <;> rfl) ?_)
  repeat' first
    | refine w_seq ?_
    | refine w_region ?_
    | refine l_nil ?_
    | refine rt_n ?_
    | refine w_ret ?_
    | refine rt_ret ?_
    | refine w_skip ?_
    | (refine l_at_callf (d := some 5) ?_; refine l_le _ (le_freeze 4 rfl (by simp only [nz, nf, nl, nb, nr, ng, nq, nu, reduceIte, Nat.reduceEqDiff, Nat.reduceAdd, viewC_lit, List.length_cons, List.length_nil, RV.fzL, RV.fz]; rfl) (by simp only [nz, nf, nl, nb, nr, ng, nq, nu, reduceIte, Nat.reduceEqDiff, Nat.reduceAdd]; rfl)) ?_)
    | (refine l_at_callf (d := some 8) ?_; refine l_le _ (le_freeze 7 rfl (by simp only [nz, nf, nl, nb, nr, ng, nq, nu, reduceIte, Nat.reduceEqDiff, Nat.reduceAdd, viewC_lit, List.length_cons, List.length_nil, RV.fzL, RV.fz]; rfl) (by simp only [nz, nf, nl, nb, nr, ng, nq, nu, reduceIte, Nat.reduceEqDiff, Nat.reduceAdd]; rfl)) ?_)
    | (refine l_o ?_; first | refine l_op rfl (by first | (apply k_callf; first | exact ops_callP (d := 5) 1000000000000 [RCur c1] (hfc := p1) | exact ops_callP (d := 8) 1000000000000 [RCur c2] (hfc := p2) | fail) | fail) (hk := ?_) | refine l_op (hk := ?_))
  refine en_endm ([(2, 2, [RRw (K, V)])]) (hf := Try.results78) (hO := ?_) (hr := ?_)
  · rfl
  · rfl
/-- What is told of rows drawn. -/
def RwD (at0 : Nat) (x : List Rw × Cur) : Prop := x.1.length ≤ 70 ∧ (∀ q ∈ x.1, smRw q) ∧ x.2.at_ ≤ at0 + 1000
theorem drawRows_ok (c : Cur) (h : c.at_ ≤ 1099511620000) : FC Try.prog 77 [.ptr 1000000000000 0 0] [(1000000000000, 3, [RCur c])]
    (fun rv O => ∃ x : List Rw × Cur, RwD c.at_ x ∧ rv = ORws x.1 ∧ O = [(1000000000000, 3, [RCur x.2])]) := by
  have p1 := pick_ok c 7 (by omega) (by omega)
  have v1 := pickV_lt c 7 (by omega)
  have a1 := pickC_at c 7
  generalize pickV c 7 = n at *
  generalize pickC c 7 = c1 at *
  refine (fc_in Try.func77 rfl (by simp only [Try.ntmps77, anys, List.length_cons, List.length_nil, Nat.reduceAdd, Nat.reduceSub, List.replicate_succ, List.replicate_zero, List.cons_append, List.nil_append] <;> rfl) ?_)
  repeat' first
    | refine w_seq ?_
    | refine w_block ?_
    | refine rb_n ?_
    | refine rb_ret ?_
    | refine rb_eq ?_
    | refine rb_ne (by rfl) ?_
    | refine w_exit ?_
    | refine rt_exit ?_
    | refine w_region ?_
    | refine l_nil ?_
    | refine rt_n ?_
    | refine w_ret ?_
    | refine rt_ret ?_
    | refine w_skip ?_
    | refine w_cond_t rfl ?_
    | refine w_cond_f rfl ?_
    | refine w_cnd rfl (fun hc => ?_) (fun hc => ?_)
    | refine w_cd rfl (fun hc => ?_) (fun hc => ?_)
    | refine w_cn rfl (fun hc => ?_) (fun hc => ?_)
    | refine w_cond rfl (fun hc => ?_) (fun hc => ?_)
    | (refine l_o ?_; first | refine l_eqnil rfl (by kernel_rfl) (by intro b; simp only [nz]; rfl) (fun b hb => ?_) | refine l_op rfl (by first | (apply k_callf; first | exact ops_callP (d := 9) 1000000000000 [RCur c1] (hfc := p1) | fail) | fail) (hk := ?_) | refine l_op (hk := ?_))
  refine w_loopm (ι := Nat × Cur × List Rw) (fun q => [(4, RVn q.1), (3, .ref 7 0 q.2.2.length), (7, .any)]) (fun q => [(7, 2, q.2.2.map RRw), (1000000000000, 3, [RCur q.2.1])]) (fun q => q.2.2.length + q.1 ≤ 7 ∧ (∀ r ∈ q.2.2, smRw r) ∧ q.2.1.at_ + 4 * q.1 ≤ c.at_ + 40) (fun q => q.1) (n, c1, []) (h0 := ?_) (hs := ?_) (round := ?_)
  · exact ⟨by dsimp only [List.length_nil]; omega, by simp, by dsimp only; omega⟩
  · refine le_eq (by (repeat' first | exact .nil | refine .keep ?_ | refine .any ?_); first | done | fail) rfl rfl
  · intro ⟨k, d, o⟩ ⟨h1, h2, h3⟩
    dsimp only at h1 h2 h3 ⊢
    by_cases hk : k = 0
    · subst hk
      have p2 := one_ok d 12 (by omega) (by omega)
      have a2 := pickC_at d 12
      generalize pickC d 12 = d1 at *
      by_cases h0 : ((pickV d 12 : Nat) : Int) = 0
      · rw [decide_eq_true h0] at p2
        have p3 := pick_ok d1 4 (by omega) (by omega)
        have v3 := pickV_lt d1 4 (by omega)
        have a3 := pickC_at d1 4
        generalize pickV d1 4 = m at *
        generalize pickC d1 4 = d2 at *
        obtain rfl | rfl | rfl | rfl : m = 0 ∨ m = 1 ∨ m = 2 ∨ m = 3 := by omega
        · have p4 := of_ok d2 [[], [97, 61, 98], [97], [126]] (by omega) (by decide) (by decide)
          have l4 := getD_len (n := 8) (l := [[], [97, 61, 98], [97], [126]]) (by decide) (pickV d2 4)
          have a4 := pickC_at d2 4
          rw [show ([[], [97, 61, 98], [97], [126]] : List (List UInt8)).length = 4 from rfl] at p4
          generalize ([[], [97, 61, 98], [97], [126]] : List (List UInt8)).getD (pickV d2 4) [] = K at *
          generalize pickC d2 4 = d3 at *
          repeat' first
            | refine w_seq ?_
            | refine w_block ?_
            | refine rb_n ?_
            | refine rb_ret ?_
            | refine rb_eq ?_
            | refine rb_ne (by rfl) ?_
            | refine w_exit ?_
            | refine rt_exit ?_
            | refine w_region ?_
            | refine l_nil ?_
            | refine rt_n ?_
            | refine w_ret ?_
            | refine rt_ret ?_
            | refine w_skip ?_
            | refine w_cond_t rfl ?_
            | refine w_cond_f rfl ?_
            | refine w_cnd rfl (fun hc => ?_) (fun hc => ?_)
            | refine w_cd rfl (fun hc => ?_) (fun hc => ?_)
            | refine w_cn rfl (fun hc => ?_) (fun hc => ?_)
            | refine w_cond rfl (fun hc => ?_) (fun hc => ?_)
            | (exfalso; omega)
            | (refine l_at_callf (d := some 27) ?_; refine l_le _ (le_freeze 26 rfl (by simp only [nz, nf, nl, nb, nr, ng, nq, nu, reduceIte, Nat.reduceEqDiff, Nat.reduceAdd, viewC_lit, List.length_cons, List.length_nil, RV.fzL, RV.fz]; rfl) (by simp only [nz, nf, nl, nb, nr, ng, nq, nu, reduceIte, Nat.reduceEqDiff, Nat.reduceAdd]; rfl)) ?_)
            | (refine l_o ?_; first | refine l_eqnil rfl (by kernel_rfl) (by intro b; simp only [nz]; rfl) (fun b hb => ?_) | refine l_op rfl (by first | (apply k_callf; first | exact ops_callP (d := 19) 1000000000000 [RCur d1] (hfc := p2) | exact ops_callP (d := 21) 1000000000000 [RCur d2] (hfc := p3) | exact ops_callP (d := 27) 1000000000000 [RCur d3] (hfc := p4) | fail) | fail) (hk := ?_) | refine l_op (hk := ?_))
          refine en_ex (o ++ [(K, [49])], d3) ⟨by simp; omega, fun q hq => ?_, by dsimp only; omega⟩ ?_
          · rcases List.mem_append.1 hq with hq | hq
            · exact h2 q hq
            · rw [List.mem_singleton.1 hq]; exact ⟨by simp; try omega, by simp; try omega⟩
          · refine en_endm [] (hf := Try.results77) (hO := ?_) (hr := ?_)
            · rfl
            · rfl
        · have p4 := of_ok d2 [[], [10], [61, 61]] (by omega) (by decide) (by decide)
          have l4 := getD_len (n := 8) (l := [[], [10], [61, 61]]) (by decide) (pickV d2 3)
          have a4 := pickC_at d2 3
          rw [show ([[], [10], [61, 61]] : List (List UInt8)).length = 3 from rfl] at p4
          generalize ([[], [10], [61, 61]] : List (List UInt8)).getD (pickV d2 3) [] = K at *
          generalize pickC d2 3 = d3 at *
          repeat' first
            | refine w_seq ?_
            | refine w_block ?_
            | refine rb_n ?_
            | refine rb_ret ?_
            | refine rb_eq ?_
            | refine rb_ne (by rfl) ?_
            | refine w_exit ?_
            | refine rt_exit ?_
            | refine w_region ?_
            | refine l_nil ?_
            | refine rt_n ?_
            | refine w_ret ?_
            | refine rt_ret ?_
            | refine w_skip ?_
            | refine w_cond_t rfl ?_
            | refine w_cond_f rfl ?_
            | refine w_cnd rfl (fun hc => ?_) (fun hc => ?_)
            | refine w_cd rfl (fun hc => ?_) (fun hc => ?_)
            | refine w_cn rfl (fun hc => ?_) (fun hc => ?_)
            | refine w_cond rfl (fun hc => ?_) (fun hc => ?_)
            | (exfalso; omega)
            | (refine l_at_callf (d := some 36) ?_; refine l_le _ (le_freeze 35 rfl (by simp only [nz, nf, nl, nb, nr, ng, nq, nu, reduceIte, Nat.reduceEqDiff, Nat.reduceAdd, viewC_lit, List.length_cons, List.length_nil, RV.fzL, RV.fz]; rfl) (by simp only [nz, nf, nl, nb, nr, ng, nq, nu, reduceIte, Nat.reduceEqDiff, Nat.reduceAdd]; rfl)) ?_)
            | (refine l_o ?_; first | refine l_eqnil rfl (by kernel_rfl) (by intro b; simp only [nz]; rfl) (fun b hb => ?_) | refine l_op rfl (by first | (apply k_callf; first | exact ops_callP (d := 19) 1000000000000 [RCur d1] (hfc := p2) | exact ops_callP (d := 21) 1000000000000 [RCur d2] (hfc := p3) | exact ops_callP (d := 36) 1000000000000 [RCur d3] (hfc := p4) | fail) | fail) (hk := ?_) | refine l_op (hk := ?_))
          refine en_ex (o ++ [([126], K)], d3) ⟨by simp; omega, fun q hq => ?_, by dsimp only; omega⟩ ?_
          · rcases List.mem_append.1 hq with hq | hq
            · exact h2 q hq
            · rw [List.mem_singleton.1 hq]; exact ⟨by simp; try omega, by simp; try omega⟩
          · refine en_endm [] (hf := Try.results77) (hO := ?_) (hr := ?_)
            · rfl
            · rfl
        · repeat' first
            | refine w_seq ?_
            | refine w_block ?_
            | refine rb_n ?_
            | refine rb_ret ?_
            | refine rb_eq ?_
            | refine rb_ne (by rfl) ?_
            | refine w_exit ?_
            | refine rt_exit ?_
            | refine w_region ?_
            | refine l_nil ?_
            | refine rt_n ?_
            | refine w_ret ?_
            | refine rt_ret ?_
            | refine w_skip ?_
            | refine w_cond_t rfl ?_
            | refine w_cond_f rfl ?_
            | refine w_cnd rfl (fun hc => ?_) (fun hc => ?_)
            | refine w_cd rfl (fun hc => ?_) (fun hc => ?_)
            | refine w_cn rfl (fun hc => ?_) (fun hc => ?_)
            | refine w_cond rfl (fun hc => ?_) (fun hc => ?_)
            | (exfalso; omega)
            | (refine l_o ?_; first | refine l_eqnil rfl (by kernel_rfl) (by intro b; simp only [nz]; rfl) (fun b hb => ?_) | refine l_op rfl (by first | (apply k_callf; first | exact ops_callP (d := 19) 1000000000000 [RCur d1] (hfc := p2) | exact ops_callP (d := 21) 1000000000000 [RCur d2] (hfc := p3) | fail) | fail) (hk := ?_) | refine l_op (hk := ?_))
          refine w_le _ (le_nil 3 100 2 (by omega) rfl (by simp [nm]) (by simp [nm]) (by simp only [nz]; rfl)) ?_
          refine w_loopm (ι := Nat × Cur × List Rw) (fun q => [(5, RVn q.1), (3, .ref 100 0 q.2.2.length)]) (fun q => [(100, 2, q.2.2.map RRw), (7, 2, o.map RRw), (1000000000000, 3, [RCur q.2.1])]) (fun q => q.1 ≤ 61 ∧ q.2.2.length = q.1 ∧ (∀ r ∈ q.2.2, smRw r) ∧ q.2.1.at_ ≤ d2.at_ + 2 * q.1) (fun q => 61 - q.1) (0, d2, []) (h0 := ?_) (hs := ?_) (round := ?_)
          · exact ⟨by omega, rfl, by simp, by dsimp only; omega⟩
          · refine le_eq (by (repeat' first | exact .nil | refine .keep ?_ | refine .any ?_); first | done | fail) rfl rfl
          · intro ⟨j, e, o2⟩ ⟨g1, g2, g3, g4⟩
            dsimp only at g1 g2 g3 g4 ⊢
            have p4 := pick_ok e 2 (by omega) (by omega)
            have v4 := pickV_lt e 2 (by omega)
            have a4 := pickC_at e 2
            generalize pickV e 2 = v at *
            generalize pickC e 2 = e2 at *
            by_cases hj : j < 60 + v
            · have hN := l1Num_nat (100 + j) (by omega)
              have hnl := num_len (100 + j)
              generalize num (100 + j) = nm1 at *
              repeat' first
                | refine w_seq ?_
                | refine w_block ?_
                | refine rb_n ?_
                | refine rb_ret ?_
                | refine rb_eq ?_
                | refine rb_ne (by rfl) ?_
                | refine w_exit ?_
                | refine rt_exit ?_
                | refine w_region ?_
                | refine l_nil ?_
                | refine rt_n ?_
                | refine w_ret ?_
                | refine rt_ret ?_
                | refine w_skip ?_
                | refine w_cond_t rfl ?_
                | refine w_cond_f rfl ?_
                | refine w_cnd rfl (fun hc => ?_) (fun hc => ?_)
                | refine w_cd rfl (fun hc => ?_) (fun hc => ?_)
                | refine w_cn rfl (fun hc => ?_) (fun hc => ?_)
                | refine w_cond rfl (fun hc => ?_) (fun hc => ?_)
                | (exfalso; omega)
                | (refine l_o ?_; first | refine l_eqnil rfl (by kernel_rfl) (by intro b; simp only [nz]; rfl) (fun b hb => ?_) | refine l_op rfl (by first | (apply k_add; first | exact ops_addn (a := 60) (b := v) rfl rfl (by omega) | exact ops_addn (a := 100) (b := j) rfl rfl (by omega) | exact ops_cat (p := [107]) (q := nm1) rfl rfl (by simp; omega) | fail) | (apply k_callf; first | exact ops_callP (d := 44) 1000000000000 [RCur e2] (hfc := p4) | exact ops_callf (d := 52) (hfc := hN) | fail) | fail) (hk := ?_) | refine l_op (hk := ?_))
              exact rn_mk (j + 1, e2, o2 ++ [([107] ++ nm1, [48])]) ⟨by dsimp only; omega, by simp; omega, fun q hq => (List.mem_append.1 hq).elim (g3 q) fun hq => by rw [List.mem_singleton.1 hq]; exact ⟨by simp; omega, by simp⟩, by dsimp only; omega⟩ (by dsimp only; omega) (le_eq (by (repeat' first | exact .nil | refine .keep ?_ | refine .any ?_); first | done | fail) rfl rfl)
            · repeat' first
                | refine w_seq ?_
                | refine w_block ?_
                | refine rb_n ?_
                | refine rb_ret ?_
                | refine rb_eq ?_
                | refine rb_ne (by rfl) ?_
                | refine w_exit ?_
                | refine rt_exit ?_
                | refine w_region ?_
                | refine l_nil ?_
                | refine rt_n ?_
                | refine w_ret ?_
                | refine rt_ret ?_
                | refine w_skip ?_
                | refine w_cond_t rfl ?_
                | refine w_cond_f rfl ?_
                | refine w_cnd rfl (fun hc => ?_) (fun hc => ?_)
                | refine w_cd rfl (fun hc => ?_) (fun hc => ?_)
                | refine w_cn rfl (fun hc => ?_) (fun hc => ?_)
                | refine w_cond rfl (fun hc => ?_) (fun hc => ?_)
                | (exfalso; omega)
                | (refine l_o ?_; first | refine l_eqnil rfl (by kernel_rfl) (by intro b; simp only [nz]; rfl) (fun b hb => ?_) | refine l_op rfl (by first | (apply k_add; first | exact ops_addn (a := 60) (b := v) rfl rfl (by omega) | fail) | (apply k_callf; first | exact ops_callP (d := 44) 1000000000000 [RCur e2] (hfc := p4) | fail) | fail) (hk := ?_) | refine l_op (hk := ?_))
              refine en_ex (o2, e2) ⟨by dsimp only; omega, g3, by dsimp only; omega⟩ ?_
              refine en_endm ([(7, 2, o.map RRw)]) (hf := Try.results77) (hO := ?_) (hr := ?_)
              · rfl
              · rfl
        · repeat' first
            | refine w_seq ?_
            | refine w_block ?_
            | refine rb_n ?_
            | refine rb_ret ?_
            | refine rb_eq ?_
            | refine rb_ne (by rfl) ?_
            | refine w_exit ?_
            | refine rt_exit ?_
            | refine w_region ?_
            | refine l_nil ?_
            | refine rt_n ?_
            | refine w_ret ?_
            | refine rt_ret ?_
            | refine w_skip ?_
            | refine w_cond_t rfl ?_
            | refine w_cond_f rfl ?_
            | refine w_cnd rfl (fun hc => ?_) (fun hc => ?_)
            | refine w_cd rfl (fun hc => ?_) (fun hc => ?_)
            | refine w_cn rfl (fun hc => ?_) (fun hc => ?_)
            | refine w_cond rfl (fun hc => ?_) (fun hc => ?_)
            | (exfalso; omega)
            | (refine l_o ?_; first | refine l_eqnil rfl (by kernel_rfl) (by intro b; simp only [nz]; rfl) (fun b hb => ?_) | refine l_op rfl (by first | (apply k_callf; first | exact ops_callP (d := 19) 1000000000000 [RCur d1] (hfc := p2) | exact ops_callP (d := 21) 1000000000000 [RCur d2] (hfc := p3) | fail) | fail) (hk := ?_) | refine l_op (hk := ?_))
          refine w_loopm (ι := Cur × List UInt8) (fun q => [(6, RV.str q.2)]) (fun q => [(7, 2, o.map RRw), (1000000000000, 3, [RCur q.1])]) (fun q => q.2.length ≤ 81 ∧ q.1.at_ ≤ d2.at_ + 2 * q.2.length) (fun q => 81 - q.2.length) (d2, []) (h0 := ?_) (hs := ?_) (round := ?_)
          · exact ⟨by simp, by simp⟩
          · refine le_eq (by (repeat' first | exact .nil | refine .keep ?_ | refine .any ?_); first | done | fail) rfl rfl
          · intro ⟨e, w⟩ ⟨g1, g2⟩
            dsimp only at g1 g2 ⊢
            have p4 := pick_ok e 2 (by omega) (by omega)
            have v4 := pickV_lt e 2 (by omega)
            have a4 := pickC_at e 2
            generalize pickV e 2 = v at *
            generalize pickC e 2 = e2 at *
            by_cases hj : w.length < 80 + v
            · repeat' first
                | refine w_seq ?_
                | refine w_block ?_
                | refine rb_n ?_
                | refine rb_ret ?_
                | refine rb_eq ?_
                | refine rb_ne (by rfl) ?_
                | refine w_exit ?_
                | refine rt_exit ?_
                | refine w_region ?_
                | refine l_nil ?_
                | refine rt_n ?_
                | refine w_ret ?_
                | refine rt_ret ?_
                | refine w_skip ?_
                | refine w_cond_t rfl ?_
                | refine w_cond_f rfl ?_
                | refine w_cnd rfl (fun hc => ?_) (fun hc => ?_)
                | refine w_cd rfl (fun hc => ?_) (fun hc => ?_)
                | refine w_cn rfl (fun hc => ?_) (fun hc => ?_)
                | refine w_cond rfl (fun hc => ?_) (fun hc => ?_)
                | (exfalso; omega)
                | (refine l_o ?_; first | refine l_eqnil rfl (by kernel_rfl) (by intro b; simp only [nz]; rfl) (fun b hb => ?_) | refine l_op rfl (by first | (apply k_add; first | exact ops_addn (a := 80) (b := v) rfl rfl (by omega) | exact ops_cat (p := w) (q := [55]) rfl rfl (by simp; omega) | fail) | (apply k_callf; first | exact ops_callP (d := 62) 1000000000000 [RCur e2] (hfc := p4) | fail) | fail) (hk := ?_) | refine l_op (hk := ?_))
              exact rn_mk (e2, w ++ [55]) ⟨by simp; omega, by simp; omega⟩ (by simp; omega) (le_eq (by (repeat' first | exact .nil | refine .keep ?_ | refine .any ?_); first | done | fail) rfl rfl)
            · repeat' first
                | refine w_seq ?_
                | refine w_block ?_
                | refine rb_n ?_
                | refine rb_ret ?_
                | refine rb_eq ?_
                | refine rb_ne (by rfl) ?_
                | refine w_exit ?_
                | refine rt_exit ?_
                | refine w_region ?_
                | refine l_nil ?_
                | refine rt_n ?_
                | refine w_ret ?_
                | refine rt_ret ?_
                | refine w_skip ?_
                | refine w_cond_t rfl ?_
                | refine w_cond_f rfl ?_
                | refine w_cnd rfl (fun hc => ?_) (fun hc => ?_)
                | refine w_cd rfl (fun hc => ?_) (fun hc => ?_)
                | refine w_cn rfl (fun hc => ?_) (fun hc => ?_)
                | refine w_cond rfl (fun hc => ?_) (fun hc => ?_)
                | (exfalso; omega)
                | (refine l_o ?_; first | refine l_eqnil rfl (by kernel_rfl) (by intro b; simp only [nz]; rfl) (fun b hb => ?_) | refine l_op rfl (by first | (apply k_add; first | exact ops_addn (a := 80) (b := v) rfl rfl (by omega) | fail) | (apply k_callf; first | exact ops_callP (d := 62) 1000000000000 [RCur e2] (hfc := p4) | fail) | fail) (hk := ?_) | refine l_op (hk := ?_))
              refine en_ex ([([119], w)], e2) ⟨by simp, fun q hq => ?_, by dsimp only; omega⟩ ?_
              · rw [List.mem_singleton.1 hq]; exact ⟨by simp, by show w.length ≤ _; omega⟩
              · refine en_endm ([(7, 2, o.map RRw)]) (hf := Try.results77) (hO := ?_) (hr := ?_)
                · rfl
                · rfl
      · rw [decide_eq_false h0] at p2
        repeat' first
          | refine w_seq ?_
          | refine w_block ?_
          | refine rb_n ?_
          | refine rb_ret ?_
          | refine rb_eq ?_
          | refine rb_ne (by rfl) ?_
          | refine w_exit ?_
          | refine rt_exit ?_
          | refine w_region ?_
          | refine l_nil ?_
          | refine rt_n ?_
          | refine w_ret ?_
          | refine rt_ret ?_
          | refine w_skip ?_
          | refine w_cond_t rfl ?_
          | refine w_cond_f rfl ?_
          | refine w_cnd rfl (fun hc => ?_) (fun hc => ?_)
          | refine w_cd rfl (fun hc => ?_) (fun hc => ?_)
          | refine w_cn rfl (fun hc => ?_) (fun hc => ?_)
          | refine w_cond rfl (fun hc => ?_) (fun hc => ?_)
          | (exfalso; omega)
          | (refine l_o ?_; first | refine l_eqnil rfl (by kernel_rfl) (by intro b; simp only [nz]; rfl) (fun b hb => ?_) | refine l_op rfl (by first | (apply k_callf; first | exact ops_callP (d := 19) 1000000000000 [RCur d1] (hfc := p2) | fail) | fail) (hk := ?_) | refine l_op (hk := ?_))
        refine en_ex (o, d1) ⟨by dsimp only; omega, h2, by dsimp only; omega⟩ ?_
        refine en_endm [] (hf := Try.results77) (hO := ?_) (hr := ?_)
        · rfl
        · rfl
    · have q1 := drawRow_ok d (by omega)
      obtain ⟨q2, q3⟩ := drawRw_sm d
      generalize drawRw d = w at *
      obtain ⟨r, d1⟩ := w
      dsimp only at q1 q2 q3
      have hP := l27Put_ok o r (by omega) h2 q2
      have hl := putRw_len r o
      repeat' first
        | refine w_seq ?_
        | refine w_block ?_
        | refine rb_n ?_
        | refine rb_ret ?_
        | refine rb_eq ?_
        | refine rb_ne (by rfl) ?_
        | refine w_exit ?_
        | refine rt_exit ?_
        | refine w_region ?_
        | refine l_nil ?_
        | refine rt_n ?_
        | refine w_ret ?_
        | refine rt_ret ?_
        | refine w_skip ?_
        | refine w_cond_t rfl ?_
        | refine w_cond_f rfl ?_
        | refine w_cnd rfl (fun hc => ?_) (fun hc => ?_)
        | refine w_cd rfl (fun hc => ?_) (fun hc => ?_)
        | refine w_cn rfl (fun hc => ?_) (fun hc => ?_)
        | refine w_cond rfl (fun hc => ?_) (fun hc => ?_)
        | (exfalso; omega)
        | (refine l_o ?_; first | refine l_eqnil rfl (by kernel_rfl) (by intro b; simp only [nz]; rfl) (fun b hb => ?_) | refine l_op rfl (by first | (apply k_sub; first | exact ops_subn (a := k) (b := 1) rfl rfl (by omega) (by omega) | fail) | (apply k_callf; first | exact ops_callP (d := 16) 1000000000000 [RCur d1] (hfc := q1) | exact ops_callv (d := 17) (hfc := hP) | fail) | fail) (hk := ?_) | refine l_op (hk := ?_))
      exact rn_mk (k - 1, d1, putRw r o) ⟨by dsimp only; omega, fun q hq => (putRw_mem hq).elim (fun e => e ▸ q2) (h2 q), by dsimp only; omega⟩ (by dsimp only; omega) (le_dropd 7 (by simp only [nz]; rfl) (by simp only [nz, reduceIte, Nat.reduceEqDiff] <;> rfl) (le_trans (le_kill 7 (by simp only [nz, nf, nl, nb, nr, ng, nq, nu, reduceIte, Nat.reduceEqDiff, Nat.reduceAdd]; rfl)) (le_trans (le_ren 17 7 (by decide) (by decide) (by simp [nm, ng, renL_id, onames, List.map_nil, -List.map_append, -List.map_take, -List.map_drop]) (by simp [nm, ng, renL_id, onames, List.map_nil, -List.map_append, -List.map_take, -List.map_drop]) (by simp only [ng, nm, nu, renL_id, reduceIte, Nat.reduceEqDiff, List.map_nil] <;> rfl) (by simp only [ng, nm, nu, renL_id, reduceIte, Nat.reduceEqDiff, List.map_nil] <;> rfl)) (le_eq (by (repeat' first | exact .nil | refine .keep ?_ | refine .any ?_); first | done | fail) rfl rfl))))
theorem drawTwo_ok (code : List UInt8) : FC Try.prog 39 [RYs code] [] (fun rv O => ∃ x : List Rw × List Rw, (x.1.length ≤ 70 ∧ (∀ q ∈ x.1, smRw q) ∧ x.2.length ≤ 70 ∧ ∀ q ∈ x.2, smRw q) ∧ rv = .tup [ORws x.1, ORws x.2] ∧ O = []) := by
  have h1 : FC Try.prog 84 [RYs code] [] (fun rv O => ∃ x : List Rw × List Rw, (x.1.length ≤ 70 ∧ (∀ q ∈ x.1, smRw q) ∧ x.2.length ≤ 70 ∧ ∀ q ∈ x.2, smRw q) ∧ rv = .tup [ORws x.1, ORws x.2] ∧ O = []) := by
    have q1 := drawRows_ok ⟨code, 0, 0⟩ (by show (0 : Nat) ≤ _; omega)
    refine (fc_in Try.func84 rfl (by simp only [Try.ntmps84, anys, List.length_cons, List.length_nil, Nat.reduceAdd, Nat.reduceSub, List.replicate_succ, List.replicate_zero, List.cons_append, List.nil_append] <;> rfl) ?_)
    repeat' first
      | refine w_seq ?_
      | refine w_region ?_
      | refine l_nil ?_
      | refine rt_n ?_
      | refine w_ret ?_
      | refine rt_ret ?_
      | refine w_skip ?_
      | (refine l_o ?_; first | refine l_op (hk := ?_))
    refine l_callPx (RwD 0) (fun x => ORws x.1) 8 (fun x => [RCur x.2]) q1 (hk := fun x hx => ?_)
    obtain ⟨a, c1⟩ := x
    obtain ⟨a1, a2, a3⟩ := hx
    dsimp only at a1 a2 a3 ⊢
    have q2 := drawRows_ok c1 (by omega)
    repeat' first
      | refine w_seq ?_
      | refine w_region ?_
      | refine l_nil ?_
      | refine rt_n ?_
      | refine w_ret ?_
      | refine rt_ret ?_
      | refine w_skip ?_
      | (refine l_o ?_; first | refine l_op (hk := ?_))
    refine l_callPx (RwD c1.at_) (fun x => ORws x.1) 8 (fun x => [RCur x.2]) q2 (hk := fun x hx => ?_)
    obtain ⟨b, c2⟩ := x
    obtain ⟨b1, b2, b3⟩ := hx
    dsimp only at b1 b2 b3 ⊢
    repeat' first
      | refine w_seq ?_
      | refine w_region ?_
      | refine l_nil ?_
      | refine rt_n ?_
      | refine w_ret ?_
      | refine rt_ret ?_
      | refine w_skip ?_
      | (refine l_o ?_; first | refine l_op (hk := ?_))
    refine en_ex (a, b) ⟨a1, a2, b1, b2⟩ ?_
    refine en_endm ([(8, 3, [RCur c2])]) (hf := Try.results84) (hO := ?_) (hr := ?_)
    · rfl
    · rfl
  refine (fc_in Try.func39 rfl (by simp only [Try.ntmps39, anys, List.length_cons, List.length_nil, Nat.reduceAdd, Nat.reduceSub, List.replicate_succ, List.replicate_zero, List.cons_append, List.nil_append] <;> rfl) ?_)
  repeat' first
    | refine w_seq ?_
    | refine w_region ?_
    | refine l_nil ?_
    | refine rt_n ?_
    | refine w_ret ?_
    | refine rt_ret ?_
    | refine w_skip ?_
    | (refine l_o ?_; first | refine l_op (hk := ?_))
  refine l_callX _ _ h1 (hk := fun x hx => ?_)
  repeat' first
    | refine w_seq ?_
    | refine w_region ?_
    | refine l_nil ?_
    | refine rt_n ?_
    | refine w_ret ?_
    | refine rt_ret ?_
    | refine w_skip ?_
    | (refine l_o ?_; first | refine l_op (hk := ?_))
  refine en_ex x hx ?_
  refine en_endm [] (hf := Try.results39) (hO := ?_) (hr := ?_)
  · rfl
  · rfl
theorem drawPut_ok (code : List UInt8) : FC Try.prog 29 [RYs code] [] (fun rv O => ∃ x : List Rw × Rw, (x.1.length ≤ 70 ∧ (∀ q ∈ x.1, smRw q) ∧ smRw x.2) ∧ rv = .tup [ORws x.1, RRw x.2] ∧ O = []) := by
  have q1 := drawRows_ok ⟨code, 0, 0⟩ (by show (0 : Nat) ≤ _; omega)
  refine (fc_in Try.func29 rfl (by simp only [Try.ntmps29, anys, List.length_cons, List.length_nil, Nat.reduceAdd, Nat.reduceSub, List.replicate_succ, List.replicate_zero, List.cons_append, List.nil_append] <;> rfl) ?_)
  repeat' first
    | refine w_seq ?_
    | refine w_region ?_
    | refine l_nil ?_
    | refine rt_n ?_
    | refine w_ret ?_
    | refine rt_ret ?_
    | refine w_skip ?_
    | refine w_cond_t rfl ?_
    | refine w_cond_f rfl ?_
    | refine w_cnd rfl (fun hc => ?_) (fun hc => ?_)
    | refine w_cd rfl (fun hc => ?_) (fun hc => ?_)
    | refine w_cn rfl (fun hc => ?_) (fun hc => ?_)
    | refine w_cond rfl (fun hc => ?_) (fun hc => ?_)
    | (refine l_o ?_; first | refine l_op (hk := ?_))
    | refine d_nil ?_
    | (refine d_o ?_; first | refine d_fl (hk := ?_) | refine d_ef (hk := ?_))
    | (refine w_o ?_; first | refine w_draw (id := 6) (fun _ => true) (fun k => [3].contains k) [[]] 64 (by kernel_rfl) rfl (by kernel_rfl) (by simp [nm, nset, -List.map_take, -List.map_drop]) ?_)
  refine l_callPx (RwD 0) (fun x => ORws x.1) 9 (fun x => [RCur x.2]) q1 (hk := fun x hx => ?_)
  obtain ⟨a, c1⟩ := x
  obtain ⟨a1, a2, a3⟩ := hx
  dsimp only at a1 a2 a3 ⊢
  have q2 := drawRow_ok c1 (by omega)
  obtain ⟨s1, s2⟩ := drawRw_sm c1
  generalize drawRw c1 = w at *
  obtain ⟨r, c2⟩ := w
  dsimp only at q2 s1 s2
  have p2 := one_ok c2 12 (by omega) (by omega)
  have a2' := pickC_at c2 12
  generalize pickC c2 12 = c3 at *
  by_cases h0 : ((pickV c2 12 : Nat) : Int) = 0
  · rw [decide_eq_true h0] at p2
    have p4 := of_ok c3 [[], [120, 61], [110, 101, 119]] (by omega) (by decide) (by decide)
    have l4 := getD_len (n := 8) (l := [[], [120, 61], [110, 101, 119]]) (by decide) (pickV c3 3)
    rw [show ([[], [120, 61], [110, 101, 119]] : List (List UInt8)).length = 3 from rfl] at p4
    generalize ([[], [120, 61], [110, 101, 119]] : List (List UInt8)).getD (pickV c3 3) [] = K at *
    generalize pickC c3 3 = c4 at *
    repeat' first
      | refine w_seq ?_
      | refine w_region ?_
      | refine l_nil ?_
      | refine rt_n ?_
      | refine w_ret ?_
      | refine rt_ret ?_
      | refine w_skip ?_
      | refine w_cond_t rfl ?_
      | refine w_cond_f rfl ?_
      | refine w_cnd rfl (fun hc => ?_) (fun hc => ?_)
      | refine w_cd rfl (fun hc => ?_) (fun hc => ?_)
      | refine w_cn rfl (fun hc => ?_) (fun hc => ?_)
      | refine w_cond rfl (fun hc => ?_) (fun hc => ?_)
      | (refine l_at_callf (d := some 18) ?_; refine l_le _ (le_freeze 17 rfl (by simp only [nz, nf, nl, nb, nr, ng, nq, nu, reduceIte, Nat.reduceEqDiff, Nat.reduceAdd, viewC_lit, List.length_cons, List.length_nil, RV.fzL, RV.fz]; rfl) (by simp only [nz, nf, nl, nb, nr, ng, nq, nu, reduceIte, Nat.reduceEqDiff, Nat.reduceAdd]; rfl)) ?_)
      | (refine l_o ?_; first | refine l_op rfl (by first | (apply k_callf; first | exact ops_callP (d := 13) 9 [RCur c2] (hfc := q2) | exact ops_callP (d := 15) 9 [RCur c3] (hfc := p2) | exact ops_callP (d := 18) 9 [RCur c4] (hfc := p4) | fail) | fail) (hk := ?_) | refine l_op (hk := ?_))
      | refine e_nil ?_
      | (refine e_o ?_; first | refine e_fl (hk := ?_) | refine e_ef rfl (by first | exact .callP (d := 13) 9 [RCur c2] (hfc := q2) | exact .callP (d := 15) 9 [RCur c3] (hfc := p2) | exact .callP (d := 18) 9 [RCur c4] (hfc := p4) | fail) (hk := ?_) | refine e_ef (hk := ?_))
      | (refine w_o ?_; first | refine w_drawS (id := 6) (rdP [(1,6)]) (fun k => [3].contains k) [[]] (by kernel_rfl) rfl (by kernel_rfl) (by simp [nm, nset, -List.map_take, -List.map_drop]) ?_)
    refine en_ex (a, (K, r.2)) ⟨a1, a2, by show K.length ≤ _; omega, s1.2⟩ ?_
    refine en_endm ([(6, 2, [RRw (K, r.2)]), (9, 3, [RCur c4]), (3, 2, [RRw (K, r.2)])]) (hf := Try.results29) (hO := ?_) (hr := ?_)
    all_goals rfl
  · rw [decide_eq_false h0] at p2
    repeat' first
      | refine w_seq ?_
      | refine w_region ?_
      | refine l_nil ?_
      | refine rt_n ?_
      | refine w_ret ?_
      | refine rt_ret ?_
      | refine w_skip ?_
      | refine w_cond_t rfl ?_
      | refine w_cond_f rfl ?_
      | refine w_cnd rfl (fun hc => ?_) (fun hc => ?_)
      | refine w_cd rfl (fun hc => ?_) (fun hc => ?_)
      | refine w_cn rfl (fun hc => ?_) (fun hc => ?_)
      | refine w_cond rfl (fun hc => ?_) (fun hc => ?_)
      | (refine l_o ?_; first | refine l_op rfl (by first | (apply k_callf; first | exact ops_callP (d := 13) 9 [RCur c2] (hfc := q2) | exact ops_callP (d := 15) 9 [RCur c3] (hfc := p2) | fail) | fail) (hk := ?_) | refine l_op (hk := ?_))
      | refine e_nil ?_
      | (refine e_o ?_; first | refine e_fl (hk := ?_) | refine e_ef rfl (by first | exact .callP (d := 13) 9 [RCur c2] (hfc := q2) | exact .callP (d := 15) 9 [RCur c3] (hfc := p2) | fail) (hk := ?_) | refine e_ef (hk := ?_))
      | (refine w_o ?_; first | refine w_drawS (id := 6) (rdP [(1,6)]) (fun k => [3].contains k) [[]] (by kernel_rfl) rfl (by kernel_rfl) (by simp [nm, nset, -List.map_take, -List.map_drop]) ?_)
    refine en_ex (a, r) ⟨a1, a2, s1⟩ ?_
    refine en_endm ([(6, 2, [RRw r]), (9, 3, [RCur c3]), (3, 2, [RRw r])]) (hf := Try.results29) (hO := ?_) (hr := ?_)
    all_goals rfl
end Go.Proofs.Ytdignmbeiohhiaa
