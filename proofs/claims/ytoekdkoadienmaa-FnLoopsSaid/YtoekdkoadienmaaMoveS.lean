/- The move that the reference tells of a loop: the same as the program's. For all loops and places. -/
import Derived.Test.YtoekdkoadienmaaMove
namespace Go.Proofs.Ytoekdkoadienmaa
open Eng
attribute [local irreducible] OpS OpG FC FCr Rel Fl Ef DR Fs
set_option linter.unusedSimpArgs false
set_option maxHeartbeats 0
set_option maxRecDepth 100000

/-- The reference's choice, by places. -/
def sBst (st mvs : List Int) (mine : Int) (sd : Nat → Nat) : List Nat → Option Nat → Option Nat
  | [], b => b
  | x :: xs, b => if mine = 0 ∧ st.getD (sd x) 0 ≠ 0 then sBst st mvs mine sd xs b else if mine = 1 ∧ st.getD (sd x) 0 ≠ 2 then sBst st mvs mine sd xs b else match b with
    | none => sBst st mvs mine sd xs (some x)
    | some c => if mine = 1 ∧ mvs.getD (sd x) 0 < mvs.getD (sd c) 0 then sBst st mvs mine sd xs (some x) else if mine = 2 ∧ mvs.getD (sd x) 0 > mvs.getD (sd c) 0 then sBst st mvs mine sd xs (some x) else sBst st mvs mine sd xs (some c)
theorem sBst_none (st mvs mine sd x xs) : sBst st mvs mine sd (x :: xs) none = if mine = 0 ∧ st.getD (sd x) 0 ≠ 0 then sBst st mvs mine sd xs none else if mine = 1 ∧ st.getD (sd x) 0 ≠ 2 then sBst st mvs mine sd xs none else sBst st mvs mine sd xs (some x) := rfl
theorem sBst_some (st mvs mine sd x xs c) : sBst st mvs mine sd (x :: xs) (some c) = if mine = 0 ∧ st.getD (sd x) 0 ≠ 0 then sBst st mvs mine sd xs (some c) else if mine = 1 ∧ st.getD (sd x) 0 ≠ 2 then sBst st mvs mine sd xs (some c) else
    if mine = 1 ∧ mvs.getD (sd x) 0 < mvs.getD (sd c) 0 then sBst st mvs mine sd xs (some x) else if mine = 2 ∧ mvs.getD (sd x) 0 > mvs.getD (sd c) 0 then sBst st mvs mine sd xs (some x) else sBst st mvs mine sd xs (some c) := rfl
/-- Both choices are the same. -/
theorem sBst_eq {n : Nat} {res : List (Int × Int)} {q : List Int × List Int} {j : Nat} {t : Int} (h : Tells n res q) (hw : Wf res t) (hj : j < n) {sd : Nat → Nat} : ∀ (T : List Nat) (b : Option Nat),
    (∀ x ∈ T, sd x < n ∧ sd x % 2 ≠ j % 2) → (∀ c, b = some c → sd c < n) → ((res.getD j (0, 0)).1 = 3 - mv j → ∀ x ∈ T, (res.getD (sd x) (0, 0)).1 = 3 - mv j) →
    (sBst q.1 q.2 (q.1.getD j 0) sd T b).map sd = bst res (res.getD j (0, 0)).1 (mv j) (T.map sd) (b.map sd) := by
  have h12 := mv12 j
  have hst := h.st j hj
  have hwj := hw j
  intro T
  induction T with
  | nil => intro b _ _ _; cases b <;> rfl
  | cons x xs ih =>
    intro b hT hb hl
    have hx := hT x (by simp)
    have hxs := h.st _ hx.1
    have hxm := h.mvs _ hx.1
    have hwx := hw (sd x)
    have hlx := fun e => hl e x (by simp)
    have ih := fun b hb => ih b (fun y hy => hT y (by simp [hy])) hb (fun e y hy => hl e y (by simp [hy]))
    have hsk : ((q.1.getD j 0 = 0 ∧ q.1.getD (sd x) 0 ≠ 0) ∨ (q.1.getD j 0 = 1 ∧ q.1.getD (sd x) 0 ≠ 2)) ↔ (res.getD (sd x) (0, 0)).1 ≠ (res.getD j (0, 0)).1 := by
      rw [hst, hxs]
      simp only [stc, mv] at *
      grind
    have hm1 : q.1.getD j 0 = 1 ↔ (res.getD j (0, 0)).1 = mv j := by
      rw [hst]
      simp only [stc, mv] at *
      grind
    have hm2 : q.1.getD j 0 = 2 ↔ (res.getD j (0, 0)).1 = 3 - mv j := by
      rw [hst]
      simp only [stc, mv] at *
      grind
    rw [List.map_cons, bst_cons]
    cases b with
    | none =>
      rw [sBst_none]
      by_cases c : (res.getD (sd x) (0, 0)).1 ≠ (res.getD j (0, 0)).1
      · rw [if_pos c]
        rcases hsk.2 c with c2 | c2
        · rw [if_pos c2]; exact ih none hb
        · rw [if_neg (fun c3 => by omega), if_pos c2]; exact ih none hb
      · rw [if_neg c, if_neg (fun c2 => c (hsk.1 (.inl c2))), if_neg (fun c2 => c (hsk.1 (.inr c2)))]
        exact ih (some x) (fun c hc => by cases hc; exact hx.1)
    | some d =>
      have hd := hb d rfl
      have hdm := h.mvs _ hd
      rw [sBst_some]
      by_cases c : (res.getD (sd x) (0, 0)).1 ≠ (res.getD j (0, 0)).1
      · rw [if_pos c]
        rcases hsk.2 c with c2 | c2
        · rw [if_pos c2]; exact ih (some d) hb
        · rw [if_neg (fun c3 => by omega), if_pos c2]; exact ih (some d) hb
      · rw [if_neg c, if_neg (fun c2 => c (hsk.1 (.inl c2))), if_neg (fun c2 => c (hsk.1 (.inr c2)))]
        rw [hxm, hdm]
        dsimp only [Option.map_some]
        by_cases e : ((res.getD j (0, 0)).1 = mv j ∧ (res.getD (sd x) (0, 0)).2 < (res.getD (sd d) (0, 0)).2) ∨ ((res.getD j (0, 0)).1 = 3 - mv j ∧ (res.getD (sd x) (0, 0)).2 > (res.getD (sd d) (0, 0)).2)
        · rw [if_pos e]
          rcases e with e | e
          · rw [if_pos ⟨hm1.2 e.1, e.2⟩]; exact ih (some x) (fun c hc => by cases hc; exact hx.1)
          · rw [if_neg (fun c3 => by have := hm1.1 c3.1; omega), if_pos ⟨hm2.2 e.1, e.2⟩]; exact ih (some x) (fun c hc => by cases hc; exact hx.1)
        · rw [if_neg e, if_neg (fun c3 => e (.inl ⟨hm1.1 c3.1, c3.2⟩)), if_neg (fun c3 => e (.inr ⟨hm2.1 c3.1, c3.2⟩))]
          exact ih (some d) hb

/-- The places that one may go to, and the states that these are. -/
theorem succsG {L R} {n : Nat} {left : Bool} (hg : goodLp L R = true) (hn : n < L.length) : ∃ T : List Nat, (nxtG L R).getD (stN n left) [] = T.map (fun x => stN x (!left)) ∧ T.length ≤ 24 ∧ (∀ x ∈ T, x < L.length) ∧ FCr Try.prog 59 [RLp L R, RVn n, RVb left] (RNs T) := by
  have g := goodN hg
  have hl := g.len
  have h1 : n < (toN L).length := by rw [toN_len]; exact hn
  have h2 : n < (toN R).length := by rw [toN_len, g.lenR]; exact hn
  have hW := l25Who_ok (toN L) (toN R) n left h1 h2
  rw [← g.eL, ← g.eR] at hW
  have hat := nxtTo_at (toN L) (toN R) (toN L).length (stN n left) (by unfold stN; split <;> omega)
  cases left with
  | true =>
    have e : stN n true = 2 * n := rfl
    rw [e, if_pos (by omega), show 2 * n / 2 = n by omega, gd h1] at hat
    refine ⟨(toN L)[n], ?_, g.lL _ (List.getElem_mem h1), fun x hx => ?_, hW⟩
    · rw [nxtG, nxtOf, e, hat]; rfl
    · have := g.inside.2.1 _ (List.getElem_mem h1) x hx; rw [toN_len] at this; exact this
  | false =>
    have e : stN n false = 2 * n + 1 := rfl
    rw [e, if_neg (by omega), show (2 * n + 1) / 2 = n by omega, gd h2] at hat
    refine ⟨(toN R)[n], ?_, g.lR _ (List.getElem_mem h2), fun x hx => ?_, hW⟩
    · rw [nxtG, nxtOf, e, hat]; rfl
    · have := g.inside.2.2 _ (List.getElem_mem h2) x hx; rw [toN_len] at this; exact this
theorem l1Most_ok (a b : Int) : FCr Try.prog 60 [RVi a, RVi b] (RVi (if b < a then a else b)) := by
  refine (fcr_in Try.func60 rfl (by simp only [Try.ntmps60, anys, List.length_cons, List.length_nil, Nat.reduceAdd, Nat.reduceSub, List.replicate_succ, List.replicate_zero, List.cons_append, List.nil_append] <;> rfl) ?_)
  repeat' first
    | refine w_seq ?_
    | refine w_region ?_
    | refine l_nil ?_
    | refine rt_n ?_
    | refine w_ret ?_
    | refine rt_ret ?_
    | refine w_skip ?_
    | refine w_cond_t rfl ?_
    | refine w_cond_f rfl ?_
    | refine w_cnd rfl (fun hc => ?_) (fun hc => ?_)
    | refine w_cd rfl (fun hc => ?_) (fun hc => ?_)
    | refine w_cn rfl (fun hc => ?_) (fun hc => ?_)
    | refine w_cond rfl (fun hc => ?_) (fun hc => ?_)
    | (refine l_o ?_; first | refine l_op (hk := ?_))
  · rw [if_pos hc]
    refine en_one (hf := Try.results60) (h := ?_); simp only [lget]; first | refine congrArg RVb ?_ | refine congrArg RVi ?_ | skip
  · rw [if_neg hc]
    refine en_one (hf := Try.results60) (h := ?_); simp only [lget]; first | refine congrArg RVb ?_ | refine congrArg RVi ?_ | skip
theorem stN_half (x : Nat) (left : Bool) : stN x left / 2 = x := by unfold stN; split <;> omega

theorem specMove_ok (L R : List (List Int)) (a : Int) (left : Bool) : FCr Try.prog 33 [RLp L R, RVi a, RVb left] (.tup [RVi (placeOf (moveOf L R a left)), RVb (moveOf L R a left).isSome]) := by
  have hA := l25At_ok L R a
  cases ho : okAt L R a with
  | false =>
    rw [ho] at hA
    have h1 : moveOf L R a left = none := by simp [moveOf, ho]
    rw [h1]
    refine (fcr_in Try.func33 rfl (by simp only [Try.ntmps33, anys, List.length_cons, List.length_nil, Nat.reduceAdd, Nat.reduceSub, List.replicate_succ, List.replicate_zero, List.cons_append, List.nil_append] <;> rfl) ?_)
    repeat' first
      | refine w_seq ?_
      | refine w_block ?_
      | refine rb_n ?_
      | refine rb_ret ?_
      | refine rb_eq ?_
      | refine rb_ne (by rfl) ?_
      | refine w_exit ?_
      | refine rt_exit ?_
      | refine w_region ?_
      | refine l_nil ?_
      | refine rt_n ?_
      | refine w_ret ?_
      | refine rt_ret ?_
      | refine w_skip ?_
      | refine w_cond_t rfl ?_
      | refine w_cond_f rfl ?_
      | refine w_cnd rfl (fun hc => ?_) (fun hc => ?_)
      | refine w_cd rfl (fun hc => ?_) (fun hc => ?_)
      | refine w_cn rfl (fun hc => ?_) (fun hc => ?_)
      | refine w_cond rfl (fun hc => ?_) (fun hc => ?_)
      | (refine l_o ?_; first | refine l_eqnil rfl (by kernel_rfl) (by intro b; simp only [nz]; rfl) (fun b hb => ?_) | refine l_op rfl (by first | (apply k_callf; first | exact ops_callf (hfc := hA) | fail) | fail) (hk := ?_) | refine l_op (hk := ?_) | (refine l_g ?_; first | refine l_y rfl rfl rfl ?_ | refine l_n rfl rfl rfl rfl (hk := ?_) | refine l_n' rfl rfl rfl (hk := ?_) | refine l_spnd rfl rfl rfl (h1 := fun hc => ?_) (h2 := fun hc => ?_) | refine l_spd rfl rfl rfl (h1 := fun hc => ?_) (h2 := fun hc => ?_) | refine l_spn rfl rfl rfl (h1 := fun hc => ?_) (h2 := fun hc => ?_) | refine l_sp rfl rfl rfl (h1 := fun hc => ?_) (h2 := fun hc => ?_)))
      | refine d_nil ?_
      | (refine d_o ?_; first | refine d_fl (hk := ?_) | refine d_ef rfl (by first | exact .callf (hfc := hA) | exact .callfY (hfc := hA) | fail) (hk := ?_) | refine d_ef (hk := ?_) | (refine d_g ?_; first | refine d_spnd rfl rfl rfl (h1 := fun hc => ?_) (h2 := fun hc => ?_) | refine d_spd rfl rfl rfl (h1 := fun hc => ?_) (h2 := fun hc => ?_) | refine d_spn rfl rfl rfl (h1 := fun hc => ?_) (h2 := fun hc => ?_) | refine d_sp rfl rfl rfl (h1 := fun hc => ?_) (h2 := fun hc => ?_)))
      | (refine w_o ?_; first | refine w_draw (id := 15) (fun _ => true) (fun k => [11].contains k) [[]] 64 (by kernel_rfl) rfl (by kernel_rfl) (by simp [nm, nset, -List.map_take, -List.map_drop]) ?_ | refine w_draw (id := 17) (fun _ => true) (fun k => [11].contains k) [[]] 64 (by kernel_rfl) rfl (by kernel_rfl) (by simp [nm, nset, -List.map_take, -List.map_drop]) ?_)
    refine en_end (hf := Try.results33) (hr := ?_); simp only [ne, nf, nl, nr, lget, reduceIte, Nat.reduceEqDiff]; first | rfl | refine congrArg RVb ?_ | refine congrArg RVi ?_ | skip
  | true =>
    rw [ho] at hA
    obtain ⟨hg, hb1, hb2⟩ := okAt_good ho
    have g := (goodN hg).len
    have hst := stN_lt (left := left) ho
    have hfl := finG_len (L := L) (R := R)
    have hS := solveG hg
    have hte := tellsG hg
    have hl1 := hte.l1
    have hl2 := hte.l2
    have ha := altG hg
    obtain ⟨n, rfl⟩ := Int.eq_ofNat_of_zero_le hb1
    rw [Int.toNat_natCast] at hst
    obtain ⟨T, hT1, hT2, hT3, hW⟩ := succsG (left := left) hg (show n < L.length by omega)
    have hD := l25Side_ok n left (by omega)
    have hq := sBst_eq hte (finG_wf L R) (show stN n left < 2 * L.length by omega) (sd := fun x => stN x (!left)) T none (fun x hx => ha (stN n left) _ (by rw [hT1]; exact List.mem_map.2 ⟨x, hx, rfl⟩)) (fun c hc => by cases hc) (fun e x hx => by
      have h1 := (fin_lose ha (show stN n left < 2 * L.length by omega) e).1
      exact (h1 _ (by rw [hT1]; exact List.mem_map.2 ⟨x, hx, rfl⟩)).1)
    have h1 : moveOf L R n left = (sBst (sG L R).1 (sG L R).2 ((sG L R).1.getD (stN n left) 0) (fun x => stN x (!left)) T none).map (fun x => stN x (!left)) := by
      rw [hq, moveOf, ho, if_pos rfl, Int.toNat_natCast, hT1]; rfl
    rw [h1]
    clear h1 hq hte
    have hsd : ∀ x ∈ T, stN x (!left) < 2 * L.length := fun x hx => by have := hT3 x hx; unfold stN; split <;> omega
    clear ha hT1 hA
    generalize sG L R = q at *
    generalize stN n left = s at *
    rw [gd (show s < q.1.length by omega)]
    have hA := l25At_ok L R n
    rw [ho] at hA
    refine (fcr_in Try.func33 rfl (by simp only [Try.ntmps33, anys, List.length_cons, List.length_nil, Nat.reduceAdd, Nat.reduceSub, List.replicate_succ, List.replicate_zero, List.cons_append, List.nil_append] <;> rfl) ?_)
    repeat' first
      | refine w_seq ?_
      | refine w_block ?_
      | refine rb_n ?_
      | refine rb_ret ?_
      | refine rb_eq ?_
      | refine rb_ne (by rfl) ?_
      | refine w_exit ?_
      | refine rt_exit ?_
      | refine w_region ?_
      | refine l_nil ?_
      | refine rt_n ?_
      | refine w_ret ?_
      | refine rt_ret ?_
      | refine w_skip ?_
      | refine w_cond_t rfl ?_
      | refine w_cond_f rfl ?_
      | refine w_cnd rfl (fun hc => ?_) (fun hc => ?_)
      | refine w_cd rfl (fun hc => ?_) (fun hc => ?_)
      | refine w_cn rfl (fun hc => ?_) (fun hc => ?_)
      | refine w_cond rfl (fun hc => ?_) (fun hc => ?_)
      | (refine l_o ?_; first | refine l_eqnil rfl (by kernel_rfl) (by intro b; simp only [nz]; rfl) (fun b hb => ?_) | refine l_op rfl (by first | (apply k_callf; first | exact ops_callf (hfc := hA) | exact ops_callf (hfc := hS) | exact ops_callf (hfc := hD) | exact ops_callf (hfc := hW) | fail) | fail) (hk := ?_) | refine l_op (hk := ?_) | (refine l_g ?_; first | refine l_y rfl rfl rfl ?_ | refine l_n rfl rfl rfl rfl (hk := ?_) | refine l_n' rfl rfl rfl (hk := ?_) | refine l_spnd rfl rfl rfl (h1 := fun hc => ?_) (h2 := fun hc => ?_) | refine l_spd rfl rfl rfl (h1 := fun hc => ?_) (h2 := fun hc => ?_) | refine l_spn rfl rfl rfl (h1 := fun hc => ?_) (h2 := fun hc => ?_) | refine l_sp rfl rfl rfl (h1 := fun hc => ?_) (h2 := fun hc => ?_)))
      | refine d_nil ?_
      | (refine d_o ?_; first | refine d_fl (hk := ?_) | refine d_ef rfl (by first | exact .callf (hfc := hA) | exact .callf (hfc := hS) | exact .callf (hfc := hD) | exact .callf (hfc := hW) | exact .callfY (hfc := hA) | exact .callfY (hfc := hS) | exact .callfY (hfc := hD) | exact .callfY (hfc := hW) | fail) (hk := ?_) | refine d_ef (hk := ?_) | (refine d_g ?_; first | refine d_spnd rfl rfl rfl (h1 := fun hc => ?_) (h2 := fun hc => ?_) | refine d_spd rfl rfl rfl (h1 := fun hc => ?_) (h2 := fun hc => ?_) | refine d_spn rfl rfl rfl (h1 := fun hc => ?_) (h2 := fun hc => ?_) | refine d_sp rfl rfl rfl (h1 := fun hc => ?_) (h2 := fun hc => ?_)))
      | (refine w_o ?_; first | refine w_draw (id := 15) (fun _ => true) (fun k => [11].contains k) [[]] 64 (by kernel_rfl) rfl (by kernel_rfl) (by simp [nm, nset, -List.map_take, -List.map_drop]) ?_ | refine w_draw (id := 17) (fun _ => true) (fun k => [11].contains k) [[]] 64 (by kernel_rfl) rfl (by kernel_rfl) (by simp [nm, nset, -List.map_take, -List.map_drop]) ?_)
    refine w_loopm (ι := Nat × Option Nat) (fun k => [(13, RVn k.1), (12, RVi (bI k.2))]) (fun k => [(3, 2, [RLp L R])]) (fun k => k.1 ≤ T.length ∧ sBst q.1 q.2 q.1[s] (fun x => stN x (!left)) (T.drop k.1) k.2 = sBst q.1 q.2 q.1[s] (fun x => stN x (!left)) T none ∧ ∀ c, k.2 = some c → c < L.length) (fun k => T.length - k.1) (0, none) (h0 := ?_) (hs := ?_) (round := ?_)
    · exact ⟨by omega, rfl, fun c h => by cases h⟩
    · refine le_eq (by (repeat' first | exact .nil | refine .keep ?_ | refine .any ?_); first | done | fail) rfl rfl
    · intro ⟨k, b⟩ ⟨hk, hg2, hb⟩
      dsimp only at hk hg2 hb ⊢
      by_cases hkl : k < T.length
      · have hx := hT3 _ (List.getElem_mem hkl)
        have hxs := hsd _ (List.getElem_mem hkl)
        have hDk := l25Side_ok T[k] (!left) (by omega)
        rw [List.drop_eq_getElem_cons hkl] at hg2
        cases b with
        | none =>
          rw [sBst_none] at hg2
          dsimp only [bI] at hg2 ⊢
          rw [gd (show stN T[k] (!left) < q.1.length by omega)] at hg2
          repeat' first
            | refine w_seq ?_
            | refine w_block ?_
            | refine rb_n ?_
            | refine rb_ret ?_
            | refine rb_eq ?_
            | refine rb_ne (by rfl) ?_
            | refine w_exit ?_
            | refine rt_exit ?_
            | refine w_region ?_
            | refine l_nil ?_
            | refine rt_n ?_
            | refine w_ret ?_
            | refine rt_ret ?_
            | refine w_skip ?_
            | refine w_cond_t rfl ?_
            | refine w_cond_f rfl ?_
            | refine w_cnd rfl (fun hc => ?_) (fun hc => ?_)
            | refine w_cd rfl (fun hc => ?_) (fun hc => ?_)
            | refine w_cn rfl (fun hc => ?_) (fun hc => ?_)
            | refine w_cond rfl (fun hc => ?_) (fun hc => ?_)
            | (exfalso; omega)
            | (refine l_o ?_; first | refine l_eqnil rfl (by kernel_rfl) (by intro b; simp only [nz]; rfl) (fun b hb => ?_) | refine l_op rfl (by first | (apply k_callf; first | exact ops_callf (hfc := hDk) | fail) | fail) (hk := ?_) | refine l_op (hk := ?_) | (refine l_g ?_; first | refine l_y rfl rfl rfl ?_ | refine l_n rfl rfl rfl rfl (hk := ?_) | refine l_n' rfl rfl rfl (hk := ?_) | refine l_spnd rfl rfl rfl (h1 := fun hc => ?_) (h2 := fun hc => ?_) | refine l_spd rfl rfl rfl (h1 := fun hc => ?_) (h2 := fun hc => ?_) | refine l_spn rfl rfl rfl (h1 := fun hc => ?_) (h2 := fun hc => ?_) | refine l_sp rfl rfl rfl (h1 := fun hc => ?_) (h2 := fun hc => ?_)))
            | refine d_nil ?_
            | (refine d_o ?_; first | refine d_fl (hk := ?_) | refine d_ef rfl (by first | exact .callf (hfc := hDk) | exact .callfY (hfc := hDk) | fail) (hk := ?_) | refine d_ef (hk := ?_) | (refine d_g ?_; first | refine d_spnd rfl rfl rfl (h1 := fun hc => ?_) (h2 := fun hc => ?_) | refine d_spd rfl rfl rfl (h1 := fun hc => ?_) (h2 := fun hc => ?_) | refine d_spn rfl rfl rfl (h1 := fun hc => ?_) (h2 := fun hc => ?_) | refine d_sp rfl rfl rfl (h1 := fun hc => ?_) (h2 := fun hc => ?_)))
            | (refine w_o ?_; first | refine w_draw (id := 15) (fun _ => true) (fun k => [11].contains k) [[]] 64 (by kernel_rfl) rfl (by kernel_rfl) (by simp [nm, nset, -List.map_take, -List.map_drop]) ?_ | refine w_draw (id := 17) (fun _ => true) (fun k => [11].contains k) [[]] 64 (by kernel_rfl) rfl (by kernel_rfl) (by simp [nm, nset, -List.map_take, -List.map_drop]) ?_)
          all_goals
            first
                | (rw [if_pos (by omega)] at hg2
                   refine rn_mk (k + 1, none) ⟨by dsimp only; omega, hg2, hb⟩ (by dsimp only; omega) ?_
                   refine le_eq (by (repeat' first | exact .nil | refine .keep ?_ | refine .any ?_); first | done | fail) rfl rfl)
                | (rw [if_neg (by omega), if_pos (by omega)] at hg2
                   refine rn_mk (k + 1, none) ⟨by dsimp only; omega, hg2, hb⟩ (by dsimp only; omega) ?_
                   refine le_eq (by (repeat' first | exact .nil | refine .keep ?_ | refine .any ?_); first | done | fail) rfl rfl)
                | (rw [if_neg (by omega), if_neg (by omega)] at hg2
                   refine rn_mk (k + 1, some T[k]) ⟨by dsimp only; omega, hg2, fun c h => by cases h; exact hx⟩ (by dsimp only; omega) ?_
                   refine le_eq (by (repeat' first | exact .nil | refine .keep ?_ | refine .any ?_); first | done | fail) rfl rfl)
        | some c =>
          have hcb := hb c rfl
          have hcs : stN c (!left) < 2 * L.length := by unfold stN; split <;> omega
          have hDc := l25Side_ok c (!left) (by omega)
          rw [sBst_some] at hg2
          dsimp only [bI] at hg2 ⊢
          rw [gd (show stN T[k] (!left) < q.1.length by omega), gd (show stN T[k] (!left) < q.2.length by omega), gd (show stN c (!left) < q.2.length by omega)] at hg2
          repeat' first
            | refine w_seq ?_
            | refine w_block ?_
            | refine rb_n ?_
            | refine rb_ret ?_
            | refine rb_eq ?_
            | refine rb_ne (by rfl) ?_
            | refine w_exit ?_
            | refine rt_exit ?_
            | refine w_region ?_
            | refine l_nil ?_
            | refine rt_n ?_
            | refine w_ret ?_
            | refine rt_ret ?_
            | refine w_skip ?_
            | refine w_cond_t rfl ?_
            | refine w_cond_f rfl ?_
            | refine w_cnd rfl (fun hc => ?_) (fun hc => ?_)
            | refine w_cd rfl (fun hc => ?_) (fun hc => ?_)
            | refine w_cn rfl (fun hc => ?_) (fun hc => ?_)
            | refine w_cond rfl (fun hc => ?_) (fun hc => ?_)
            | (exfalso; omega)
            | (refine l_o ?_; first | refine l_eqnil rfl (by kernel_rfl) (by intro b; simp only [nz]; rfl) (fun b hb => ?_) | refine l_op rfl (by first | (apply k_callf; first | exact ops_callf (hfc := hDk) | exact ops_callf (hfc := hDc) | fail) | fail) (hk := ?_) | refine l_op (hk := ?_) | (refine l_g ?_; first | refine l_y rfl rfl rfl ?_ | refine l_n rfl rfl rfl rfl (hk := ?_) | refine l_n' rfl rfl rfl (hk := ?_) | refine l_spnd rfl rfl rfl (h1 := fun hc => ?_) (h2 := fun hc => ?_) | refine l_spd rfl rfl rfl (h1 := fun hc => ?_) (h2 := fun hc => ?_) | refine l_spn rfl rfl rfl (h1 := fun hc => ?_) (h2 := fun hc => ?_) | refine l_sp rfl rfl rfl (h1 := fun hc => ?_) (h2 := fun hc => ?_)))
            | refine d_nil ?_
            | (refine d_o ?_; first | refine d_fl (hk := ?_) | refine d_ef rfl (by first | exact .callf (hfc := hDk) | exact .callf (hfc := hDc) | exact .callfY (hfc := hDk) | exact .callfY (hfc := hDc) | fail) (hk := ?_) | refine d_ef (hk := ?_) | (refine d_g ?_; first | refine d_spnd rfl rfl rfl (h1 := fun hc => ?_) (h2 := fun hc => ?_) | refine d_spd rfl rfl rfl (h1 := fun hc => ?_) (h2 := fun hc => ?_) | refine d_spn rfl rfl rfl (h1 := fun hc => ?_) (h2 := fun hc => ?_) | refine d_sp rfl rfl rfl (h1 := fun hc => ?_) (h2 := fun hc => ?_)))
            | (refine w_o ?_; first | refine w_draw (id := 15) (fun _ => true) (fun k => [11].contains k) [[]] 64 (by kernel_rfl) rfl (by kernel_rfl) (by simp [nm, nset, -List.map_take, -List.map_drop]) ?_ | refine w_draw (id := 17) (fun _ => true) (fun k => [11].contains k) [[]] 64 (by kernel_rfl) rfl (by kernel_rfl) (by simp [nm, nset, -List.map_take, -List.map_drop]) ?_)
          all_goals
            first
                | (rw [if_pos (by omega)] at hg2
                   refine rn_mk (k + 1, some c) ⟨by dsimp only; omega, hg2, hb⟩ (by dsimp only; omega) ?_
                   refine le_eq (by (repeat' first | exact .nil | refine .keep ?_ | refine .any ?_); first | done | fail) rfl rfl)
                | (rw [if_neg (by omega), if_pos (by omega)] at hg2
                   refine rn_mk (k + 1, some c) ⟨by dsimp only; omega, hg2, hb⟩ (by dsimp only; omega) ?_
                   refine le_eq (by (repeat' first | exact .nil | refine .keep ?_ | refine .any ?_); first | done | fail) rfl rfl)
                | (rw [if_neg (by omega), if_neg (by omega), if_pos (by omega)] at hg2
                   refine rn_mk (k + 1, some T[k]) ⟨by dsimp only; omega, hg2, fun c h => by cases h; exact hx⟩ (by dsimp only; omega) ?_
                   refine le_eq (by (repeat' first | exact .nil | refine .keep ?_ | refine .any ?_); first | done | fail) rfl rfl)
                | (rw [if_neg (by omega), if_neg (by omega), if_neg (by omega), if_pos (by omega)] at hg2
                   refine rn_mk (k + 1, some T[k]) ⟨by dsimp only; omega, hg2, fun c h => by cases h; exact hx⟩ (by dsimp only; omega) ?_
                   refine le_eq (by (repeat' first | exact .nil | refine .keep ?_ | refine .any ?_); first | done | fail) rfl rfl)
                | (rw [if_neg (by omega), if_neg (by omega), if_neg (by omega), if_neg (by omega)] at hg2
                   refine rn_mk (k + 1, some c) ⟨by dsimp only; omega, hg2, hb⟩ (by dsimp only; omega) ?_
                   refine le_eq (by (repeat' first | exact .nil | refine .keep ?_ | refine .any ?_); first | done | fail) rfl rfl)
      · obtain rfl : k = T.length := by omega
        rw [List.drop_length] at hg2
        have hg3 : b = sBst q.1 q.2 q.1[s] (fun x => stN x (!left)) T none := hg2
        rw [← hg3]
        cases b with
        | none =>
          dsimp only [bI]
          repeat' first
            | refine w_seq ?_
            | refine w_block ?_
            | refine rb_n ?_
            | refine rb_ret ?_
            | refine rb_eq ?_
            | refine rb_ne (by rfl) ?_
            | refine w_exit ?_
            | refine rt_exit ?_
            | refine w_region ?_
            | refine l_nil ?_
            | refine rt_n ?_
            | refine w_ret ?_
            | refine rt_ret ?_
            | refine w_skip ?_
            | refine w_cond_t rfl ?_
            | refine w_cond_f rfl ?_
            | refine w_cnd rfl (fun hc => ?_) (fun hc => ?_)
            | refine w_cd rfl (fun hc => ?_) (fun hc => ?_)
            | refine w_cn rfl (fun hc => ?_) (fun hc => ?_)
            | refine w_cond rfl (fun hc => ?_) (fun hc => ?_)
            | (exfalso; omega)
            | (refine l_o ?_; first | refine l_eqnil rfl (by kernel_rfl) (by intro b; simp only [nz]; rfl) (fun b hb => ?_) | refine l_op rfl (by first | (apply k_callf; first | exact ops_callf (hfc := l1Most_ok _ _) | fail) | fail) (hk := ?_) | refine l_op (hk := ?_) | (refine l_g ?_; first | refine l_y rfl rfl rfl ?_ | refine l_n rfl rfl rfl rfl (hk := ?_) | refine l_n' rfl rfl rfl (hk := ?_) | refine l_spnd rfl rfl rfl (h1 := fun hc => ?_) (h2 := fun hc => ?_) | refine l_spd rfl rfl rfl (h1 := fun hc => ?_) (h2 := fun hc => ?_) | refine l_spn rfl rfl rfl (h1 := fun hc => ?_) (h2 := fun hc => ?_) | refine l_sp rfl rfl rfl (h1 := fun hc => ?_) (h2 := fun hc => ?_)))
            | refine d_nil ?_
            | (refine d_o ?_; first | refine d_fl (hk := ?_) | refine d_ef rfl (by first | exact .callf (hfc := l1Most_ok _ _) | exact .callfY (hfc := l1Most_ok _ _) | fail) (hk := ?_) | refine d_ef (hk := ?_) | (refine d_g ?_; first | refine d_spnd rfl rfl rfl (h1 := fun hc => ?_) (h2 := fun hc => ?_) | refine d_spd rfl rfl rfl (h1 := fun hc => ?_) (h2 := fun hc => ?_) | refine d_spn rfl rfl rfl (h1 := fun hc => ?_) (h2 := fun hc => ?_) | refine d_sp rfl rfl rfl (h1 := fun hc => ?_) (h2 := fun hc => ?_)))
            | (refine w_o ?_; first | refine w_draw (id := 15) (fun _ => true) (fun k => [11].contains k) [[]] 64 (by kernel_rfl) rfl (by kernel_rfl) (by simp [nm, nset, -List.map_take, -List.map_drop]) ?_ | refine w_draw (id := 17) (fun _ => true) (fun k => [11].contains k) [[]] 64 (by kernel_rfl) rfl (by kernel_rfl) (by simp [nm, nset, -List.map_take, -List.map_drop]) ?_)
          refine en_end (hf := Try.results33) (hr := ?_); simp only [ne, nf, nl, nr, lget, reduceIte, Nat.reduceEqDiff]; first | rfl | refine congrArg RVb ?_ | refine congrArg RVi ?_ | skip
        | some c =>
          have h4 : placeOf (Option.map (fun x => stN x (!left)) (some c)) = if (0 : Int) < c then (c : Int) else 0 := by
            show ((stN c (!left) / 2 : Nat) : Int) = _
            rw [stN_half]; split <;> omega
          rw [h4]
          have h5 : decide ((0 : Int) ≤ (c : Int)) = true := decide_eq_true (by omega)
          dsimp only [bI]
          repeat' first
            | refine w_seq ?_
            | refine w_block ?_
            | refine rb_n ?_
            | refine rb_ret ?_
            | refine rb_eq ?_
            | refine rb_ne (by rfl) ?_
            | refine w_exit ?_
            | refine rt_exit ?_
            | refine w_region ?_
            | refine l_nil ?_
            | refine rt_n ?_
            | refine w_ret ?_
            | refine rt_ret ?_
            | refine w_skip ?_
            | refine w_cond_t rfl ?_
            | refine w_cond_f rfl ?_
            | refine w_cnd rfl (fun hc => ?_) (fun hc => ?_)
            | refine w_cd rfl (fun hc => ?_) (fun hc => ?_)
            | refine w_cn rfl (fun hc => ?_) (fun hc => ?_)
            | refine w_cond rfl (fun hc => ?_) (fun hc => ?_)
            | (exfalso; omega)
            | (refine l_o ?_; first | refine l_eqnil rfl (by kernel_rfl) (by intro b; simp only [nz]; rfl) (fun b hb => ?_) | refine l_op rfl (by first | (apply k_callf; first | exact ops_callf (hfc := l1Most_ok _ _) | fail) | fail) (hk := ?_) | refine l_op (hk := ?_) | (refine l_g ?_; first | refine l_y rfl rfl rfl ?_ | refine l_n rfl rfl rfl rfl (hk := ?_) | refine l_n' rfl rfl rfl (hk := ?_) | refine l_spnd rfl rfl rfl (h1 := fun hc => ?_) (h2 := fun hc => ?_) | refine l_spd rfl rfl rfl (h1 := fun hc => ?_) (h2 := fun hc => ?_) | refine l_spn rfl rfl rfl (h1 := fun hc => ?_) (h2 := fun hc => ?_) | refine l_sp rfl rfl rfl (h1 := fun hc => ?_) (h2 := fun hc => ?_)))
            | refine d_nil ?_
            | (refine d_o ?_; first | refine d_fl (hk := ?_) | refine d_ef rfl (by first | exact .callf (hfc := l1Most_ok _ _) | exact .callfY (hfc := l1Most_ok _ _) | fail) (hk := ?_) | refine d_ef (hk := ?_) | (refine d_g ?_; first | refine d_spnd rfl rfl rfl (h1 := fun hc => ?_) (h2 := fun hc => ?_) | refine d_spd rfl rfl rfl (h1 := fun hc => ?_) (h2 := fun hc => ?_) | refine d_spn rfl rfl rfl (h1 := fun hc => ?_) (h2 := fun hc => ?_) | refine d_sp rfl rfl rfl (h1 := fun hc => ?_) (h2 := fun hc => ?_)))
            | (refine w_o ?_; first | refine w_draw (id := 15) (fun _ => true) (fun k => [11].contains k) [[]] 64 (by kernel_rfl) rfl (by kernel_rfl) (by simp [nm, nset, -List.map_take, -List.map_drop]) ?_ | refine w_draw (id := 17) (fun _ => true) (fun k => [11].contains k) [[]] 64 (by kernel_rfl) rfl (by kernel_rfl) (by simp [nm, nset, -List.map_take, -List.map_drop]) ?_)
          refine en_end (hf := Try.results33) (hr := ?_); simp only [ne, nf, nl, nr, lget, reduceIte, Nat.reduceEqDiff]; first | rfl | refine congrArg RVb ?_ | refine congrArg RVi ?_ | skip
end Go.Proofs.Ytoekdkoadienmaa
