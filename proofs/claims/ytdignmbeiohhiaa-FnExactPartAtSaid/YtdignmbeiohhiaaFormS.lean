/- Forms in the reference: places renamed, sorted; forms compared; what is reached. For all lists within the bounds that the theorems name. -/
import Derived.Test.YtdignmbeiohhiaaFormI
import Derived.Test.YtdignmbeiohhiaaPut
namespace Go.Proofs.Ytdignmbeiohhiaa
open Eng
attribute [local irreducible] OpS OpG FC FCr Rel Fl Ef DR Fs
attribute [local simp] RV.fzR_names
set_option linter.unusedSimpArgs false
set_option maxHeartbeats 0
set_option maxRecDepth 100000

theorem putI_cast (n : Nat) : ∀ l : List Nat, putI (n : Int) (l.map fun x : Nat => (x : Int)) = (putN n l).map fun x : Nat => (x : Int)
  | [] => rfl
  | x :: xs => by
    rw [List.map_cons, putI, putN]
    by_cases h1 : x < n
    · rw [if_pos (by omega), if_pos h1, putI_cast n xs]; rfl
    · rw [if_neg (by omega), if_neg h1]
      by_cases h2 : x = n
      · rw [if_pos (by omega), if_pos h2]; rfl
      · rw [if_neg (by omega), if_neg h2]; rfl
theorem l1PutN_ok (l : List Nat) (n : Nat) (hl : l.length ≤ 1048576) : FC Try.prog 176 [.ref 1000000000000 0 l.length, RVn n] [(1000000000000, 1, l.map RVn)] (fun rv O => rv = ONs (putN n l) ∧ O = []) := by
  have h := l1Put_ok (l.map fun x : Nat => (x : Int)) (n : Int) (by simpa using hl)
  have e : ∀ l : List Nat, (l.map fun x : Nat => (x : Int)).map RVi = l.map RVn := fun l => by rw [List.map_map]; rfl
  rw [putI_cast, List.length_map, e] at h
  exact h.mono fun r O ⟨a, b⟩ => ⟨by rw [a]; show RV.ow 1 _ = RV.ow 1 _; rw [e], b⟩
theorem putN_len (n : Nat) : ∀ l : List Nat, (putN n l).length ≤ l.length + 1
  | [] => by simp [putN]
  | x :: xs => by have := putN_len n xs; rw [putN]; split <;> (try split) <;> simp <;> omega
theorem l3Sorted_ok (l : List Nat) (hl : l.length ≤ 1000) : FCr Try.prog 159 [RNs l] (ONs (putNs l [])) := by
  refine (fcr_in Try.func159 rfl (by simp only [Try.ntmps159, anys, List.length_cons, List.length_nil, Nat.reduceAdd, Nat.reduceSub, List.replicate_succ, List.replicate_zero, List.cons_append, List.nil_append] <;> rfl) ?_)
  repeat' first
    | refine w_seq ?_
    | refine w_block ?_
    | refine rb_n ?_
    | refine rb_ret ?_
    | refine rb_eq ?_
    | refine rb_ne (by rfl) ?_
    | refine w_exit ?_
    | refine rt_exit ?_
    | refine w_region ?_
    | refine l_nil ?_
    | refine rt_n ?_
    | refine w_ret ?_
    | refine rt_ret ?_
    | refine w_skip ?_
    | refine w_cond_t rfl ?_
    | refine w_cond_f rfl ?_
    | refine w_cnd rfl (fun hc => ?_) (fun hc => ?_)
    | refine w_cd rfl (fun hc => ?_) (fun hc => ?_)
    | refine w_cn rfl (fun hc => ?_) (fun hc => ?_)
    | refine w_cond rfl (fun hc => ?_) (fun hc => ?_)
    | (refine l_o ?_; first | refine l_op (hk := ?_))
  refine w_le _ (le_ren 5 17 (by decide) (by decide) (by simp [nm, ng, renL_id, -List.map_append, -List.map_take, -List.map_drop]) (by simp [nm, ng, renL_id, onames, -List.map_append, -List.map_take, -List.map_drop]) (by simp only [ng, nm, nu, renL_id, reduceIte, Nat.reduceEqDiff]; rfl) (by simp only [ng, nm, nu, renL_id, reduceIte, Nat.reduceEqDiff]; rfl)) ?_
  refine w_loopm (ι := Nat × List Nat) (fun q => [(4, RVn q.1), (3, .ref 17 0 q.2.length), (5, .any)]) (fun q => [(17, 1, q.2.map RVn)]) (fun q => q.1 ≤ l.length ∧ q.2.length ≤ q.1 ∧ putNs (l.drop q.1) q.2 = putNs l []) (fun q => l.length - q.1) (0, []) (h0 := ?_) (hs := ?_) (round := ?_)
  · exact ⟨by omega, by simp, rfl⟩
  · refine le_eq (by (repeat' first | exact .nil | refine .keep ?_ | refine .any ?_); first | done | fail) rfl rfl
  · intro ⟨i, out⟩ ⟨hi, hol, hg⟩
    dsimp only at hi hol hg ⊢
    by_cases hil : i < l.length
    · have hP := l1PutN_ok out l[i] (by omega)
      have hpl := putN_len l[i] out
      rw [List.drop_eq_getElem_cons hil, putNs] at hg
      generalize putN l[i] out = o2 at *
      repeat' first
        | refine w_seq ?_
        | refine w_block ?_
        | refine rb_n ?_
        | refine rb_ret ?_
        | refine rb_eq ?_
        | refine rb_ne (by rfl) ?_
        | refine w_exit ?_
        | refine rt_exit ?_
        | refine w_region ?_
        | refine l_nil ?_
        | refine rt_n ?_
        | refine w_ret ?_
        | refine rt_ret ?_
        | refine w_skip ?_
        | refine w_cond_t rfl ?_
        | refine w_cond_f rfl ?_
        | refine w_cnd rfl (fun hc => ?_) (fun hc => ?_)
        | refine w_cd rfl (fun hc => ?_) (fun hc => ?_)
        | refine w_cn rfl (fun hc => ?_) (fun hc => ?_)
        | refine w_cond rfl (fun hc => ?_) (fun hc => ?_)
        | (exfalso; omega)
        | (refine l_o ?_; first | refine l_op rfl (by first | (apply k_callf; first | exact ops_callG (d := 17) [17] [17] ([]) (hfc := hP) | fail) | fail) (hk := ?_) | refine l_op (hk := ?_))
      refine rn_mk (i + 1, o2) ?_ (by first | omega | (dsimp only; omega)) (le_eq (by (repeat' first | exact .nil | refine .keep ?_ | refine .any ?_); first | done | fail) rfl rfl)
      exact ⟨by dsimp only; omega, by dsimp only; omega, hg⟩
    · obtain rfl : i = l.length := by omega
      rw [List.drop_eq_nil_of_le (Nat.le_refl _), putNs] at hg
      rw [← hg]
      repeat' first
        | refine w_seq ?_
        | refine w_block ?_
        | refine rb_n ?_
        | refine rb_ret ?_
        | refine rb_eq ?_
        | refine rb_ne (by rfl) ?_
        | refine w_exit ?_
        | refine rt_exit ?_
        | refine w_region ?_
        | refine l_nil ?_
        | refine rt_n ?_
        | refine w_ret ?_
        | refine rt_ret ?_
        | refine w_skip ?_
        | refine w_cond_t rfl ?_
        | refine w_cond_f rfl ?_
        | refine w_cnd rfl (fun hc => ?_) (fun hc => ?_)
        | refine w_cd rfl (fun hc => ?_) (fun hc => ?_)
        | refine w_cn rfl (fun hc => ?_) (fun hc => ?_)
        | refine w_cond rfl (fun hc => ?_) (fun hc => ?_)
        | (exfalso; omega)
        | (refine l_o ?_; first | refine l_op (hk := ?_))
      refine en_end (hf := Try.results159) (hr := ?_); simp only [ne, nf, nl, nr, lget, reduceIte, Nat.reduceEqDiff]; first | rfl | refine congrArg RVb ?_ | refine congrArg RVi ?_ | skip
theorem l3At_ok (at_ l : List Nat) (hl : l.length ≤ 1000) (hx : ∀ x ∈ l, x < at_.length) : FCr Try.prog 160 [RNs at_, RNs l] (ONs (atM at_ l)) := by
  refine (fcr_in Try.func160 rfl (by simp only [Try.ntmps160, anys, List.length_cons, List.length_nil, Nat.reduceAdd, Nat.reduceSub, List.replicate_succ, List.replicate_zero, List.cons_append, List.nil_append] <;> rfl) ?_)
  repeat' first
    | refine w_seq ?_
    | refine w_block ?_
    | refine rb_n ?_
    | refine rb_ret ?_
    | refine rb_eq ?_
    | refine rb_ne (by rfl) ?_
    | refine w_exit ?_
    | refine rt_exit ?_
    | refine w_region ?_
    | refine l_nil ?_
    | refine rt_n ?_
    | refine w_ret ?_
    | refine rt_ret ?_
    | refine w_skip ?_
    | refine w_cond_t rfl ?_
    | refine w_cond_f rfl ?_
    | refine w_cnd rfl (fun hc => ?_) (fun hc => ?_)
    | refine w_cd rfl (fun hc => ?_) (fun hc => ?_)
    | refine w_cn rfl (fun hc => ?_) (fun hc => ?_)
    | refine w_cond rfl (fun hc => ?_) (fun hc => ?_)
    | (refine l_o ?_; first | refine l_op (hk := ?_))
  refine w_loopm (ι := Nat × List Nat) (fun q => [(6, RVn q.1), (5, .ref 7 0 q.2.length), (7, .any)]) (fun q => [(7, 1, q.2.map RVn)]) (fun q => q.1 ≤ l.length ∧ q.2.length = q.1 ∧ q.2 = atM at_ (l.take q.1)) (fun q => l.length - q.1) (0, []) (h0 := ?_) (hs := ?_) (round := ?_)
  · exact ⟨by omega, by simp, rfl⟩
  · refine le_eq (by (repeat' first | exact .nil | refine .keep ?_ | refine .any ?_); first | done | fail) rfl rfl
  · intro ⟨i, out⟩ ⟨hi, hol, ho⟩
    dsimp only at hi hol ho ⊢
    by_cases hil : i < l.length
    · have hxl := hx _ (List.getElem_mem hil)
      have e : out ++ [at_[l[i]]] = atM at_ (l.take (i + 1)) := by
        rw [take_next hil, atM, List.map_append, ho, atM]
        simp only [List.map_cons, List.map_nil]
        rw [gdp hxl]
      repeat' first
        | refine w_seq ?_
        | refine w_block ?_
        | refine rb_n ?_
        | refine rb_ret ?_
        | refine rb_eq ?_
        | refine rb_ne (by rfl) ?_
        | refine w_exit ?_
        | refine rt_exit ?_
        | refine w_region ?_
        | refine l_nil ?_
        | refine rt_n ?_
        | refine w_ret ?_
        | refine rt_ret ?_
        | refine w_skip ?_
        | refine w_cond_t rfl ?_
        | refine w_cond_f rfl ?_
        | refine w_cnd rfl (fun hc => ?_) (fun hc => ?_)
        | refine w_cd rfl (fun hc => ?_) (fun hc => ?_)
        | refine w_cn rfl (fun hc => ?_) (fun hc => ?_)
        | refine w_cond rfl (fun hc => ?_) (fun hc => ?_)
        | (exfalso; omega)
        | (refine l_o ?_; first | refine l_op (hk := ?_))
      refine rn_mk (i + 1, out ++ [at_[l[i]]]) ?_ (by first | omega | (dsimp only; omega)) (le_eq (by (repeat' first | exact .nil | refine .keep ?_ | refine .any ?_); first | done | fail) rfl rfl)
      exact ⟨by dsimp only; omega, by simp; omega, e⟩
    · obtain rfl : i = l.length := by omega
      rw [List.take_length] at ho
      rw [← ho]
      repeat' first
        | refine w_seq ?_
        | refine w_block ?_
        | refine rb_n ?_
        | refine rb_ret ?_
        | refine rb_eq ?_
        | refine rb_ne (by rfl) ?_
        | refine w_exit ?_
        | refine rt_exit ?_
        | refine w_region ?_
        | refine l_nil ?_
        | refine rt_n ?_
        | refine w_ret ?_
        | refine rt_ret ?_
        | refine w_skip ?_
        | refine w_cond_t rfl ?_
        | refine w_cond_f rfl ?_
        | refine w_cnd rfl (fun hc => ?_) (fun hc => ?_)
        | refine w_cd rfl (fun hc => ?_) (fun hc => ?_)
        | refine w_cn rfl (fun hc => ?_) (fun hc => ?_)
        | refine w_cond rfl (fun hc => ?_) (fun hc => ?_)
        | (exfalso; omega)
        | (refine l_o ?_; first | refine l_op (hk := ?_))
      refine en_end (hf := Try.results160) (hr := ?_); simp only [ne, nf, nl, nr, lget, reduceIte, Nat.reduceEqDiff]; first | rfl | refine congrArg RVb ?_ | refine congrArg RVi ?_ | skip
theorem drop_both2 {α : Type} {l m : List α} {k : Nat} (h : k < l.length) (h2 : k < m.length) : (l.drop k = m.drop k) ↔ l[k] = m[k] ∧ l.drop (k + 1) = m.drop (k + 1) := by
  rw [List.drop_eq_getElem_cons h, List.drop_eq_getElem_cons h2, List.cons.injEq]
theorem l3Same_ok (f g : List Nd) : FCr Try.prog 130 [.agg [.sh (f.map RNd)], .agg [.sh (g.map RNd)]] (RVb (decide (f = g))) := by
  refine fcr_lens fun hL => ?_
  simp only [lnk] at hL
  refine (fcr_in Try.func130 rfl (by simp only [Try.ntmps130, anys, List.length_cons, List.length_nil, Nat.reduceAdd, Nat.reduceSub, List.replicate_succ, List.replicate_zero, List.cons_append, List.nil_append] <;> rfl) ?_)
  repeat' first
    | refine w_seq ?_
    | refine w_block ?_
    | refine rb_n ?_
    | refine rb_ret ?_
    | refine rb_eq ?_
    | refine rb_ne (by rfl) ?_
    | refine w_exit ?_
    | refine rt_exit ?_
    | refine w_region ?_
    | refine l_nil ?_
    | refine rt_n ?_
    | refine w_ret ?_
    | refine rt_ret ?_
    | refine w_skip ?_
    | refine w_cond_t rfl ?_
    | refine w_cond_f rfl ?_
    | refine w_cnd rfl (fun hc => ?_) (fun hc => ?_)
    | refine w_cd rfl (fun hc => ?_) (fun hc => ?_)
    | refine w_cn rfl (fun hc => ?_) (fun hc => ?_)
    | refine w_cond rfl (fun hc => ?_) (fun hc => ?_)
    | (refine l_o ?_; first | refine l_op (hk := ?_) | (refine l_g ?_; first | refine l_y rfl rfl rfl ?_ | refine l_n rfl rfl rfl rfl (hk := ?_) | refine l_n' rfl rfl rfl (hk := ?_) | refine l_spnd rfl rfl rfl (h1 := fun hc => ?_) (h2 := fun hc => ?_) | refine l_spd rfl rfl rfl (h1 := fun hc => ?_) (h2 := fun hc => ?_) | refine l_spn rfl rfl rfl (h1 := fun hc => ?_) (h2 := fun hc => ?_) | refine l_sp rfl rfl rfl (h1 := fun hc => ?_) (h2 := fun hc => ?_)))
    | refine d_nil ?_
    | (refine d_o ?_; first | refine d_fl (hk := ?_) | refine d_ef (hk := ?_) | (refine d_g ?_; first | refine d_spnd rfl rfl rfl (h1 := fun hc => ?_) (h2 := fun hc => ?_) | refine d_spd rfl rfl rfl (h1 := fun hc => ?_) (h2 := fun hc => ?_) | refine d_spn rfl rfl rfl (h1 := fun hc => ?_) (h2 := fun hc => ?_) | refine d_sp rfl rfl rfl (h1 := fun hc => ?_) (h2 := fun hc => ?_)))
    | (refine w_o ?_; first | refine w_draw (id := 6) (fun _ => true) (fun k => [12, 27].contains k) [[], []] 64 (by kernel_rfl) rfl (by kernel_rfl) (by simp [nm, nset, -List.map_take, -List.map_drop]) ?_)
  · refine en_one (hf := Try.results130) (h := ?_); simp only [lget]; first | refine congrArg RVb ?_ | refine congrArg RVi ?_ | skip
    have : f ≠ g := fun e => by rw [e] at hc; exact hc rfl
    simp [this]
  have hn : f.length = g.length := by omega
  clear hc
  refine w_loopm (ι := Nat) (fun k => [(5, RVn k)]) (fun _ => [(3, 1, [.agg [.sh (g.map RNd)]]), (2, 1, [.agg [.sh (f.map RNd)]])]) (fun k => k ≤ f.length ∧ ((f.drop k = g.drop k) ↔ f = g)) (fun k => f.length - k) 0 (h0 := ?_) (hs := ?_) (round := ?_)
  · simp
  · refine le_eq (by (repeat' first | exact .nil | refine .keep ?_ | refine .any ?_); first | done | fail) rfl rfl
  · intro k ⟨hk, hg⟩
    by_cases h1 : k < f.length
    · have h2 : k < g.length := by omega
      rw [drop_both2 h1 h2] at hg
      have hS1 := l1Same_ok f[k].1 g[k].1
      have hS2 := l1Same_ok f[k].2 g[k].2
      by_cases e1 : f[k].1 = g[k].1
      · rw [decide_eq_true e1] at hS1
        by_cases e2 : f[k].2 = g[k].2
        · rw [decide_eq_true e2] at hS2
          repeat' first
            | refine w_seq ?_
            | refine w_block ?_
            | refine rb_n ?_
            | refine rb_ret ?_
            | refine rb_eq ?_
            | refine rb_ne (by rfl) ?_
            | refine w_exit ?_
            | refine rt_exit ?_
            | refine w_region ?_
            | refine l_nil ?_
            | refine rt_n ?_
            | refine w_ret ?_
            | refine rt_ret ?_
            | refine w_skip ?_
            | refine w_cond_t rfl ?_
            | refine w_cond_f rfl ?_
            | refine w_cnd rfl (fun hc => ?_) (fun hc => ?_)
            | refine w_cd rfl (fun hc => ?_) (fun hc => ?_)
            | refine w_cn rfl (fun hc => ?_) (fun hc => ?_)
            | refine w_cond rfl (fun hc => ?_) (fun hc => ?_)
            | (exfalso; omega)
            | (exfalso; exact absurd rfl hc)
            | (refine l_o ?_; first | refine l_op rfl (by first | (apply k_callf; first | exact ops_callf (d := 32) (hfc := hS1) | exact ops_callf (d := 47) (hfc := hS2) | fail) | fail) (hk := ?_) | refine l_op (hk := ?_) | (refine l_g ?_; first | refine l_y rfl rfl rfl ?_ | refine l_n rfl rfl rfl rfl (hk := ?_) | refine l_n' rfl rfl rfl (hk := ?_) | refine l_spnd rfl rfl rfl (h1 := fun hc => ?_) (h2 := fun hc => ?_) | refine l_spd rfl rfl rfl (h1 := fun hc => ?_) (h2 := fun hc => ?_) | refine l_spn rfl rfl rfl (h1 := fun hc => ?_) (h2 := fun hc => ?_) | refine l_sp rfl rfl rfl (h1 := fun hc => ?_) (h2 := fun hc => ?_)))
            | refine e_nil ?_
            | (refine e_o ?_; first | refine e_fl (hk := ?_) | refine e_ef rfl (by first | exact .callf (d := 32) (hfc := hS1) | exact .callf (d := 47) (hfc := hS2) | exact .callfY (d := 32) (hfc := hS1) | exact .callfY (d := 47) (hfc := hS2) | fail) (hk := ?_) | refine e_ef (hk := ?_) | (refine e_g ?_; first | refine e_spnd rfl rfl rfl (h1 := fun hc => ?_) (h2 := fun hc => ?_) | refine e_spd rfl rfl rfl (h1 := fun hc => ?_) (h2 := fun hc => ?_) | refine e_spn rfl rfl rfl (h1 := fun hc => ?_) (h2 := fun hc => ?_) | refine e_sp rfl rfl rfl (h1 := fun hc => ?_) (h2 := fun hc => ?_)))
            | (refine w_o ?_; first | refine w_drawS (id := 6) (rdP [(0,2),(1,2),(6,3),(7,3),(15,2),(16,2),(21,3),(22,3)]) (fun k => [12, 27].contains k) [[],[]] (by kernel_rfl) rfl (by kernel_rfl) (by simp [nm, nset, -List.map_take, -List.map_drop]) ?_)
          refine rn_mk (k + 1) ?_ (by first | omega | (dsimp only; omega)) (le_eq (by (repeat' first | exact .nil | refine .keep ?_ | refine .any ?_); first | done | fail) rfl rfl)
          exact ⟨by omega, by rw [← hg]; exact ⟨fun h => ⟨Prod.ext e1 e2, h⟩, fun h => h.2⟩⟩
        · rw [decide_eq_false e2] at hS2
          have : f ≠ g := fun e => e2 (congrArg Prod.snd (hg.2 e).1)
          repeat' first
            | refine w_seq ?_
            | refine w_block ?_
            | refine rb_n ?_
            | refine rb_ret ?_
            | refine rb_eq ?_
            | refine rb_ne (by rfl) ?_
            | refine w_exit ?_
            | refine rt_exit ?_
            | refine w_region ?_
            | refine l_nil ?_
            | refine rt_n ?_
            | refine w_ret ?_
            | refine rt_ret ?_
            | refine w_skip ?_
            | refine w_cond_t rfl ?_
            | refine w_cond_f rfl ?_
            | refine w_cnd rfl (fun hc => ?_) (fun hc => ?_)
            | refine w_cd rfl (fun hc => ?_) (fun hc => ?_)
            | refine w_cn rfl (fun hc => ?_) (fun hc => ?_)
            | refine w_cond rfl (fun hc => ?_) (fun hc => ?_)
            | (exfalso; omega)
            | (exfalso; exact absurd rfl hc)
            | (refine l_o ?_; first | refine l_op rfl (by first | (apply k_callf; first | exact ops_callf (d := 32) (hfc := hS1) | exact ops_callf (d := 47) (hfc := hS2) | fail) | fail) (hk := ?_) | refine l_op (hk := ?_) | (refine l_g ?_; first | refine l_y rfl rfl rfl ?_ | refine l_n rfl rfl rfl rfl (hk := ?_) | refine l_n' rfl rfl rfl (hk := ?_) | refine l_spnd rfl rfl rfl (h1 := fun hc => ?_) (h2 := fun hc => ?_) | refine l_spd rfl rfl rfl (h1 := fun hc => ?_) (h2 := fun hc => ?_) | refine l_spn rfl rfl rfl (h1 := fun hc => ?_) (h2 := fun hc => ?_) | refine l_sp rfl rfl rfl (h1 := fun hc => ?_) (h2 := fun hc => ?_)))
            | refine e_nil ?_
            | (refine e_o ?_; first | refine e_fl (hk := ?_) | refine e_ef rfl (by first | exact .callf (d := 32) (hfc := hS1) | exact .callf (d := 47) (hfc := hS2) | exact .callfY (d := 32) (hfc := hS1) | exact .callfY (d := 47) (hfc := hS2) | fail) (hk := ?_) | refine e_ef (hk := ?_) | (refine e_g ?_; first | refine e_spnd rfl rfl rfl (h1 := fun hc => ?_) (h2 := fun hc => ?_) | refine e_spd rfl rfl rfl (h1 := fun hc => ?_) (h2 := fun hc => ?_) | refine e_spn rfl rfl rfl (h1 := fun hc => ?_) (h2 := fun hc => ?_) | refine e_sp rfl rfl rfl (h1 := fun hc => ?_) (h2 := fun hc => ?_)))
            | (refine w_o ?_; first | refine w_drawS (id := 6) (rdP [(0,2),(1,2),(6,3),(7,3),(15,2),(16,2),(21,3),(22,3)]) (fun k => [12, 27].contains k) [[],[]] (by kernel_rfl) rfl (by kernel_rfl) (by simp [nm, nset, -List.map_take, -List.map_drop]) ?_)
          refine en_one (hf := Try.results130) (h := ?_); simp only [lget]; first | refine congrArg RVb ?_ | refine congrArg RVi ?_ | skip
          simp [this]
      · rw [decide_eq_false e1] at hS1
        have : f ≠ g := fun e => e1 (congrArg Prod.fst (hg.2 e).1)
        repeat' first
          | refine w_seq ?_
          | refine w_block ?_
          | refine rb_n ?_
          | refine rb_ret ?_
          | refine rb_eq ?_
          | refine rb_ne (by rfl) ?_
          | refine w_exit ?_
          | refine rt_exit ?_
          | refine w_region ?_
          | refine l_nil ?_
          | refine rt_n ?_
          | refine w_ret ?_
          | refine rt_ret ?_
          | refine w_skip ?_
          | refine w_cond_t rfl ?_
          | refine w_cond_f rfl ?_
          | refine w_cnd rfl (fun hc => ?_) (fun hc => ?_)
          | refine w_cd rfl (fun hc => ?_) (fun hc => ?_)
          | refine w_cn rfl (fun hc => ?_) (fun hc => ?_)
          | refine w_cond rfl (fun hc => ?_) (fun hc => ?_)
          | (exfalso; omega)
          | (exfalso; exact absurd rfl hc)
          | (refine l_o ?_; first | refine l_op rfl (by first | (apply k_callf; first | exact ops_callf (d := 32) (hfc := hS1) | exact ops_callf (d := 47) (hfc := hS2) | fail) | fail) (hk := ?_) | refine l_op (hk := ?_) | (refine l_g ?_; first | refine l_y rfl rfl rfl ?_ | refine l_n rfl rfl rfl rfl (hk := ?_) | refine l_n' rfl rfl rfl (hk := ?_) | refine l_spnd rfl rfl rfl (h1 := fun hc => ?_) (h2 := fun hc => ?_) | refine l_spd rfl rfl rfl (h1 := fun hc => ?_) (h2 := fun hc => ?_) | refine l_spn rfl rfl rfl (h1 := fun hc => ?_) (h2 := fun hc => ?_) | refine l_sp rfl rfl rfl (h1 := fun hc => ?_) (h2 := fun hc => ?_)))
          | refine e_nil ?_
          | (refine e_o ?_; first | refine e_fl (hk := ?_) | refine e_ef rfl (by first | exact .callf (d := 32) (hfc := hS1) | exact .callf (d := 47) (hfc := hS2) | exact .callfY (d := 32) (hfc := hS1) | exact .callfY (d := 47) (hfc := hS2) | fail) (hk := ?_) | refine e_ef (hk := ?_) | (refine e_g ?_; first | refine e_spnd rfl rfl rfl (h1 := fun hc => ?_) (h2 := fun hc => ?_) | refine e_spd rfl rfl rfl (h1 := fun hc => ?_) (h2 := fun hc => ?_) | refine e_spn rfl rfl rfl (h1 := fun hc => ?_) (h2 := fun hc => ?_) | refine e_sp rfl rfl rfl (h1 := fun hc => ?_) (h2 := fun hc => ?_)))
          | (refine w_o ?_; first | refine w_drawS (id := 6) (rdP [(0,2),(1,2),(6,3),(7,3),(15,2),(16,2),(21,3),(22,3)]) (fun k => [12, 27].contains k) [[],[]] (by kernel_rfl) rfl (by kernel_rfl) (by simp [nm, nset, -List.map_take, -List.map_drop]) ?_)
        refine en_one (hf := Try.results130) (h := ?_); simp only [lget]; first | refine congrArg RVb ?_ | refine congrArg RVi ?_ | skip
        simp [this]
    · rw [List.drop_eq_nil_of_le (by omega), List.drop_eq_nil_of_le (by omega)] at hg
      have := hg.1 rfl
      repeat' first
        | refine w_seq ?_
        | refine w_block ?_
        | refine rb_n ?_
        | refine rb_ret ?_
        | refine rb_eq ?_
        | refine rb_ne (by rfl) ?_
        | refine w_exit ?_
        | refine rt_exit ?_
        | refine w_region ?_
        | refine l_nil ?_
        | refine rt_n ?_
        | refine w_ret ?_
        | refine rt_ret ?_
        | refine w_skip ?_
        | refine w_cond_t rfl ?_
        | refine w_cond_f rfl ?_
        | refine w_cnd rfl (fun hc => ?_) (fun hc => ?_)
        | refine w_cd rfl (fun hc => ?_) (fun hc => ?_)
        | refine w_cn rfl (fun hc => ?_) (fun hc => ?_)
        | refine w_cond rfl (fun hc => ?_) (fun hc => ?_)
        | (exfalso; omega)
        | (refine l_o ?_; first | refine l_op (hk := ?_) | (refine l_g ?_; first | refine l_y rfl rfl rfl ?_ | refine l_n rfl rfl rfl rfl (hk := ?_) | refine l_n' rfl rfl rfl (hk := ?_) | refine l_spnd rfl rfl rfl (h1 := fun hc => ?_) (h2 := fun hc => ?_) | refine l_spd rfl rfl rfl (h1 := fun hc => ?_) (h2 := fun hc => ?_) | refine l_spn rfl rfl rfl (h1 := fun hc => ?_) (h2 := fun hc => ?_) | refine l_sp rfl rfl rfl (h1 := fun hc => ?_) (h2 := fun hc => ?_)))
        | refine d_nil ?_
        | (refine d_o ?_; first | refine d_fl (hk := ?_) | refine d_ef (hk := ?_) | (refine d_g ?_; first | refine d_spnd rfl rfl rfl (h1 := fun hc => ?_) (h2 := fun hc => ?_) | refine d_spd rfl rfl rfl (h1 := fun hc => ?_) (h2 := fun hc => ?_) | refine d_spn rfl rfl rfl (h1 := fun hc => ?_) (h2 := fun hc => ?_) | refine d_sp rfl rfl rfl (h1 := fun hc => ?_) (h2 := fun hc => ?_)))
        | (refine w_o ?_; first | refine w_draw (id := 6) (fun _ => true) (fun k => [12, 27].contains k) [[], []] 64 (by kernel_rfl) rfl (by kernel_rfl) (by simp [nm, nset, -List.map_take, -List.map_drop]) ?_)
      refine en_one (hf := Try.results130) (h := ?_); simp only [lget]; first | refine congrArg RVb ?_ | refine congrArg RVi ?_ | skip
      simp [this]
end Go.Proofs.Ytdignmbeiohhiaa
