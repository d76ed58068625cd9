/- Birthdays, what is reached, good forms: the program. For all forms. -/
import Derived.Test.YtdignmbeiohhiaaFormC
import Derived.Test.YtdignmbeiohhiaaGood
namespace Go.Proofs.Ytdignmbeiohhiaa
open Eng
attribute [local irreducible] OpS OpG FC FCr Rel Fl Ef DR Fs
attribute [local simp] RV.fzR_names
set_option linter.unusedSimpArgs false
set_option maxHeartbeats 0
set_option maxRecDepth 100000

theorem mxb_snoc (bn : List Nat) : ∀ (l : List Nat) (m x : Nat), mxb bn (l ++ [x]) m = max (mxb bn l m) (bn.getD x 0 + 1)
  | [], m, x => rfl
  | i :: is, m, x => by rw [List.cons_append, mxb, mxb, mxb_snoc bn is]
theorem mxb_bd {bn : List Nat} {c : Nat} : ∀ {l : List Nat} {m : Nat}, m ≤ c → (∀ i ∈ l, bn.getD i 0 + 1 ≤ c) → mxb bn l m ≤ c
  | [], m, h, _ => h
  | i :: is, m, h, h2 => by rw [mxb]; exact mxb_bd (by have := h2 i (by simp); omega) fun j hj => h2 j (by simp [hj])
theorem brn_bd {f : List Nd} (ok : OkF f) {n : Nat} : ∀ k, k < n → (brn f n).getD k 0 ≤ k := by
  intro k
  induction k using Nat.strongRecOn with
  | ind k ih =>
    intro hk
    rw [bn_eq ok hk]
    refine mxb_bd (mxb_bd (by omega) fun i hi => ?_) fun i hi => ?_
    · have h1 := (ok k).1.2 i hi; have := ih i h1 (by omega); omega
    · have h1 := (ok k).2.2 i hi; have := ih i h1 (by omega); omega
theorem sn_ge {l : List Nat} (h : SN l) : ∀ i (hi : i < l.length), i ≤ l[i]
  | 0, _ => Nat.zero_le _
  | i + 1, hi => by
    have h1 := sn_ge h i (by omega)
    have h2 := List.pairwise_iff_getElem.1 h i (i + 1) (by omega) hi (by omega)
    omega
theorem sn_len {l : List Nat} {n : Nat} (h : SN l) (hb : ∀ x ∈ l, x < n) : l.length ≤ n := by
  rcases Nat.eq_zero_or_pos l.length with h0 | h0
  · omega
  · have h1 := sn_ge h (l.length - 1) (by omega)
    have h2 := hb _ (List.getElem_mem (show l.length - 1 < l.length by omega))
    omega
theorem take_next {α : Type} {l : List α} {i : Nat} (h : i < l.length) : l.take (i + 1) = l.take i ++ [l[i]] := List.take_succ_eq_append_getElem h
/-- Birthdays so far, the next one under way. -/
def bnW (f : List Nd) (i m : Nat) : List Nat := brn f i ++ m :: List.replicate (f.length - i - 1) 0
theorem bnW_len (f : List Nd) {i : Nat} (m : Nat) (h : i < f.length) : (bnW f i m).length = f.length := by unfold bnW; simp [brn_len]; omega
theorem bnW_at (f : List Nd) {i m k : Nat} (h : k < i) (hk : k < (bnW f i m).length) : (bnW f i m)[k] = (brn f i).getD k 0 := by
  have e : bnW f i m = brn f i ++ m :: List.replicate (f.length - i - 1) 0 := rfl
  rw [List.getElem_of_eq e hk, List.getElem_append_left (by rw [brn_len]; exact h), gdp (by rw [brn_len]; exact h)]
theorem bnW_self (f : List Nd) {i m : Nat} (hi : i < (bnW f i m).length) : (bnW f i m)[i] = m := by
  have e : bnW f i m = brn f i ++ m :: List.replicate (f.length - i - 1) 0 := rfl
  rw [List.getElem_of_eq e hi, List.getElem_append_right (by rw [brn_len]; omega)]
  simp [brn_len]
theorem bnW_set (f : List Nd) {i m x : Nat} : (bnW f i m).set i x = bnW f i x := by
  unfold bnW
  rw [List.set_append_right _ _ (by rw [brn_len]; omega), brn_len, Nat.sub_self, List.set_cons_zero]
theorem bnW_zero (f : List Nd) {i : Nat} (hi : i < f.length) : brn f i ++ List.replicate (f.length - i) 0 = bnW f i 0 := by
  unfold bnW
  rw [show f.length - i = (f.length - i - 1) + 1 by omega, List.replicate_succ]; simp
theorem births_ok (f : List Nd) (ok : OkF f) (hN : f.length ≤ 120) : FCr Try.prog 90 [.sh (f.map RNd)] (ONs (bnF f)) := by
  refine (fcr_in Try.func90 rfl (by simp only [Try.ntmps90, anys, List.length_cons, List.length_nil, Nat.reduceAdd, Nat.reduceSub, List.replicate_succ, List.replicate_zero, List.cons_append, List.nil_append] <;> rfl) ?_)
  repeat' first
    | refine w_seq ?_
    | refine w_block ?_
    | refine rb_n ?_
    | refine rb_ret ?_
    | refine rb_eq ?_
    | refine rb_ne (by rfl) ?_
    | refine w_exit ?_
    | refine rt_exit ?_
    | refine w_region ?_
    | refine l_nil ?_
    | refine rt_n ?_
    | refine w_ret ?_
    | refine rt_ret ?_
    | refine w_skip ?_
    | refine w_cond_t rfl ?_
    | refine w_cond_f rfl ?_
    | refine w_cnd rfl (fun hc => ?_) (fun hc => ?_)
    | refine w_cd rfl (fun hc => ?_) (fun hc => ?_)
    | refine w_cn rfl (fun hc => ?_) (fun hc => ?_)
    | refine w_cond rfl (fun hc => ?_) (fun hc => ?_)
    | (refine l_o ?_; first | refine l_op (hk := ?_))
    | refine d_nil ?_
    | (refine d_o ?_; first | refine d_fl (hk := ?_) | refine d_ef (hk := ?_))
    | (refine w_o ?_; first | refine w_draw (id := 8) (fun _ => true) (fun k => [11, 13].contains k) [[], []] 64 (by kernel_rfl) rfl (by kernel_rfl) (by simp [nm, nset, -List.map_take, -List.map_drop]) ?_ | refine w_draw (id := 13) (fun _ => true) (fun k => [11, 13].contains k) [[], []] 64 (by kernel_rfl) rfl (by kernel_rfl) (by simp [nm, nset, -List.map_take, -List.map_drop]) ?_)
  refine w_loopm (ι := Nat × List Nat) (fun q => [(15, RVn q.1), (4, .any), (3, .ref 12 0 f.length)]) (fun q => [(12, 1, q.2.map RVn)]) (fun q => q.1 ≤ f.length ∧ q.2 = brn f q.1 ++ List.replicate (f.length - q.1) 0) (fun q => f.length - q.1) (0, List.replicate f.length 0) (h0 := ?_) (hs := ?_) (round := ?_)
  · exact ⟨by omega, by simp [brn]⟩
  · refine le_eq (by (repeat' first | exact .nil | refine .keep ?_ | refine .any ?_); first | done | fail) rfl (by simp)
  · intro ⟨i, B⟩ ⟨hi, hB⟩
    dsimp only at hi hB ⊢
    by_cases hil : i < f.length
    · rw [bnW_zero f hil] at hB
      have hfi : f[i] = nd f i := (gdp hil).symm
      have hoL := (ok i).1.2
      have hoR := (ok i).2.2
      have hlL := sn_len (ok i).1.1 hoL
      have hlR := sn_len (ok i).2.1 hoR
      have hbd : ∀ k, k < i → (brn f i).getD k 0 ≤ 120 := fun k hk => by have := brn_bd ok (n := i) k hk; omega
      have hlf : f.length ≤ 120 := hN
      have hlast : brn f (i + 1) ++ List.replicate (f.length - (i + 1)) 0 = bnW f i (mxb (brn f i) (nd f i).2 (mxb (brn f i) (nd f i).1 0)) := by
        rw [brn, bnW, List.append_assoc]; rfl
      subst hB
      have hm1 : ∀ j, mxb (brn f i) ((nd f i).1.take j) 0 ≤ 121 := fun j => mxb_bd (by omega) fun x hx => by have := hbd x (hoL x (List.mem_of_mem_take hx)); omega
      repeat' first
        | refine w_seq ?_
        | refine w_block ?_
        | refine rb_n ?_
        | refine rb_ret ?_
        | refine rb_eq ?_
        | refine rb_ne (by rfl) ?_
        | refine w_exit ?_
        | refine rt_exit ?_
        | refine w_region ?_
        | refine l_nil ?_
        | refine rt_n ?_
        | refine w_ret ?_
        | refine rt_ret ?_
        | refine w_skip ?_
        | refine w_cond_t rfl ?_
        | refine w_cond_f rfl ?_
        | refine w_cnd rfl (fun hc => ?_) (fun hc => ?_)
        | refine w_cd rfl (fun hc => ?_) (fun hc => ?_)
        | refine w_cn rfl (fun hc => ?_) (fun hc => ?_)
        | refine w_cond rfl (fun hc => ?_) (fun hc => ?_)
        | (exfalso; omega)
        | (refine l_o ?_; first | refine l_op (hk := ?_))
        | refine d_nil ?_
        | (refine d_o ?_; first | refine d_fl (hk := ?_) | refine d_ef (hk := ?_))
        | (refine w_o ?_; first | refine w_draw (id := 8) (fun _ => true) (fun k => [11, 13].contains k) [[], []] 64 (by kernel_rfl) rfl (by kernel_rfl) (by simp [nm, nset, -List.map_take, -List.map_drop]) ?_ | refine w_draw (id := 13) (fun _ => true) (fun k => [11, 13].contains k) [[], []] 64 (by kernel_rfl) rfl (by kernel_rfl) (by simp [nm, nset, -List.map_take, -List.map_drop]) ?_)
      simp only [hfi]
      refine w_loopm (ι := Nat) (fun q => [(23, RVn q), (7, .any)]) (fun q => [(5, 2, [.agg [RNs (nd f i).1, RNs (nd f i).2]]), (12, 1, (bnW f i (mxb (brn f i) ((nd f i).1.take q) 0)).map RVn)]) (fun q => q ≤ (nd f i).1.length) (fun q => (nd f i).1.length - q) 0 (h0 := ?_) (hs := ?_) (round := ?_)
      · exact Nat.zero_le _
      · refine le_eq (by (repeat' first | exact .nil | refine .keep ?_ | refine .any ?_); first | done | fail) rfl rfl
      · intro q hq
        by_cases hql : q < (nd f i).1.length
        · have hx := hoL _ (List.getElem_mem hql)
          have e1 := take_next hql
          have e2 := mxb_snoc (brn f i) ((nd f i).1.take q) 0 ((nd f i).1[q])
          rw [← e1] at e2
          have e3 := bnW_set f (i := i) (m := mxb (brn f i) ((nd f i).1.take q) 0) (x := mxb (brn f i) ((nd f i).1.take (q + 1)) 0)
          have hbx := hbd _ hx
          have hm := hm1 q
          rw [e2] at e3
          have hql5 : ((nd f i).1[q]) < (bnW f i (mxb (brn f i) ((nd f i).1.take q) 0)).length := by rw [bnW_len f _ hil]; omega
          have hil5 : i < (bnW f i (mxb (brn f i) ((nd f i).1.take q) 0)).length := by rw [bnW_len f _ hil]; exact hil
          have g1 := fun h => bnW_at f (m := mxb (brn f i) ((nd f i).1.take q) 0) hx h
          have g2 := fun h => bnW_self f (i := i) (m := mxb (brn f i) ((nd f i).1.take q) 0) h
          generalize bnW f i (mxb (brn f i) ((nd f i).1.take q) 0) = W at *
          generalize mxb (brn f i) ((nd f i).1.take q) 0 = m at *
          have b1 : W[(nd f i).1[q]] ≤ 120 := by rw [g1]; exact hbx
          repeat' first
            | refine w_seq ?_
            | refine w_block ?_
            | refine rb_n ?_
            | refine rb_ret ?_
            | refine rb_eq ?_
            | refine rb_ne (by rfl) ?_
            | refine w_exit ?_
            | refine rt_exit ?_
            | refine w_region ?_
            | refine l_nil ?_
            | refine rt_n ?_
            | refine w_ret ?_
            | refine rt_ret ?_
            | refine w_skip ?_
            | refine w_cond_t rfl ?_
            | refine w_cond_f rfl ?_
            | refine w_cnd rfl (fun hc => ?_) (fun hc => ?_)
            | refine w_cd rfl (fun hc => ?_) (fun hc => ?_)
            | refine w_cn rfl (fun hc => ?_) (fun hc => ?_)
            | refine w_cond rfl (fun hc => ?_) (fun hc => ?_)
            | (exfalso; omega)
            | (refine l_o ?_; first | refine l_op rfl (by first | (apply k_max; first | exact ops_maxn (m := W[i]) (n := W[(nd f i).1[q]] + 1) rfl rfl | fail) | fail) (hk := ?_) | refine l_op (hk := ?_))
            | refine e_nil ?_
            | (refine e_o ?_; first | refine e_fl rfl (by first | exact .pl (by first | (apply q_max; first | exact fs_maxn (m := W[i]) (n := W[(nd f i).1[q]] + 1) rfl rfl | fail) | fail) | fail) (hk := ?_) | refine e_fl (hk := ?_) | refine e_ef (hk := ?_))
            | (refine w_o ?_; first | refine w_drawS (id := 8) (rdP [(4,12),(5,12),(8,12),(9,12),(12,12)]) (fun k => [13].contains k) [[]] (by kernel_rfl) rfl (by kernel_rfl) (by simp [nm, nset, -List.map_take, -List.map_drop]) ?_ | refine w_drawS (id := 13) (rdP [(4,12),(5,12),(8,12),(9,12),(12,12)]) (fun k => [13].contains k) [[]] (by kernel_rfl) rfl (by kernel_rfl) (by simp [nm, nset, -List.map_take, -List.map_drop]) ?_)
          rw [g1, g2, e3, ← e2]
          refine rn_mk (q + 1) ?_ (by first | omega | (dsimp only; omega)) (le_eq (by (repeat' first | exact .nil | refine .keep ?_ | refine .any ?_); first | done | fail) rfl rfl)
          omega
        · obtain rfl : q = (nd f i).1.length := by omega
          rw [List.take_length]
          generalize hM : mxb (brn f i) (nd f i).1 0 = M at *
          have hM1 : M ≤ 121 := by have := hm1 (nd f i).1.length; rw [List.take_length, hM] at this; exact this
          have hm2 : ∀ j, mxb (brn f i) ((nd f i).2.take j) M ≤ 121 := fun j => mxb_bd (by omega) fun x hx => by have := hbd x (hoR x (List.mem_of_mem_take hx)); omega
          repeat' first
            | refine w_seq ?_
            | refine w_block ?_
            | refine rb_n ?_
            | refine rb_ret ?_
            | refine rb_eq ?_
            | refine rb_ne (by rfl) ?_
            | refine w_exit ?_
            | refine rt_exit ?_
            | refine w_region ?_
            | refine l_nil ?_
            | refine rt_n ?_
            | refine w_ret ?_
            | refine rt_ret ?_
            | refine w_skip ?_
            | refine w_cond_t rfl ?_
            | refine w_cond_f rfl ?_
            | refine w_cnd rfl (fun hc => ?_) (fun hc => ?_)
            | refine w_cd rfl (fun hc => ?_) (fun hc => ?_)
            | refine w_cn rfl (fun hc => ?_) (fun hc => ?_)
            | refine w_cond rfl (fun hc => ?_) (fun hc => ?_)
            | (exfalso; omega)
            | (refine l_o ?_; first | refine l_op (hk := ?_))
            | refine d_nil ?_
            | (refine d_o ?_; first | refine d_fl (hk := ?_) | refine d_ef (hk := ?_))
            | (refine w_o ?_; first | refine w_draw (id := 8) (fun _ => true) (fun k => [11, 13].contains k) [[], []] 64 (by kernel_rfl) rfl (by kernel_rfl) (by simp [nm, nset, -List.map_take, -List.map_drop]) ?_ | refine w_draw (id := 13) (fun _ => true) (fun k => [11, 13].contains k) [[], []] 64 (by kernel_rfl) rfl (by kernel_rfl) (by simp [nm, nset, -List.map_take, -List.map_drop]) ?_)
          refine w_loopm (ι := Nat) (fun q => [(44, RVn q), (9, .any)]) (fun q => [(5, 2, [.agg [RNs (nd f i).1, RNs (nd f i).2]]), (12, 1, (bnW f i (mxb (brn f i) ((nd f i).2.take q) M)).map RVn)]) (fun q => q ≤ (nd f i).2.length) (fun q => (nd f i).2.length - q) 0 (h0 := ?_) (hs := ?_) (round := ?_)
          · exact Nat.zero_le _
          · refine le_eq (by (repeat' first | exact .nil | refine .keep ?_ | refine .any ?_); first | done | fail) rfl rfl
          · intro q hq
            by_cases hql : q < (nd f i).2.length
            · have hx := hoR _ (List.getElem_mem hql)
              have e1 := take_next hql
              have e2 := mxb_snoc (brn f i) ((nd f i).2.take q) M ((nd f i).2[q])
              rw [← e1] at e2
              have e3 := bnW_set f (i := i) (m := mxb (brn f i) ((nd f i).2.take q) M) (x := mxb (brn f i) ((nd f i).2.take (q + 1)) M)
              have hbx := hbd _ hx
              have hm := hm2 q
              rw [e2] at e3
              have hql5 : ((nd f i).2[q]) < (bnW f i (mxb (brn f i) ((nd f i).2.take q) M)).length := by rw [bnW_len f _ hil]; omega
              have hil5 : i < (bnW f i (mxb (brn f i) ((nd f i).2.take q) M)).length := by rw [bnW_len f _ hil]; exact hil
              have g1 := fun h => bnW_at f (m := mxb (brn f i) ((nd f i).2.take q) M) hx h
              have g2 := fun h => bnW_self f (i := i) (m := mxb (brn f i) ((nd f i).2.take q) M) h
              generalize bnW f i (mxb (brn f i) ((nd f i).2.take q) M) = W at *
              generalize mxb (brn f i) ((nd f i).2.take q) M = m at *
              have b1 : W[(nd f i).2[q]] ≤ 120 := by rw [g1]; exact hbx
              repeat' first
                | refine w_seq ?_
                | refine w_block ?_
                | refine rb_n ?_
                | refine rb_ret ?_
                | refine rb_eq ?_
                | refine rb_ne (by rfl) ?_
                | refine w_exit ?_
                | refine rt_exit ?_
                | refine w_region ?_
                | refine l_nil ?_
                | refine rt_n ?_
                | refine w_ret ?_
                | refine rt_ret ?_
                | refine w_skip ?_
                | refine w_cond_t rfl ?_
                | refine w_cond_f rfl ?_
                | refine w_cnd rfl (fun hc => ?_) (fun hc => ?_)
                | refine w_cd rfl (fun hc => ?_) (fun hc => ?_)
                | refine w_cn rfl (fun hc => ?_) (fun hc => ?_)
                | refine w_cond rfl (fun hc => ?_) (fun hc => ?_)
                | (exfalso; omega)
                | (refine l_o ?_; first | refine l_op rfl (by first | (apply k_max; first | exact ops_maxn (m := W[i]) (n := W[(nd f i).2[q]] + 1) rfl rfl | fail) | fail) (hk := ?_) | refine l_op (hk := ?_))
                | refine e_nil ?_
                | (refine e_o ?_; first | refine e_fl rfl (by first | exact .pl (by first | (apply q_max; first | exact fs_maxn (m := W[i]) (n := W[(nd f i).2[q]] + 1) rfl rfl | fail) | fail) | fail) (hk := ?_) | refine e_fl (hk := ?_) | refine e_ef (hk := ?_))
                | (refine w_o ?_; first | refine w_drawS (id := 8) (rdP [(4,12),(5,12),(8,12),(9,12),(12,12)]) (fun k => [13].contains k) [[]] (by kernel_rfl) rfl (by kernel_rfl) (by simp [nm, nset, -List.map_take, -List.map_drop]) ?_ | refine w_drawS (id := 13) (rdP [(4,12),(5,12),(8,12),(9,12),(12,12)]) (fun k => [13].contains k) [[]] (by kernel_rfl) rfl (by kernel_rfl) (by simp [nm, nset, -List.map_take, -List.map_drop]) ?_)
              rw [g1, g2, e3, ← e2]
              refine rn_mk (q + 1) ?_ (by first | omega | (dsimp only; omega)) (le_eq (by (repeat' first | exact .nil | refine .keep ?_ | refine .any ?_); first | done | fail) rfl rfl)
              omega
            · obtain rfl : q = (nd f i).2.length := by omega
              rw [List.take_length]
              have hlast2 : bnW f i (mxb (brn f i) (nd f i).2 M) = brn f (i + 1) ++ List.replicate (f.length - (i + 1)) 0 := hlast.symm
              generalize bnW f i (mxb (brn f i) (nd f i).2 M) = W at *
              repeat' first
                | refine w_seq ?_
                | refine w_block ?_
                | refine rb_n ?_
                | refine rb_ret ?_
                | refine rb_eq ?_
                | refine rb_ne (by rfl) ?_
                | refine w_exit ?_
                | refine rt_exit ?_
                | refine w_region ?_
                | refine l_nil ?_
                | refine rt_n ?_
                | refine w_ret ?_
                | refine rt_ret ?_
                | refine w_skip ?_
                | refine w_cond_t rfl ?_
                | refine w_cond_f rfl ?_
                | refine w_cnd rfl (fun hc => ?_) (fun hc => ?_)
                | refine w_cd rfl (fun hc => ?_) (fun hc => ?_)
                | refine w_cn rfl (fun hc => ?_) (fun hc => ?_)
                | refine w_cond rfl (fun hc => ?_) (fun hc => ?_)
                | (exfalso; omega)
                | (refine l_o ?_; first | refine l_op (hk := ?_))
                | refine d_nil ?_
                | (refine d_o ?_; first | refine d_fl (hk := ?_) | refine d_ef (hk := ?_))
                | (refine w_o ?_; first | refine w_draw (id := 8) (fun _ => true) (fun k => [11, 13].contains k) [[], []] 64 (by kernel_rfl) rfl (by kernel_rfl) (by simp [nm, nset, -List.map_take, -List.map_drop]) ?_ | refine w_draw (id := 13) (fun _ => true) (fun k => [11, 13].contains k) [[], []] 64 (by kernel_rfl) rfl (by kernel_rfl) (by simp [nm, nset, -List.map_take, -List.map_drop]) ?_)
              refine rn_mk (i + 1, W) ?_ (by first | omega | (dsimp only; omega)) (le_dropd 5 (by simp only [nz]; rfl) (by simp only [nz, reduceIte, Nat.reduceEqDiff] <;> rfl) (le_eq (by (repeat' first | exact .nil | refine .keep ?_ | refine .any ?_); first | done | fail) rfl rfl))
              exact ⟨by dsimp only; omega, hlast2⟩
    · obtain rfl : i = f.length := by omega
      rw [Nat.sub_self, List.replicate_zero, List.append_nil] at hB
      have hBl : B.length = f.length := by rw [hB, brn_len]
      rw [show bnF f = B from hB.symm]
      repeat' first
        | refine w_seq ?_
        | refine w_block ?_
        | refine rb_n ?_
        | refine rb_ret ?_
        | refine rb_eq ?_
        | refine rb_ne (by rfl) ?_
        | refine w_exit ?_
        | refine rt_exit ?_
        | refine w_region ?_
        | refine l_nil ?_
        | refine rt_n ?_
        | refine w_ret ?_
        | refine rt_ret ?_
        | refine w_skip ?_
        | refine w_cond_t rfl ?_
        | refine w_cond_f rfl ?_
        | refine w_cnd rfl (fun hc => ?_) (fun hc => ?_)
        | refine w_cd rfl (fun hc => ?_) (fun hc => ?_)
        | refine w_cn rfl (fun hc => ?_) (fun hc => ?_)
        | refine w_cond rfl (fun hc => ?_) (fun hc => ?_)
        | (exfalso; omega)
        | (refine l_o ?_; first | refine l_op (hk := ?_))
        | refine d_nil ?_
        | (refine d_o ?_; first | refine d_fl (hk := ?_) | refine d_ef (hk := ?_))
        | (refine w_o ?_; first | refine w_draw (id := 8) (fun _ => true) (fun k => [11, 13].contains k) [[], []] 64 (by kernel_rfl) rfl (by kernel_rfl) (by simp [nm, nset, -List.map_take, -List.map_drop]) ?_ | refine w_draw (id := 13) (fun _ => true) (fun k => [11, 13].contains k) [[], []] 64 (by kernel_rfl) rfl (by kernel_rfl) (by simp [nm, nset, -List.map_take, -List.map_drop]) ?_)
      refine en_end (hf := Try.results90) (hr := ?_); simp only [ne, nf, nl, nr, lget, reduceIte, Nat.reduceEqDiff]; first | rfl | refine congrArg RVb ?_ | refine congrArg RVi ?_ | skip
end Go.Proofs.Ytdignmbeiohhiaa
