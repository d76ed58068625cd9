/- A genus as a text: the program's and the reference's. For lists of five numbers of 0 to 99. -/
import Derived.Test.YtmfbcipjknjicaaGreatDoorCur
import Derived.Test.YtmfbcipjknjicaaGreatDoorJ7
import Derived.Test.YtmfbcipjknjicaaGreatDoorJ8
namespace Go.Proofs.YtmfbcipjknjicaaGreatDoor
set_option linter.unusedSectionVars false
variable [One Bool]
open Eng
attribute [local irreducible] OpS OpG FC FCr Rel Fl Ef DR Fs
attribute [local simp] RV.fzR_names
set_option linter.unusedSimpArgs false
set_option linter.unusedVariables false
set_option maxHeartbeats 0
set_option maxRecDepth 100000

def gnW (G : List Int) : List (List UInt8) := G.map fun x => num x.toNat
def gnT (G : List Int) : List UInt8 := num (G.getD 0 0).toNat ++ [94] ++ Lib.join ((gnW G).drop 1) [46]
theorem isNimQ_ok {x : Int} (h : 0 ≤ x ∧ x < 100) : FCr Tryz.prog 61 [RVi x] (RVb true) := by
  refine (fcr_in Tryz.func61 rfl (by simp only [Tryz.ntmps61, anys, List.length_cons, List.length_nil, Nat.reduceAdd, Nat.reduceSub, List.replicate_succ, List.replicate_zero, List.cons_append, List.nil_append] <;> rfl) ?_)
  repeat' first | apply w_seq | apply w_region | apply l_nil | apply rt_n | apply w_ret | apply rt_ret | apply w_skip | (exfalso; omega) | (refine l_o ?_; first | refine l_op (hk := ?_) | (refine l_g ?_; first | refine l_y rfl rfl rfl ?_ | refine l_n rfl rfl rfl rfl (hk := ?_) | refine l_n' rfl rfl rfl (hk := ?_) | refine l_spnd rfl rfl rfl (h1 := fun hc => ?_) (h2 := fun hc => ?_) | refine l_spd rfl rfl rfl (h1 := fun hc => ?_) (h2 := fun hc => ?_) | refine l_spn rfl rfl rfl (h1 := fun hc => ?_) (h2 := fun hc => ?_) | refine l_sp rfl rfl rfl (h1 := fun hc => ?_) (h2 := fun hc => ?_)))
  refine en_one (hf := Tryz.results61) (h := ?_); simp only [lget]; first | refine congrArg RVb ?_ | refine congrArg RVi ?_ | skip
  simp; omega
theorem l16NimberQ_ok {x : Int} (h : 0 ≤ x ∧ x < 100) : FCr Tryz.prog 93 [RVi x] (RVb true) := by
  have hI := l1In_ok x 0 255
  rw [decide_eq_true h.1, decide_eq_true (show x ≤ 255 by omega)] at hI
  refine (fcr_in Tryz.func93 rfl (by simp only [Tryz.ntmps93, anys, List.length_cons, List.length_nil, Nat.reduceAdd, Nat.reduceSub, List.replicate_succ, List.replicate_zero, List.cons_append, List.nil_append] <;> rfl) ?_)
  repeat' first | apply w_seq | apply w_region | apply l_nil | apply rt_n | apply w_ret | apply rt_ret | apply w_skip | (refine l_o ?_; first | refine l_op rfl (by first | (apply k_callf; first | exact ops_callf (hfc := hI) | fail) | fail) (hk := ?_) | refine l_op (hk := ?_))
  refine en_one (hf := Tryz.results93) (h := ?_); simp only [lget]; first | refine congrArg RVb ?_ | refine congrArg RVi ?_ | skip
  rfl
theorem l17NimbersQ_ok (G : List Int) (hl : G.length = 5) (hb : ∀ x ∈ G, 0 ≤ x ∧ x < 100) : FCr Tryz.prog 63 [RIs G] (RVb true) := by
  refine (fcr_in Tryz.func63 rfl (by simp only [Tryz.ntmps63, anys, List.length_cons, List.length_nil, Nat.reduceAdd, Nat.reduceSub, List.replicate_succ, List.replicate_zero, List.cons_append, List.nil_append] <;> rfl) ?_)
  repeat' first | apply w_seq | apply w_block | apply rb_n | apply rb_ret | apply rb_eq | refine rb_ne (by rfl) ?_ | apply w_exit | apply rt_exit | apply w_region | apply l_nil | apply rt_n | apply w_ret | apply rt_ret | apply w_skip | refine w_cond_t rfl ?_ | refine w_cond_f rfl ?_ | ((first | refine w_cnd rfl ?_ ?_ | refine w_cd rfl ?_ ?_ | refine w_cn rfl ?_ ?_ | refine w_cond rfl ?_ ?_) <;> intro hc) | (refine l_o ?_; first | refine l_op (hk := ?_))
  refine w_loopm (ι := Nat) (fun k => [(3, RVn k)]) (fun _ => []) (fun k => k ≤ G.length) (fun k => G.length - k) 0 (h0 := ?_) (hs := ?_) (round := ?_)
  · exact Nat.zero_le _
  · refine le_eq (by (repeat' first | exact .nil | refine .keep ?_ | refine .any ?_); first | done | fail) rfl rfl
  · intro k hk
    by_cases hk2 : k < G.length
    · have hN := l16NimberQ_ok (hb _ (List.getElem_mem hk2))
      repeat' first | apply w_seq | apply w_block | apply rb_n | apply rb_ret | apply rb_eq | refine rb_ne (by rfl) ?_ | apply w_exit | apply rt_exit | apply w_region | apply l_nil | apply rt_n | apply w_ret | apply rt_ret | apply w_skip | refine w_cond_t rfl ?_ | refine w_cond_f rfl ?_ | ((first | refine w_cnd rfl ?_ ?_ | refine w_cd rfl ?_ ?_ | refine w_cn rfl ?_ ?_ | refine w_cond rfl ?_ ?_) <;> intro hc) | (exfalso; omega) | (refine l_o ?_; first | refine l_op rfl (by first | (apply k_callf; first | exact ops_callf (hfc := hN) | fail) | fail) (hk := ?_) | refine l_op (hk := ?_))
      refine rn_mk (k + 1) ?_ (by first | omega | (dsimp only; omega)) (le_eq (by (repeat' first | exact .nil | refine .keep ?_ | refine .any ?_); first | done | fail) rfl rfl)
      exact hk2
    · repeat' first | apply w_seq | apply w_block | apply rb_n | apply rb_ret | apply rb_eq | refine rb_ne (by rfl) ?_ | apply w_exit | apply rt_exit | apply w_region | apply l_nil | apply rt_n | apply w_ret | apply rt_ret | apply w_skip | refine w_cond_t rfl ?_ | refine w_cond_f rfl ?_ | ((first | refine w_cnd rfl ?_ ?_ | refine w_cd rfl ?_ ?_ | refine w_cn rfl ?_ ?_ | refine w_cond rfl ?_ ?_) <;> intro hc) | (exfalso; omega) | (refine l_o ?_; first | refine l_op (hk := ?_))
      refine en_one (hf := Tryz.results63) (h := ?_); simp only [lget]; first | refine congrArg RVb ?_ | refine congrArg RVi ?_ | skip
theorem num_small {x : Nat} (h : x < 100) : (num x).length ≤ 100 := by have := num_len x; omega
theorem gnJ_len {l : List (List UInt8)} (h : ∀ x ∈ l, x.length ≤ 100) : (Lib.join l [46]).length ≤ 101 * l.length := by
  have h2 : ∀ r : List (List UInt8), (∀ x ∈ r, x.length ≤ 100) → (Lib.joinTail [46] r).length ≤ 101 * r.length := by
    intro r
    induction r with
    | nil => intro _; simp [Lib.joinTail]
    | cons x r ih =>
      intro hx
      have h3 := ih fun y hy => hx y (by simp [hy])
      have h4 := hx x (by simp)
      have e : (Lib.joinTail [46] (x :: r)).length = 1 + x.length + (Lib.joinTail [46] r).length := by simp [Lib.joinTail]; omega
      rw [e, List.length_cons]; omega
  match l, h with
  | [], _ => rw [Lib.join_nil]; simp
  | a :: r, h =>
    have h5 := h2 r fun y hy => h y (by simp [hy])
    have h6 := h a (by simp)
    rw [Lib.join_cons, List.length_append, List.length_cons]; omega
theorem genusText_ok (hJ : JT) (G : List Int) (hl : G.length = 5) (hb : ∀ x ∈ G, 0 ≤ x ∧ x < 100) : FCr Tryz.prog 24 [RIs G] (.tup [RV.str (gnT G), RVb true]) := by
  have hg0 : G.getD 0 0 = G[0] := by rw [List.getD_eq_getElem?_getD, List.getElem?_eq_getElem (by omega)]; rfl
  have hwl : (gnW G).length = 5 := by rw [gnW, List.length_map]; exact hl
  have hws : ∀ x ∈ gnW G, x.length ≤ 100 := by
    intro x hx
    obtain ⟨y, hy, rfl⟩ := List.mem_map.1 hx
    have := hb y hy
    exact num_small (by omega)
  have hw0 : (gnW G)[0]? = some (num G[0].toNat) := by rw [gnW, List.getElem?_map, List.getElem?_eq_getElem (by omega)]; rfl
  have hjl := gnJ_len (l := (gnW G).drop 1) fun x hx => hws x (List.mem_of_mem_drop hx)
  rw [List.length_drop, hwl] at hjl
  have hJn := joinO_ok hJ (gnW G) 1 [46] (fun e => by rw [e] at hwl; cases hwl) (by omega) (by omega) (by omega)
  have hn0 : (num G[0].toNat).length ≤ 100 := hws _ (List.mem_of_getElem? hw0)
  have hdl : ((gnW G).drop 1).length = (gnW G).length - 1 := by rw [List.length_drop]
  rw [hdl] at hJn
  have hwk : ∀ k, (hk : k < G.length) → (gnW G).take (k + 1) = (gnW G).take k ++ [num G[k].toNat] := fun k hk => by
    rw [List.take_succ_eq_append_getElem (by omega)]; simp [gnW]
  unfold gnT
  rw [hg0]
  clear hg0
  generalize num G[0].toNat = V0 at *
  generalize Lib.join ((gnW G).drop 1) [46] = J at *
  generalize gnW G = W at *
  refine (fcr_in Tryz.func24 rfl (by simp only [Tryz.ntmps24, anys, List.length_cons, List.length_nil, Nat.reduceAdd, Nat.reduceSub, List.replicate_succ, List.replicate_zero, List.cons_append, List.nil_append] <;> rfl) ?_)
  repeat' first | apply w_seq | apply w_block | apply rb_n | apply rb_ret | apply rb_eq | refine rb_ne (by rfl) ?_ | apply w_exit | apply rt_exit | apply w_region | apply l_nil | apply rt_n | apply w_ret | apply rt_ret | apply w_skip | refine w_cond_t rfl ?_ | refine w_cond_f rfl ?_ | ((first | refine w_cnd rfl ?_ ?_ | refine w_cd rfl ?_ ?_ | refine w_cn rfl ?_ ?_ | refine w_cond rfl ?_ ?_) <;> intro hc) | (exfalso; omega) | (refine l_o ?_; first | refine l_op (hk := ?_)) | refine d_nil ?_ | (refine d_o ?_; first | refine d_fl (hk := ?_) | refine d_ef (hk := ?_)) | (refine w_o ?_; first | refine w_draw (id := 11) (fun _ => true) (fun k => [6].contains k) [[]] 64 (by kernel_rfl) rfl (by kernel_rfl) (by simp [nm, nset, -List.map_take, -List.map_drop]) ?_)
  refine w_loopm (ι := Nat × List (List UInt8)) (fun q => [(13, RVn q.1), (4, .ref 10 0 q.2.length), (10, .any), (6, .any)]) (fun q => [(10, 1, q.2.map RV.str)]) (fun q => q.1 ≤ 5 ∧ q.2 = W.take q.1) (fun q => 5 - q.1) (0, []) (h0 := ?_) (hs := ?_) (round := ?_)
  · exact ⟨Nat.zero_le _, rfl⟩
  · refine le_eq (by (repeat' first | exact .nil | refine .keep ?_ | refine .any ?_); first | done | fail) rfl rfl
  · intro ⟨k, L⟩ ⟨hk, hL⟩
    dsimp only at hk hL ⊢
    have hLl : L.length = k := by rw [hL, List.length_take]; omega
    by_cases hk2 : k < 5
    · have hxb := hb _ (List.getElem_mem (show k < G.length by omega))
      have hN := isNimQ_ok hxb
      have hIt : FCr Tryz.prog 43 [RVi (G[k]'(by omega))] (RV.str (num (G[k]'(by omega)).toNat)) := by
        have h := itoa_ok (G[k]'(by omega)).toNat (by omega)
        rwa [show RVn (G[k]'(by omega)).toNat = RVi (G[k]'(by omega)) from by rw [← Int.toNat_of_nonneg hxb.1]; simp] at h
      have hs := hwk k (by omega)
      rw [← hL] at hs
      generalize num (G[k]'(by omega)).toNat = V at *
      repeat' first | apply w_seq | apply w_block | apply rb_n | apply rb_ret | apply rb_eq | refine rb_ne (by rfl) ?_ | apply w_exit | apply rt_exit | apply w_region | apply l_nil | apply rt_n | apply w_ret | apply rt_ret | apply w_skip | refine w_cond_t rfl ?_ | refine w_cond_f rfl ?_ | ((first | refine w_cnd rfl ?_ ?_ | refine w_cd rfl ?_ ?_ | refine w_cn rfl ?_ ?_ | refine w_cond rfl ?_ ?_) <;> intro hc) | (exfalso; omega) | (refine l_o ?_; first | refine l_op rfl (by first | (apply k_callf; first | exact ops_callf (d := 22) (hfc := hIt) | exact ops_callf (hfc := hN) | fail) | fail) (hk := ?_) | refine l_op (hk := ?_)) | refine d_nil ?_ | (refine d_o ?_; first | refine d_fl (hk := ?_) | refine d_ef rfl (by first | exact .callf (d := 22) (hfc := hIt) | exact .callf (hfc := hN) | fail) (hk := ?_) | refine d_ef (hk := ?_)) | (refine w_o ?_; first | refine w_draw (id := 11) (fun _ => true) (fun k => [6].contains k) [[]] 64 (by kernel_rfl) rfl (by kernel_rfl) (by simp [nm, nset, -List.map_take, -List.map_drop]) ?_)
      refine rn_mk (k + 1, L ++ [V]) ?_ (by first | omega | (dsimp only; omega)) (le_eq (by (repeat' first | exact .nil | refine .keep ?_ | refine .any ?_); first | done | fail) rfl rfl)
      exact ⟨hk2, hs.symm⟩
    · obtain rfl : k = 5 := by omega
      rw [List.take_of_length_le (by omega)] at hL
      subst hL
      have e0 : L[0]'(by omega) = V0 := (List.getElem?_eq_some_iff.1 hw0).2
      rw [← e0] at hn0
      have hn1 : (L[Int.toNat 0]'(by show 0 < L.length; omega)).length ≤ 100 := hn0
      repeat' first | apply w_seq | apply w_block | apply rb_n | apply rb_ret | apply rb_eq | refine rb_ne (by rfl) ?_ | apply w_exit | apply rt_exit | apply w_region | apply l_nil | apply rt_n | apply w_ret | apply rt_ret | apply w_skip | refine w_cond_t rfl ?_ | refine w_cond_f rfl ?_ | ((first | refine w_cnd rfl ?_ ?_ | refine w_cd rfl ?_ ?_ | refine w_cn rfl ?_ ?_ | refine w_cond rfl ?_ ?_) <;> intro hc) | (exfalso; omega) | (refine l_o ?_; first | refine l_op rfl (by first | (apply k_slice; first | exact ops_rcutl (l := 1) rfl rfl rfl (by omega) (by simp) (by kernel_rfl) (by kernel_rfl) | fail) | (apply k_add; first | exact ops_cat rfl rfl (by simp only [List.length_append, List.length_cons, List.length_nil]; omega) | fail) | (apply k_callf; first | exact ops_callP (d := 32) 10 (L.map RV.str) (hfc := hJn) | fail) | fail) (hk := ?_) | refine l_op (hk := ?_)) | refine e_nil ?_ | (refine e_o ?_; first | refine e_fl rfl (by first | exact .pl (by first | (apply q_slice; first | exact fs_rcutl (l := 1) rfl rfl rfl rfl (by omega) (by simp) (by kernel_rfl) (by kernel_rfl) | fail) | (apply q_add; first | exact fs_cat rfl rfl (by simp only [List.length_append, List.length_cons, List.length_nil]; omega) | fail) | fail) | fail) (hk := ?_) | refine e_fl (hk := ?_) | refine e_ef rfl (by first | exact .callP (d := 32) 10 (L.map RV.str) (hfc := hJn) | fail) (hk := ?_) | refine e_ef (hk := ?_)) | (refine w_o ?_; first | refine w_drawS (id := 11) (rdP [(1,10),(2,10),(5,10)]) (fun k => [6].contains k) [[]] (by kernel_rfl) rfl (by kernel_rfl) (by simp [nm, nset, -List.map_take, -List.map_drop]) ?_)
      rw [← e0]
      refine en_end (hf := Tryz.results24) (hr := ?_); simp only [ne, nf, nl, nr, lget, reduceIte, Nat.reduceEqDiff]; first | rfl | refine congrArg RVb ?_ | refine congrArg RVi ?_ | skip
theorem sGenusText_ok (G : List Int) (hl : G.length = 5) (hb : ∀ x ∈ G, 0 ≤ x ∧ x < 100) : FCr Tryz.prog 25 [RIs G] (.tup [RV.str (gnT G), RVb true]) := by
  have hN := l17NimbersQ_ok G hl hb
  match G, hl with
  | [a, b, c, d, e], _ =>
    have hn : ∀ x ∈ [a, b, c, d, e], FCr Tryz.prog 45 [RVi x] (RV.str (num x.toNat)) ∧ (num x.toNat).length ≤ 100 := fun x hx => by
      have h := hb x hx
      obtain ⟨k, rfl⟩ : ∃ k : Nat, x = k := ⟨x.toNat, by omega⟩
      rw [Int.toNat_natCast]
      exact ⟨l1Num_nat k (by omega), num_small (by omega)⟩
    obtain ⟨n1, l1⟩ := hn a (by simp)
    obtain ⟨n2, l2⟩ := hn b (by simp)
    obtain ⟨n3, l3⟩ := hn c (by simp)
    obtain ⟨n4, l4⟩ := hn d (by simp)
    obtain ⟨n5, l5⟩ := hn e (by simp)
    have e0 : gnT [a, b, c, d, e] = num a.toNat ++ [94] ++ num b.toNat ++ [46] ++ num c.toNat ++ [46] ++ num d.toNat ++ [46] ++ num e.toNat := by
      simp [gnT, gnW, Lib.join_cons, Lib.joinTail, List.append_assoc]
    rw [e0]
    clear e0 hn hb
    generalize num a.toNat = A at *
    generalize num b.toNat = B at *
    generalize num c.toNat = C at *
    generalize num d.toNat = D at *
    generalize num e.toNat = E at *
    refine (fcr_in Tryz.func25 rfl (by simp only [Tryz.ntmps25, anys, List.length_cons, List.length_nil, Nat.reduceAdd, Nat.reduceSub, List.replicate_succ, List.replicate_zero, List.cons_append, List.nil_append] <;> rfl) ?_)
    repeat' first | apply w_seq | apply w_region | apply l_nil | apply rt_n | apply w_ret | apply rt_ret | apply w_skip | refine w_cond_t rfl ?_ | refine w_cond_f rfl ?_ | ((first | refine w_cnd rfl ?_ ?_ | refine w_cd rfl ?_ ?_ | refine w_cn rfl ?_ ?_ | refine w_cond rfl ?_ ?_) <;> intro hc) | (exfalso; exact hc rfl) | (refine l_o ?_; first | refine l_op rfl (by first | (apply k_indexAddr; first | exact ops_idx_map (l := [a, b, c, d, e]) (f := RVi) rfl rfl (by simp) (by kernel_rfl) (by kernel_rfl) | fail) | (apply k_add; first | exact ops_cat rfl rfl (by simp only [List.length_append, List.length_cons, List.length_nil]; omega) | fail) | (apply k_callf; first | exact ops_callf (d := 9) (hfc := hN) | exact ops_callf (d := 15) (hfc := n1) | exact ops_callf (d := 20) (hfc := n2) | exact ops_callf (d := 26) (hfc := n3) | exact ops_callf (d := 32) (hfc := n4) | exact ops_callf (d := 38) (hfc := n5) | fail) | fail) (hk := ?_) | refine l_op (hk := ?_) | (refine l_g ?_; first | refine l_y rfl rfl rfl ?_ | refine l_n rfl rfl rfl rfl (hk := ?_) | refine l_n' rfl rfl rfl (hk := ?_) | refine l_spnd rfl rfl rfl (h1 := fun hc => ?_) (h2 := fun hc => ?_) | refine l_spd rfl rfl rfl (h1 := fun hc => ?_) (h2 := fun hc => ?_) | refine l_spn rfl rfl rfl (h1 := fun hc => ?_) (h2 := fun hc => ?_) | refine l_sp rfl rfl rfl (h1 := fun hc => ?_) (h2 := fun hc => ?_))) | refine d_nil ?_ | (refine d_o ?_; first | refine d_fl rfl (by first | exact .pl (by first | (apply q_indexAddr; first | exact fs_idx_map (l := [a, b, c, d, e]) (f := RVi) rfl rfl (by simp) (by kernel_rfl) (by kernel_rfl) | fail) | (apply q_add; first | exact fs_cat rfl rfl (by simp only [List.length_append, List.length_cons, List.length_nil]; omega) | fail) | (apply q_callf; first | exact fs_callf (d := 15) (hfc := n1) | exact fs_callf (d := 20) (hfc := n2) | exact fs_callf (d := 26) (hfc := n3) | exact fs_callf (d := 32) (hfc := n4) | exact fs_callf (d := 38) (hfc := n5) | fail) | fail) | exact .ye rfl rfl rfl (by first | (apply q_indexAddr; first | exact fs_idx_map (l := [a, b, c, d, e]) (f := RVi) rfl rfl (by simp) (by kernel_rfl) (by kernel_rfl) | fail) | (apply q_add; first | exact fs_cat rfl rfl (by simp only [List.length_append, List.length_cons, List.length_nil]; omega) | fail) | (apply q_callf; first | exact fs_callf (d := 15) (hfc := n1) | exact fs_callf (d := 20) (hfc := n2) | exact fs_callf (d := 26) (hfc := n3) | exact fs_callf (d := 32) (hfc := n4) | exact fs_callf (d := 38) (hfc := n5) | fail) | fail) | fail) (hk := ?_) | refine d_fl (hk := ?_) | refine d_ef rfl (by first | exact .callf (d := 9) (hfc := hN) | exact .callfY (d := 9) (hfc := hN) | fail) (hk := ?_) | refine d_ef (hk := ?_) | (refine d_g ?_; first | refine d_spnd rfl rfl rfl (h1 := fun hc => ?_) (h2 := fun hc => ?_) | refine d_spd rfl rfl rfl (h1 := fun hc => ?_) (h2 := fun hc => ?_) | refine d_spn rfl rfl rfl (h1 := fun hc => ?_) (h2 := fun hc => ?_) | refine d_sp rfl rfl rfl (h1 := fun hc => ?_) (h2 := fun hc => ?_))) | (refine w_o ?_; first | refine w_draw (id := 3) (roL []) (fun k => [].contains k) [] 64 (by kernel_rfl) rfl (by kernel_rfl) (by simp [nm, nset, -List.map_take, -List.map_drop]) ?_)
    refine en_end (hf := Tryz.results25) (hr := ?_); simp only [ne, nf, nl, nr, lget, reduceIte, Nat.reduceEqDiff]; first | rfl | refine congrArg RVb ?_ | refine congrArg RVi ?_ | skip
end Go.Proofs.YtmfbcipjknjicaaGreatDoor
