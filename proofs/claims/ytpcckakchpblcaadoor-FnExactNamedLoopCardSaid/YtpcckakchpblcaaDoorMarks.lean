/- Lists of ints marked and looked at again, as the drawn laws do it. For all lists of the lengths that the theorem names. -/
import Derived.Test.YtpcckakchpblcaaDoorLoops
namespace Go.Proofs.YtpcckakchpblcaaDoor
open Eng
attribute [local irreducible] OpS OpG FC FCr Rel Fl Ef DR Fs
set_option linter.unusedSimpArgs false
set_option maxHeartbeats 0
set_option maxRecDepth 100000

/-- The numbers from k on, n of them. -/
def fromN (k n : Nat) : List Int := (List.range n).map fun j => ((k + j : Nat) : Int)
theorem fromN_length (k n : Nat) : (fromN k n).length = n := by simp [fromN]
/-- A list whose first i numbers are marked. -/
def markI (k : Nat) (l : List Int) (i : Nat) : List Int := fromN k i ++ l.drop i
theorem markI_length {k : Nat} {l : List Int} {i : Nat} (h : i ≤ l.length) : (markI k l i).length = l.length := by simp [markI, fromN_length]; omega
theorem markI_zero (k : Nat) (l : List Int) : markI k l 0 = l := by simp [markI, fromN]
theorem markI_all (k : Nat) (l : List Int) (i : Nat) (h : l.length ≤ i) (h2 : i ≤ l.length) : markI k l i = fromN k l.length := by
  obtain rfl : i = l.length := by omega
  simp [markI]
theorem markI_set {k : Nat} {l : List Int} {i : Nat} (h : i < l.length) : (markI k l i).set i ((k + i : Nat) : Int) = markI k l (i + 1) := by
  unfold markI
  rw [List.set_append_right _ _ (by simp [fromN_length]), fromN_length, Nat.sub_self, List.drop_eq_getElem_cons h, List.set_cons_zero]
  simp [fromN, List.range_succ]
theorem map_at {α : Type} {f : α → RV} {l : List α} {i : Nat} (h : i < l.length) : (l.map f)[i]? = some (f l[i]) := by simp [h]

theorem map_ne {α : Type} {f : α → RV} {l : List α} {i : Nat} (h : i < l.length) : l.map f ≠ [] := by
  intro e; have := congrArg List.length e; simp at this; subst this; simp at h

theorem markIntS_ok (l : List Int) (k : Nat) (h : k + l.length ≤ 1099511627776) : FC Tryd.prog 67 [.ref 1000000000000 0 l.length, RVi k] [(1000000000000, 1, l.map RVi)]
    (fun rv O => rv = RVi ((k + l.length : Nat) : Int) ∧ O = [(1000000000000, 1, (fromN k l.length).map RVi)]) := by
  refine (fc_in Tryd.func67 rfl (by simp only [Tryd.ntmps67, anys, List.length_cons, List.length_nil, Nat.reduceAdd, Nat.reduceSub, List.replicate_succ, List.replicate_zero, List.cons_append, List.nil_append] <;> rfl) ?_)
  repeat' first
    | refine w_seq ?_
    | refine w_block ?_
    | refine rb_n ?_
    | refine rb_ret ?_
    | refine rb_eq ?_
    | refine rb_ne (by rfl) ?_
    | refine w_exit ?_
    | refine rt_exit ?_
    | refine w_region ?_
    | refine l_nil ?_
    | refine rt_n ?_
    | refine w_ret ?_
    | refine rt_ret ?_
    | refine w_skip ?_
    | refine w_cond_t rfl ?_
    | refine w_cond_f rfl ?_
    | refine w_cnd rfl (fun hc => ?_) (fun hc => ?_)
    | refine w_cd rfl (fun hc => ?_) (fun hc => ?_)
    | refine w_cn rfl (fun hc => ?_) (fun hc => ?_)
    | refine w_cond rfl (fun hc => ?_) (fun hc => ?_)
    | (refine l_o ?_; first | refine l_op (hk := ?_))
  refine w_loopm (ι := Nat) (fun i => [(5, RVi i), (1, RVi ((k + i : Nat) : Int))]) (fun i => [(1000000000000, 1, (markI k l i).map RVi)]) (fun i => i ≤ l.length) (fun i => l.length - i) 0 (h0 := ?_) (hs := ?_) (round := ?_)
  · omega
  · refine le_eq ?_ rfl ?_
    · (repeat' first | exact .nil | refine .keep ?_ | refine .any ?_); first | done | fail
    · rw [markI_zero]
  · intro i hi
    have hml := markI_length (k := k) hi
    repeat' first
      | refine w_seq ?_
      | refine w_block ?_
      | refine rb_n ?_
      | refine rb_ret ?_
      | refine rb_eq ?_
      | refine rb_ne (by rfl) ?_
      | refine w_exit ?_
      | refine rt_exit ?_
      | refine w_region ?_
      | refine l_nil ?_
      | refine rt_n ?_
      | refine w_ret ?_
      | refine rt_ret ?_
      | refine w_skip ?_
      | refine w_cond_t rfl ?_
      | refine w_cond_f rfl ?_
      | refine w_cnd rfl (fun hc => ?_) (fun hc => ?_)
      | refine w_cd rfl (fun hc => ?_) (fun hc => ?_)
      | refine w_cn rfl (fun hc => ?_) (fun hc => ?_)
      | refine w_cond rfl (fun hc => ?_) (fun hc => ?_)
      | (refine l_o ?_; first | refine l_op (hk := ?_))
    · refine rn_mk (i + 1) ?_ ?_ ?_
      · first | omega | (dsimp only; omega)
      · first | omega | (dsimp only; omega)
      · refine le_eq ?_ rfl ?_
        · (repeat' first | exact .nil | refine .keep ?_ | refine .any ?_); first | done | fail
        · rw [markI_set (by omega)]
    · obtain rfl : i = l.length := by omega
      refine en_endm [] (hf := Tryd.results67) (hO := ?_) (hr := ?_)
      · rw [markI_all _ _ _ (Nat.le_refl _) (Nat.le_refl _)]; rfl
      · rfl

/-- Whether a list holds the numbers from k on. -/
def heldI (k : Nat) : List Int → Bool
  | [] => true
  | x :: xs => if x ≠ (k : Int) then false else heldI (k + 1) xs
theorem heldIntS_ok (l : List Int) (k : Nat) (h : k + l.length ≤ 1099511627776) : FCr Tryd.prog 68 [RIs l, RVi k] (RVi (if heldI k l then ((k + l.length : Nat) : Int) else -1)) := by
  refine (fcr_in Tryd.func68 rfl (by simp only [Tryd.ntmps68, anys, List.length_cons, List.length_nil, Nat.reduceAdd, Nat.reduceSub, List.replicate_succ, List.replicate_zero, List.cons_append, List.nil_append] <;> rfl) ?_)
  repeat' first
    | refine w_seq ?_
    | refine w_block ?_
    | refine rb_n ?_
    | refine rb_ret ?_
    | refine rb_eq ?_
    | refine rb_ne (by rfl) ?_
    | refine w_exit ?_
    | refine rt_exit ?_
    | refine w_region ?_
    | refine l_nil ?_
    | refine rt_n ?_
    | refine w_ret ?_
    | refine rt_ret ?_
    | refine w_skip ?_
    | refine w_cond_t rfl ?_
    | refine w_cond_f rfl ?_
    | refine w_cnd rfl (fun hc => ?_) (fun hc => ?_)
    | refine w_cd rfl (fun hc => ?_) (fun hc => ?_)
    | refine w_cn rfl (fun hc => ?_) (fun hc => ?_)
    | refine w_cond rfl (fun hc => ?_) (fun hc => ?_)
    | (refine l_o ?_; first | refine l_op (hk := ?_))
  refine w_loopm (ι := Nat) (fun i => [(5, RVi i), (1, RVi ((k + i : Nat) : Int))]) (fun _ => []) (fun i => i ≤ l.length ∧ heldI (k + i) (l.drop i) = heldI k l) (fun i => l.length - i) 0 (h0 := ?_) (hs := ?_) (round := ?_)
  · simp
  · refine le_eq (by (repeat' first | exact .nil | refine .keep ?_ | refine .any ?_); first | done | fail) rfl rfl
  · intro i ⟨hi, hg⟩
    repeat' first
      | refine w_seq ?_
      | refine w_block ?_
      | refine rb_n ?_
      | refine rb_ret ?_
      | refine rb_eq ?_
      | refine rb_ne (by rfl) ?_
      | refine w_exit ?_
      | refine rt_exit ?_
      | refine w_region ?_
      | refine l_nil ?_
      | refine rt_n ?_
      | refine w_ret ?_
      | refine rt_ret ?_
      | refine w_skip ?_
      | refine w_cond_t rfl ?_
      | refine w_cond_f rfl ?_
      | refine w_cnd rfl (fun hc => ?_) (fun hc => ?_)
      | refine w_cd rfl (fun hc => ?_) (fun hc => ?_)
      | refine w_cn rfl (fun hc => ?_) (fun hc => ?_)
      | refine w_cond rfl (fun hc => ?_) (fun hc => ?_)
      | (refine l_o ?_; first | refine l_op (hk := ?_))
    · refine en_one (hf := Tryd.results68) (h := ?_); simp only [lget]; first | refine congrArg RVb ?_ | refine congrArg RVi ?_ | skip
      grind [heldI, dc]
    · refine rn_mk (i + 1) ?_ (by first | omega | (dsimp only; omega)) (le_eq (by (repeat' first | exact .nil | refine .keep ?_ | refine .any ?_); first | done | fail) rfl rfl)
      rw [dc (by omega), heldI, if_neg hc] at hg
      exact ⟨by omega, hg⟩
    · refine en_one (hf := Tryd.results68) (h := ?_); simp only [lget]; first | refine congrArg RVb ?_ | refine congrArg RVi ?_ | skip
      rw [dn hc] at hg
      obtain rfl : i = l.length := by omega
      rw [← hg]; rfl
theorem heldI_fromN (k n : Nat) : heldI k (fromN k n) = true := by
  induction n generalizing k with
  | zero => rfl
  | succ n ih =>
    have e : fromN k (n + 1) = (k : Int) :: fromN (k + 1) n := by
      simp only [fromN, List.range_succ_eq_map, List.map_cons, List.map_map]
      congr 1
      apply List.map_congr_left
      intro j _
      simp; omega
    rw [e, heldI, if_neg (by simp)]
    exact ih (k + 1)

/-- Rows marked one behind the other, the first i of them. -/
def markR (k : Nat) : List (List Int) → Nat → List (List Int)
  | [], _ => []
  | r :: rs, 0 => r :: rs
  | r :: rs, i + 1 => fromN k r.length :: markR (k + r.length) rs i
def lens : List (List Int) → Nat → Nat
  | [], _ => 0
  | _ :: _, 0 => 0
  | r :: rs, i + 1 => r.length + lens rs i
theorem markR_length (k : Nat) (L : List (List Int)) (i : Nat) : (markR k L i).length = L.length := by
  induction L generalizing k i with
  | nil => cases i <;> rfl
  | cons r rs ih => cases i <;> simp [markR, ih]
theorem markR_zero (k : Nat) (L : List (List Int)) : markR k L 0 = L := by cases L <;> rfl
theorem lens_zero (L : List (List Int)) : lens L 0 = 0 := by cases L <;> rfl
theorem markR_at {k : Nat} {L : List (List Int)} {i : Nat} (h : i < L.length) : (markR k L i)[i]? = some L[i] := by
  induction L generalizing k i with
  | nil => simp at h
  | cons r rs ih =>
    cases i with
    | zero => rfl
    | succ i => simp [markR]; simpa using ih (k := k + r.length) (i := i) (by simpa using h)
theorem markR_set {k : Nat} {L : List (List Int)} {i : Nat} (h : i < L.length) : (markR k L i).set i (fromN (k + lens L i) L[i].length) = markR k L (i + 1) := by
  induction L generalizing k i with
  | nil => simp at h
  | cons r rs ih =>
    cases i with
    | zero => simp [markR, lens, markR_zero]
    | succ i =>
      simp only [markR, List.set_cons_succ, lens, List.getElem_cons_succ]
      rw [← ih (k := k + r.length) (i := i) (by simpa using h), Nat.add_assoc]
theorem lens_succ {L : List (List Int)} {i : Nat} (h : i < L.length) : lens L (i + 1) = lens L i + L[i].length := by
  induction L generalizing i with
  | nil => simp at h
  | cons r rs ih =>
    cases i with
    | zero => simp [lens, lens_zero]
    | succ i => simp only [lens, List.getElem_cons_succ]; have := ih (i := i) (by simpa using h); omega
theorem lens_le {L : List (List Int)} {i : Nat} (h : i ≤ L.length) : lens L i ≤ lens L L.length := by
  induction L generalizing i with
  | nil => simp [lens]
  | cons r rs ih =>
    cases i with
    | zero => simp [lens]
    | succ i => simp only [lens, List.length_cons]; have := ih (i := i) (by simpa using h); omega

theorem markIntSS_ok (L : List (List Int)) (k : Nat) (hL : L.length ≤ 1099511627776) (h : k + lens L L.length ≤ 1099511627776) : FC Tryd.prog 40 [.ref 1000000000000 0 L.length, RVi k] [(1000000000000, 1, L.map OIs)]
    (fun rv O => rv = RVi ((k + lens L L.length : Nat) : Int) ∧ O = [(1000000000000, 1, (markR k L L.length).map OIs)]) := by
  refine (fc_in Tryd.func40 rfl (by simp only [Tryd.ntmps40, anys, List.length_cons, List.length_nil, Nat.reduceAdd, Nat.reduceSub, List.replicate_succ, List.replicate_zero, List.cons_append, List.nil_append] <;> rfl) ?_)
  repeat' first
    | refine w_seq ?_
    | refine w_block ?_
    | refine rb_n ?_
    | refine rb_ret ?_
    | refine rb_eq ?_
    | refine rb_ne (by rfl) ?_
    | refine w_exit ?_
    | refine rt_exit ?_
    | refine w_region ?_
    | refine l_nil ?_
    | refine rt_n ?_
    | refine w_ret ?_
    | refine rt_ret ?_
    | refine w_skip ?_
    | refine w_cond_t rfl ?_
    | refine w_cond_f rfl ?_
    | refine w_cnd rfl (fun hc => ?_) (fun hc => ?_)
    | refine w_cd rfl (fun hc => ?_) (fun hc => ?_)
    | refine w_cn rfl (fun hc => ?_) (fun hc => ?_)
    | refine w_cond rfl (fun hc => ?_) (fun hc => ?_)
    | (refine l_o ?_; first | refine l_op (hk := ?_))
  refine w_loopm (ι := Nat) (fun i => [(5, RVi i), (1, RVi ((k + lens L i : Nat) : Int))]) (fun i => [(1000000000000, 1, (markR k L i).map OIs)]) (fun i => i ≤ L.length) (fun i => L.length - i) 0 (h0 := ?_) (hs := ?_) (round := ?_)
  · omega
  · rw [lens_zero]
    refine le_eq ?_ rfl ?_
    · (repeat' first | exact .nil | refine .keep ?_ | refine .any ?_); first | done | fail
    · rw [markR_zero]
  · intro i hi
    have hml := markR_length k L i
    have hb := lens_le hi
    repeat' first
      | refine w_seq ?_
      | refine w_block ?_
      | refine rb_n ?_
      | refine rb_ret ?_
      | refine rb_eq ?_
      | refine rb_ne (by rfl) ?_
      | refine w_exit ?_
      | refine rt_exit ?_
      | refine w_region ?_
      | refine l_nil ?_
      | refine rt_n ?_
      | refine w_ret ?_
      | refine rt_ret ?_
      | refine w_skip ?_
      | refine w_cond_t rfl ?_
      | refine w_cond_f rfl ?_
      | refine w_cnd rfl (fun hc => ?_) (fun hc => ?_)
      | refine w_cd rfl (fun hc => ?_) (fun hc => ?_)
      | refine w_cn rfl (fun hc => ?_) (fun hc => ?_)
      | refine w_cond rfl (fun hc => ?_) (fun hc => ?_)
      | (refine l_o ?_; first | refine l_op rfl (by first | (apply k_load; first | exact ops_load_own rfl rfl (by rw [List.getElem?_map, markR_at (by omega)]; rfl) rfl (by decide +kernel) (by simp [nm]) (by simp [nm]) | fail) | (apply k_callf; first | exact ops_callm1 15 ((fromN (k + lens L i) L[i].length).map RVi) rfl rfl rfl (by kernel_rfl) (markIntS_ok L[i] (k + lens L i) (by have := lens_succ (L := L) (i := i) (by omega); have := lens_le (L := L) (i := i + 1) (by omega); omega)) (by simp [nm]) (by simp [nm]) (by simp [ns]) (by simp [RV.resOkT, RV.resOk, RV.isAgg, nm]) (by simp [ns]) (by simp [nz, nm]) (by simp [nz, nm]) | fail) | fail) (hk := ?_) | refine l_op (hk := ?_))
    · refine rn_mk (i + 1) ?_ ?_ ?_
      · first | omega | (dsimp only; omega)
      · first | omega | (dsimp only; omega)
      · rw [lens_succ (by omega), ← Nat.add_assoc]
        refine le_trans (le_seal 1000000000000 i 0 15 rfl (List.getElem?_set_self (by rw [List.length_map]; omega)) rfl rfl (by simp [fromN_length]) (namesL_map0 _ _ fun _ => rfl) (by decide) rfl rfl) (le_eq ?_ rfl ?_)
        · (repeat' first | exact .nil | refine .keep ?_ | refine .any ?_); first | done | fail
        · simp only [oset, oerase, reduceIte, Nat.reduceEqDiff, RV.setCell]
          rw [List.set_set, ← markR_set (by omega), List.map_set]
    · obtain rfl : i = L.length := by omega
      refine en_endm [] (hf := Tryd.results40) (hO := ?_) (hr := ?_)
      · rfl
      · rfl

/-- Whether rows hold the numbers from k on. -/
def heldR (k : Nat) : List (List Int) → Bool
  | [] => true
  | r :: rs => if heldI k r = false then false else heldR (k + r.length) rs
theorem heldIntSS_ok (L : List (List Int)) (k : Nat) (hL : L.length ≤ 1099511627776) (h : k + lens L L.length ≤ 1099511627776) : FCr Tryd.prog 41 [RIss L, RVi k] (RVi (if heldR k L then ((k + lens L L.length : Nat) : Int) else -1)) := by
  refine (fcr_in Tryd.func41 rfl (by simp only [Tryd.ntmps41, anys, List.length_cons, List.length_nil, Nat.reduceAdd, Nat.reduceSub, List.replicate_succ, List.replicate_zero, List.cons_append, List.nil_append] <;> rfl) ?_)
  repeat' first
    | refine w_seq ?_
    | refine w_block ?_
    | refine rb_n ?_
    | refine rb_ret ?_
    | refine rb_eq ?_
    | refine rb_ne (by rfl) ?_
    | refine w_exit ?_
    | refine rt_exit ?_
    | refine w_region ?_
    | refine l_nil ?_
    | refine rt_n ?_
    | refine w_ret ?_
    | refine rt_ret ?_
    | refine w_skip ?_
    | refine w_cond_t rfl ?_
    | refine w_cond_f rfl ?_
    | refine w_cnd rfl (fun hc => ?_) (fun hc => ?_)
    | refine w_cd rfl (fun hc => ?_) (fun hc => ?_)
    | refine w_cn rfl (fun hc => ?_) (fun hc => ?_)
    | refine w_cond rfl (fun hc => ?_) (fun hc => ?_)
    | (refine l_o ?_; first | refine l_op (hk := ?_))
  refine w_loopm (ι := Nat) (fun i => [(5, RVi i), (1, RVi ((k + lens L i : Nat) : Int))]) (fun _ => []) (fun i => i ≤ L.length ∧ heldR (k + lens L i) (L.drop i) = heldR k L) (fun i => L.length - i) 0 (h0 := ?_) (hs := ?_) (round := ?_)
  · simp [lens_zero]
  · rw [lens_zero]
    refine le_eq (by (repeat' first | exact .nil | refine .keep ?_ | refine .any ?_); first | done | fail) rfl rfl
  · intro i ⟨hi, hg⟩
    have hb := lens_le hi
    repeat' first
      | refine w_seq ?_
      | refine w_block ?_
      | refine rb_n ?_
      | refine rb_ret ?_
      | refine rb_eq ?_
      | refine rb_ne (by rfl) ?_
      | refine w_exit ?_
      | refine rt_exit ?_
      | refine w_region ?_
      | refine l_nil ?_
      | refine rt_n ?_
      | refine w_ret ?_
      | refine rt_ret ?_
      | refine w_skip ?_
      | refine w_cond_t rfl ?_
      | refine w_cond_f rfl ?_
      | refine w_cnd rfl (fun hc => ?_) (fun hc => ?_)
      | refine w_cd rfl (fun hc => ?_) (fun hc => ?_)
      | refine w_cn rfl (fun hc => ?_) (fun hc => ?_)
      | refine w_cond rfl (fun hc => ?_) (fun hc => ?_)
      | (refine l_o ?_; first | refine l_op rfl (by first | (apply k_callf; first | exact ops_callf (hfc := heldIntS_ok L[i] (k + lens L i) (by have := lens_succ (L := L) (i := i) (by omega); have := lens_le (L := L) (i := i + 1) (by omega); omega)) | fail) | fail) (hk := ?_) | refine l_op (hk := ?_))
    · refine en_one (hf := Tryd.results41) (h := ?_); simp only [lget]; first | refine congrArg RVb ?_ | refine congrArg RVi ?_ | skip
      rw [dc (by omega), heldR] at hg
      have h1 : heldI (k + lens L i) L[i] = false := by
        cases hh : heldI (k + lens L i) L[i] with
        | false => rfl
        | true => rw [hh, if_pos rfl] at hc; omega
      rw [if_pos h1] at hg
      rw [← hg]; rfl
    · rw [dc (by omega), heldR] at hg
      have h1 : heldI (k + lens L i) L[i] = true := by
        cases hh : heldI (k + lens L i) L[i] with
        | true => rfl
        | false => rw [hh] at hc; simp at hc
      rw [if_neg (by rw [h1]; simp)] at hg
      simp only [h1, if_true]
      have hs := lens_succ (L := L) (i := i) (by omega)
      refine rn_mk (i + 1) ?_ ?_ ?_
      · exact ⟨by first | omega | (dsimp only; omega), by rw [hs, ← Nat.add_assoc]; exact hg⟩
      · first | omega | (dsimp only; omega)
      · rw [hs, ← Nat.add_assoc]
        refine le_eq (by (repeat' first | exact .nil | refine .keep ?_ | refine .any ?_); first | done | fail) rfl rfl
    · rw [dn hc] at hg
      obtain rfl : i = L.length := by omega
      refine en_one (hf := Tryd.results41) (h := ?_); simp only [lget]; first | refine congrArg RVb ?_ | refine congrArg RVi ?_ | skip
      rw [← hg]; rfl

theorem markLoop_ok (L R : List (List Int)) (k : Nat) (hL : L.length ≤ 1099511627776) (hR : R.length ≤ 1099511627776) (h : k + lens L L.length + lens R R.length ≤ 1099511627776) :
    FC Tryd.prog 14 [.agg [.ref 1000000000000 0 L.length, .ref 1000000000001 0 R.length], RVi k] [(1000000000000, 1, L.map OIs), (1000000000001, 1, R.map OIs)]
    (fun rv O => rv = RVi ((k + lens L L.length + lens R R.length : Nat) : Int) ∧ O = [(1000000000000, 1, (markR k L L.length).map OIs), (1000000000001, 1, (markR (k + lens L L.length) R R.length).map OIs)]) := by
  refine (fc_in Tryd.func14 rfl (by simp only [Tryd.ntmps14, anys, List.length_cons, List.length_nil, Nat.reduceAdd, Nat.reduceSub, List.replicate_succ, List.replicate_zero, List.cons_append, List.nil_append] <;> rfl) ?_)
  repeat' first
    | refine w_seq ?_
    | refine w_region ?_
    | refine l_nil ?_
    | refine rt_n ?_
    | refine w_ret ?_
    | refine rt_ret ?_
    | refine w_skip ?_
    | (refine l_o ?_; first | refine l_op rfl (by first | (apply k_callf; first | exact ops_callm1 1000000000000 ((markR k L L.length).map OIs) rfl rfl rfl (by kernel_rfl) (markIntSS_ok L k hL (by omega)) (by simp [nm]) (by simp [nm]) (by simp [ns]) (by simp [RV.resOkT, RV.resOk, RV.isAgg, nm]) (by simp [ns]) (by simp [nz, nm]) (by simp [nz, nm]) | exact ops_callm1 1000000000001 ((markR (k + lens L L.length) R R.length).map OIs) rfl rfl rfl (by kernel_rfl) (markIntSS_ok R (k + lens L L.length) hR (by omega)) (by simp [nm]) (by simp [nm]) (by simp [ns]) (by simp [RV.resOkT, RV.resOk, RV.isAgg, nm]) (by simp [ns]) (by simp [nz, nm]) (by simp [nz, nm]) | fail) | fail) (hk := ?_) | refine l_op (hk := ?_))
  refine en_endm ([(2, 2, [.agg [.ref 1000000000000 0 L.length, .ref 1000000000001 0 R.length]])]) (hf := Tryd.results14) (hO := ?_) (hr := ?_)
  · rfl
  · rfl

/-- Whether a loop's lists hold the numbers from k on. -/
def heldLp (k : Nat) (L R : List (List Int)) : Bool := heldR k L && heldR (k + lens L L.length) R
theorem heldLoop_ok (L R : List (List Int)) (k : Nat) (hL : L.length ≤ 1099511627776) (hR : R.length ≤ 1099511627776) (h : k + lens L L.length + lens R R.length ≤ 1099511627776) :
    FCr Tryd.prog 15 [RLp L R, RVi k] (RVi (if heldLp k L R then ((k + lens L L.length + lens R R.length : Nat) : Int) else -1)) := by
  cases hh : heldR k L with
  | false =>
    refine (fcr_in Tryd.func15 rfl (by simp only [Tryd.ntmps15, anys, List.length_cons, List.length_nil, Nat.reduceAdd, Nat.reduceSub, List.replicate_succ, List.replicate_zero, List.cons_append, List.nil_append] <;> rfl) ?_)
    repeat' first
      | refine w_seq ?_
      | refine w_region ?_
      | refine l_nil ?_
      | refine rt_n ?_
      | refine w_ret ?_
      | refine rt_ret ?_
      | refine w_skip ?_
      | refine w_cond_t rfl ?_
      | refine w_cond_f rfl ?_
      | refine w_cnd rfl (fun hc => ?_) (fun hc => ?_)
      | refine w_cd rfl (fun hc => ?_) (fun hc => ?_)
      | refine w_cn rfl (fun hc => ?_) (fun hc => ?_)
      | refine w_cond rfl (fun hc => ?_) (fun hc => ?_)
      | (refine l_o ?_; first | refine l_op rfl (by first | (apply k_callf; first | exact ops_callf (hfc := hh ▸ heldIntSS_ok L k hL (by omega)) | fail) | fail) (hk := ?_) | refine l_op (hk := ?_))
    · refine en_one (hf := Tryd.results15) (h := ?_); simp only [lget]; first | refine congrArg RVb ?_ | refine congrArg RVi ?_ | skip
      simp [heldLp, hh]
  | true =>
    refine (fcr_in Tryd.func15 rfl (by simp only [Tryd.ntmps15, anys, List.length_cons, List.length_nil, Nat.reduceAdd, Nat.reduceSub, List.replicate_succ, List.replicate_zero, List.cons_append, List.nil_append] <;> rfl) ?_)
    repeat' first
      | refine w_seq ?_
      | refine w_region ?_
      | refine l_nil ?_
      | refine rt_n ?_
      | refine w_ret ?_
      | refine rt_ret ?_
      | refine w_skip ?_
      | refine w_cond_t rfl ?_
      | refine w_cond_f rfl ?_
      | refine w_cnd rfl (fun hc => ?_) (fun hc => ?_)
      | refine w_cd rfl (fun hc => ?_) (fun hc => ?_)
      | refine w_cn rfl (fun hc => ?_) (fun hc => ?_)
      | refine w_cond rfl (fun hc => ?_) (fun hc => ?_)
      | (refine l_o ?_; first | refine l_op rfl (by first | (apply k_callf; first | exact ops_callf (hfc := hh ▸ heldIntSS_ok L k hL (by omega)) | exact ops_callf (hfc := heldIntSS_ok R (k + lens L L.length) hR (by omega)) | fail) | fail) (hk := ?_) | refine l_op (hk := ?_))
    · refine en_one (hf := Tryd.results15) (h := ?_); simp only [lget]; first | refine congrArg RVb ?_ | refine congrArg RVi ?_ | skip
      grind [heldLp]
    · refine en_one (hf := Tryd.results15) (h := ?_); simp only [lget]; first | refine congrArg RVb ?_ | refine congrArg RVi ?_ | skip
      grind [heldLp]
theorem lens_szSS (l : List (List Int)) (left : Int) (h0 : 0 ≤ left) (h : 0 ≤ szSS l left) : (lens l l.length : Int) + szSS l left = left := by
  induction l generalizing left with
  | nil => simp [lens, szSS]
  | cons r rs ih =>
    simp only [szSS] at h ⊢
    split at h
    · omega
    · rename_i hh
      rw [if_neg hh]
      have := ih (left - r.length) (by omega) h
      simp only [lens, List.length_cons]
      omega
theorem lens_szLp {L R : List (List Int)} {left : Int} (h : 0 ≤ szLp L R left) : (lens L L.length : Int) + lens R R.length ≤ left := by
  unfold szLp at h
  split at h
  · omega
  · split at h
    · omega
    · rename_i h1 h2
      have hl1 : ¬ left - L.length < 0 := by
        intro hh
        rw [szSSr, if_pos hh] at h1
        omega
      have e1 : szSSr L left = szSS L (left - L.length) := by rw [szSSr, if_neg hl1]
      have hl2 : ¬ szSSr L left - R.length < 0 := by
        intro hh
        have : szSSr R (szSSr L left) = -1 := by rw [szSSr, if_pos hh]
        omega
      have e2 : szSSr R (szSSr L left) = szSS R (szSSr L left - R.length) := by rw [szSSr, if_neg hl2]
      have h3 := lens_szSS L (left - L.length) (by omega) (by rw [← e1]; omega)
      have h4 := lens_szSS R (szSSr L left - R.length) (by omega) (by rw [← e2]; omega)
      rw [← e1] at h3
      rw [← e2] at h4
      omega
theorem markR_all (k : Nat) (L : List (List Int)) : lens (markR k L L.length) (markR k L L.length).length = lens L L.length ∧ heldR k (markR k L L.length) = true := by
  induction L generalizing k with
  | nil => exact ⟨rfl, rfl⟩
  | cons r rs ih =>
    have h := ih (k + r.length)
    simp only [List.length_cons, markR, lens, fromN_length, heldR, heldI_fromN]
    exact ⟨by omega, by simpa using h.2⟩
theorem heldLp_marked (k : Nat) (L R : List (List Int)) : heldLp k (markR k L L.length) (markR (k + lens L L.length) R R.length) = true := by
  simp only [heldLp, (markR_all k L).1, (markR_all k L).2, (markR_all (k + lens L L.length) R).2, Bool.and_self]
theorem lens_le_mul (L : List (List Int)) (n : Nat) (h : ∀ r ∈ L, r.length ≤ n) : lens L L.length ≤ L.length * n := by
  induction L with
  | nil => simp [lens]
  | cons r rs ih =>
    have := ih fun r hr => h r (by simp [hr])
    have := h r (by simp)
    simp only [lens, List.length_cons, Nat.add_mul]
    omega
theorem szLp_le (L R : List (List Int)) {left : Int} (h0 : 0 ≤ left) : szLp L R left ≤ left := by
  have a := szSSr_le L left
  have b := szSSr_le R (szSSr L left)
  unfold szLp
  split
  · omega
  · split <;> omega
end Go.Proofs.YtpcckakchpblcaaDoor
