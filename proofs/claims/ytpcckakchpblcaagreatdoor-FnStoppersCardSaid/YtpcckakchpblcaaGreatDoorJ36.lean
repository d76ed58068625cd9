/- HoldTable, StopAtLeast, StopSame of the reference answer as the program's. For all loops and places. -/
import Derived.Test.YtpcckakchpblcaaGreatDoorHoldS
import Derived.Test.YtpcckakchpblcaaGreatDoorJ14
import Derived.Test.YtpcckakchpblcaaGreatDoorJ21
namespace Go.Proofs.YtpcckakchpblcaaGreatDoor
open Eng
attribute [local irreducible] OpS OpG FC FCr Rel Fl Ef DR Fs
set_option linter.unusedSimpArgs false
set_option maxHeartbeats 0
set_option maxRecDepth 100000

theorem hldJ_len (gL gR hL hR : List (List Int)) : (hldJ gL gR hL hR).length = nJ gL hL := by simp [hldJ, hld]
end Go.Proofs.YtpcckakchpblcaaGreatDoor
/- Tables of who holds out of drawn loops; the law FnHoldTables answers true. For all bytes. -/
namespace Go.Proofs.YtpcckakchpblcaaGreatDoor
open Eng
attribute [local irreducible] OpS OpG FC FCr Rel Fl Ef DR Fs
attribute [local simp] RV.fzR_names
set_option linter.unusedSimpArgs false
set_option maxHeartbeats 0
set_option maxRecDepth 100000

def rAtV (code : List UInt8) (i : Nat) : Nat := if h : i < code.length then code[i].toNat else (i * 11 + 3 * code.length) % 256
theorem rAt_ok (code : List UInt8) (i : Nat) (hc : code.length ≤ 1000000) (hi : i ≤ 1000) : FCr Tryz.prog 17 [RYs code, RVn i] (RVn (rAtV code i)) := by
  by_cases h : i < code.length
  · rw [show rAtV code i = code[i].toNat from by rw [rAtV, dif_pos h]]
    refine (fcr_in Tryz.func17 rfl (by simp only [Tryz.ntmps17, anys, List.length_cons, List.length_nil, Nat.reduceAdd, Nat.reduceSub, List.replicate_succ, List.replicate_zero, List.cons_append, List.nil_append] <;> rfl) ?_)
    repeat' first
      | refine w_seq ?_
      | refine w_region ?_
      | refine l_nil ?_
      | refine rt_n ?_
      | refine w_ret ?_
      | refine rt_ret ?_
      | refine w_skip ?_
      | refine w_cond_t rfl ?_
      | refine w_cond_f rfl ?_
      | refine w_cnd rfl (fun hc => ?_) (fun hc => ?_)
      | refine w_cd rfl (fun hc => ?_) (fun hc => ?_)
      | refine w_cn rfl (fun hc => ?_) (fun hc => ?_)
      | refine w_cond rfl (fun hc => ?_) (fun hc => ?_)
      | (exfalso; omega)
      | (refine l_o ?_; first | refine l_op (hk := ?_))
    refine en_one (hf := Tryz.results17) (h := ?_); simp only [lget]; first | refine congrArg RVb ?_ | refine congrArg RVi ?_ | skip
  · rw [show rAtV code i = (i * 11 + 3 * code.length) % 256 from by rw [rAtV, dif_neg h]]
    refine (fcr_in Tryz.func17 rfl (by simp only [Tryz.ntmps17, anys, List.length_cons, List.length_nil, Nat.reduceAdd, Nat.reduceSub, List.replicate_succ, List.replicate_zero, List.cons_append, List.nil_append] <;> rfl) ?_)
    repeat' first
      | refine w_seq ?_
      | refine w_region ?_
      | refine l_nil ?_
      | refine rt_n ?_
      | refine w_ret ?_
      | refine rt_ret ?_
      | refine w_skip ?_
      | refine w_cond_t rfl ?_
      | refine w_cond_f rfl ?_
      | refine w_cnd rfl (fun hc => ?_) (fun hc => ?_)
      | refine w_cd rfl (fun hc => ?_) (fun hc => ?_)
      | refine w_cn rfl (fun hc => ?_) (fun hc => ?_)
      | refine w_cond rfl (fun hc => ?_) (fun hc => ?_)
      | (exfalso; omega)
      | (refine l_o ?_; first | refine l_op rfl (by first | (apply k_mul; first | exact ops_muln (m := i) (n := 11) rfl rfl (by omega) | exact ops_muln (m := 3) (n := code.length) rfl rfl (by omega) | fail) | (apply k_add; first | exact ops_addn (a := i * 11) (b := 3 * code.length) rfl rfl (by omega) | fail) | (apply k_rem; first | exact ops_remn (m := i * 11 + 3 * code.length) (n := 256) rfl rfl (by omega) | fail) | fail) (hk := ?_) | refine l_op (hk := ?_))
    refine en_one (hf := Tryz.results17) (h := ?_); simp only [lget]; first | refine congrArg RVb ?_ | refine congrArg RVi ?_ | skip
end Go.Proofs.YtpcckakchpblcaaGreatDoor
/- What the draws of PruneLoop's and StopAtLeast's laws give. For all bytes. -/
namespace Go.Proofs.YtpcckakchpblcaaGreatDoor
open Eng
attribute [local irreducible] OpS OpG FC FCr Rel Fl Ef DR Fs
attribute [local simp] RV.fzR_names
set_option linter.unusedSimpArgs false
set_option maxHeartbeats 0
set_option maxRecDepth 100000

theorem fillLp_len : ∀ (f : Nat) (q : Cur × List (List Int) × List (List Int)), (fillLp f q).2.1.length ≤ q.2.1.length + f
  | 0, q => by simp [fillLp]
  | f + 1, q => by
    rw [fillLp]
    split
    · have := fillLp_len f (pickC q.1 2, q.2.1 ++ [[0]], q.2.2 ++ [[]])
      simp only [List.length_append, List.length_singleton] at this
      omega
    · dsimp only; omega
theorem loose_len (c : Cur) (most : Nat) (h0 : 0 < most) : (loose c most).2.1.length ≤ most + 38 := by
  have h := (drawLp_small c most h0).2.2.1
  unfold loose
  generalize drawLp c most = q at *
  split
  · split
    · simp; omega
    · split
      · dsimp only; omega
      · split
        · simp
        · have := fillLp_len 38 (pickC (pickC (pickC q.1 12) q.2.1.length) 4, q.2)
          dsimp only at this
          omega
  · dsimp only; omega
theorem drawStp_len (c : Cur) (most : Nat) (h0 : 0 < most) (hm : most ≤ 36) : (drawStp c most).2.1.length ≤ 100 := by
  unfold drawStp
  split
  · dsimp only
    unfold nmA
    split
    · simp
    · have := readLp_len (by assumption)
      omega
  · have hl := pickV_lt (pickC c 3) most h0
    have hS := (stpTo_small (pickC (pickC c 3) most, [], []) ⟨rfl, rfl⟩ (1 + pickV (pickC c 3) most)).2.1
    generalize stpTo (pickC (pickC c 3) most, [], []) (1 + pickV (pickC c 3) most) = q at *
    split
    · have := loose_len (pickC q.1 10) 5 (by omega)
      omega
    · dsimp only; omega
end Go.Proofs.YtpcckakchpblcaaGreatDoor
/- The law FnStopOver answers true. For all bytes. -/
namespace Go.Proofs.YtpcckakchpblcaaGreatDoor
open Eng
section
variable {P : Program} {ty : TypeId} {pos : String} {after : Array Edge} {s : St} {d : Option Tmp} {g : Option (Nat × Bool)}
end
attribute [local irreducible] OpS OpG FC FCr Rel Fl Ef DR Fs
attribute [local simp] RV.fzR_names
set_option linter.unusedSimpArgs false
set_option maxHeartbeats 0
set_option maxRecDepth 100000

theorem ends_of {L R : List (List Int)} (hs : stops L R = true) : Ends L R fun v b => (dfsG L R).2.2.getD (2 * v + b) 0 := by
  have h := stops_good hs
  have gi := goodI h
  have hal := nxtOf_alt (goodN h).inside
  rw [toN_len] at hal
  have hin : In (nxtG L R) (2 * L.length) := fun a k hk => (hal a k hk).1
  have hle : ∀ k, (q0 (2 * L.length)).1.getD k 0 = 0 := fun k => getD_rep _ k
  have hle2 : ∀ k, (q0 (2 * L.length)).2.getD k 0 = 0 := fun k => getD_rep _ k
  have hi0 : Inv (nxtG L R) (2 * L.length) (q0 (2 * L.length)) := ⟨by simp [q0], by simp [q0], fun b hb => by rw [hle] at hb; omega, fun b _ => hle2 b, fun b => by rw [hle]; omega⟩
  have h1 := allD_ok hin (List.range (2 * L.length)) (q0 (2 * L.length)) (fun s hs => List.mem_range.1 hs) hi0 (fun g => by rw [hle]; omega)
  rw [show allD (nxtG L R) (2 * L.length) (List.range (2 * L.length)) (q0 (2 * L.length)) = dfsG L R from rfl] at h1
  have hd : (dfsG L R).1 = true := by
    unfold stops at hs
    simp only [Bool.and_eq_true] at hs
    exact hs.2
  rw [if_pos hd] at h1
  obtain ⟨a1, a2, _⟩ := h1
  have ht : ∀ i, i < 2 * L.length → (dfsG L R).2.2.getD i 0 = mx (dfsG L R).2.2 ((nxtG L R).getD i []) := fun i hi => (a1.bl i (a2 i (List.mem_range.2 hi))).2
  have key : ∀ i k, i < 2 * L.length → k ∈ (nxtG L R).getD i [] → (dfsG L R).2.2.getD k 0 < (dfsG L R).2.2.getD i 0 := fun i k hi hk => by rw [ht i hi]; exact mx_gt hk
  have hat : ∀ i, i < 2 * L.length → (nxtG L R).getD i [] = if i % 2 = 0 then ((toN L).getD (i / 2) []).map (fun x => 2 * x + 1) else ((toN R).getD (i / 2) []).map (fun x => 2 * x) := fun i hi => by
    show (nxtTo (toN L) (toN R) (toN L).length).getD i [] = _
    exact nxtTo_at _ _ _ _ (by rw [toN_len]; exact hi)
  refine ⟨fun v hv x hx => ?_, fun v hv x hx => ?_⟩
  · refine key (2 * v + 0) (2 * x.toNat + 1) (by omega) ?_
    rw [hat _ (by omega), if_pos (by omega), show (2 * v + 0) / 2 = v by omega, toN_gd]
    exact List.mem_map.2 ⟨x.toNat, List.mem_map.2 ⟨x, hx, rfl⟩, rfl⟩
  · refine key (2 * v + 1) (2 * x.toNat + 0) (by omega) ?_
    rw [hat _ (by omega), if_neg (by omega), show (2 * v + 1) / 2 = v by omega, toN_gd]
    exact List.mem_map.2 ⟨x.toNat, List.mem_map.2 ⟨x, hx, rfl⟩, rfl⟩
end Go.Proofs.YtpcckakchpblcaaGreatDoor
