/- The law FnAlikeHeaps answers true. For all bytes. -/
import Derived.Test.YtmfbcipjknjicaaGreatAlk
import Derived.Test.YtmfbcipjknjicaaGreatDrawA
import Derived.Test.YtmfbcipjknjicaaGreatEd
import Derived.Test.YtmfbcipjknjicaaGreatJ47
import Derived.Test.YtmfbcipjknjicaaGreatJ6
namespace Go.Proofs.YtmfbcipjknjicaaGreat
open Eng
attribute [local irreducible] OpS OpG FC FCr Rel Fl Ef DR Fs
attribute [local simp] RV.fzR_names
set_option linter.unusedSimpArgs false
set_option linter.unusedVariables false
set_option maxHeartbeats 0
set_option maxRecDepth 100000

/-- The first sign of all tells whether the mover wins. -/
theorem sgnB_head {c : List Int} {s m : Nat} {x y : List Int} (hx : ghp x = true) (hy : ghp y = true) (h : sgnB c s m x = sgnB c s m y) : decide (mv c (fillH x) 0 0 ≠ 0) = decide (mv c (fillH y) 0 0 ≠ 0) := by
  have et : ∀ z : List Int, ghp z = true → togH z [] = fillH z := fun z hz => by
    simp only [ghp, Bool.and_eq_true, decide_eq_true_eq] at hz
    have h2 := (ghpF_pos hz.2).2
    unfold togH
    rw [List.append_nil]
    exact (srtI_of (List.Perm.refl _) (h2.filter _)).symm
  obtain ⟨r, hr⟩ := posB_zero s m
  unfold sgnB sgnP at h
  rw [hr, List.map_cons, List.map_cons, et x hx, et y hy] at h
  exact (List.cons.inj h).1
theorem alkR_ok (c : List Int) (s m : Int) (x y : List Int) : ∃ v o, alkR c s m x y = .tup [RVb v, RVb o] := by
  unfold alkR
  split
  · exact ⟨_, _, rfl⟩
  · exact ⟨_, _, rfl⟩
theorem alkR_both {c : List Int} {s m : Int} {x y z : List Int} {v w o p : Bool} (hs : alkB c s m x y = true) (h1 : alkR c s m x z = .tup [RVb v, RVb o]) (h2 : alkR c s m y z = .tup [RVb w, RVb p]) (ho : o = true) (hp : p = true) : v = w := by
  subst ho; subst hp
  unfold alkR at h1 h2
  split at h1
  · split at h2
    · injection h1 with h1; injection h2 with h2
      have e1 : alkB c s m x z = v := by simpa [RVb] using h1
      have e2 : alkB c s m y z = w := by simpa [RVb] using h2
      unfold alkB at hs e1 e2
      rw [← e1, ← e2, of_decide_eq_true hs]
    · simp [RVb] at h2
  · simp [RVb] at h1
theorem lawAlk_ok (code : List UInt8) : FCr Tryz.prog 3 [RYs code] (RVb true) := by
  have hB := rBigQ_ok code
  have hD := drawAH_ok code
  have hD2 := drawAH_ok (cutN 3 code)
  by_cases hbig : (65536 : Int) < (code.length : Nat)
  · rw [decide_eq_true hbig] at hB
    refine (fcr_in Tryz.func3 rfl (by simp only [Tryz.ntmps3, anys, List.length_cons, List.length_nil, Nat.reduceAdd, Nat.reduceSub, List.replicate_succ, List.replicate_zero, List.cons_append, List.nil_append] <;> rfl) ?_)
    repeat' first
      | refine w_seq ?_
      | refine w_region ?_
      | refine l_nil ?_
      | refine rt_n ?_
      | refine w_ret ?_
      | refine rt_ret ?_
      | refine w_skip ?_
      | refine w_cond_t rfl ?_
      | refine w_cond_f rfl ?_
      | refine w_cnd rfl (fun hc => ?_) (fun hc => ?_)
      | refine w_cd rfl (fun hc => ?_) (fun hc => ?_)
      | refine w_cn rfl (fun hc => ?_) (fun hc => ?_)
      | refine w_cond rfl (fun hc => ?_) (fun hc => ?_)
      | (refine l_o ?_; first | refine l_eqnil rfl (by kernel_rfl) (by intro b; simp only [nz]; rfl) (fun b hb => ?_) | refine l_op rfl (by first | (apply k_callf; first | exact ops_callf (hfc := hB) | fail) | fail) (hk := ?_) | refine l_op (hk := ?_) | (refine l_g ?_; first | refine l_y rfl rfl rfl ?_ | refine l_n rfl rfl rfl rfl (hk := ?_) | refine l_n' rfl rfl rfl (hk := ?_) | refine l_spnd rfl rfl rfl (h1 := fun hc => ?_) (h2 := fun hc => ?_) | refine l_spd rfl rfl rfl (h1 := fun hc => ?_) (h2 := fun hc => ?_) | refine l_spn rfl rfl rfl (h1 := fun hc => ?_) (h2 := fun hc => ?_) | refine l_sp rfl rfl rfl (h1 := fun hc => ?_) (h2 := fun hc => ?_)))
    refine en_one (hf := Tryz.results3) (h := ?_); simp only [lget]; first | refine congrArg RVb ?_ | refine congrArg RVi ?_ | skip
  rw [decide_eq_false hbig] at hB
  have hC := rCutN_ok 3 rfl code (by omega)
  refine (fcr_in Tryz.func3 rfl (by simp only [Tryz.ntmps3, anys, List.length_cons, List.length_nil, Nat.reduceAdd, Nat.reduceSub, List.replicate_succ, List.replicate_zero, List.cons_append, List.nil_append] <;> rfl) ?_)
  repeat' first
    | refine w_seq ?_
    | refine w_region ?_
    | refine l_nil ?_
    | refine rt_n ?_
    | refine w_ret ?_
    | refine rt_ret ?_
    | refine w_skip ?_
    | refine w_cond_t rfl ?_
    | refine w_cond_f rfl ?_
    | refine w_cnd rfl (fun hc => ?_) (fun hc => ?_)
    | refine w_cd rfl (fun hc => ?_) (fun hc => ?_)
    | refine w_cn rfl (fun hc => ?_) (fun hc => ?_)
    | refine w_cond rfl (fun hc => ?_) (fun hc => ?_)
    | (refine l_o ?_; first | refine l_eqnil rfl (by kernel_rfl) (by intro b; simp only [nz]; rfl) (fun b hb => ?_) | refine l_op rfl (by first | (apply k_callf; first | exact ops_callf (hfc := hB) | fail) | fail) (hk := ?_) | refine l_op (hk := ?_) | (refine l_g ?_; first | refine l_y rfl rfl rfl ?_ | refine l_n rfl rfl rfl rfl (hk := ?_) | refine l_n' rfl rfl rfl (hk := ?_) | refine l_spnd rfl rfl rfl (h1 := fun hc => ?_) (h2 := fun hc => ?_) | refine l_spd rfl rfl rfl (h1 := fun hc => ?_) (h2 := fun hc => ?_) | refine l_spn rfl rfl rfl (h1 := fun hc => ?_) (h2 := fun hc => ?_) | refine l_sp rfl rfl rfl (h1 := fun hc => ?_) (h2 := fun hc => ?_)))
  refine l_callX _ _ hD (hk := fun x hx => ?_)
  obtain ⟨⟨c, s, m⟩, x, y⟩ := x
  obtain ⟨hcl, hxl, hyl⟩ := hx
  dsimp only at hcl hxl hyl ⊢
  refine l_le _ (le_freeze 1031 rfl (by simp only [nz, nf, nl, nb, nr, ng, nq, nu, reduceIte, Nat.reduceEqDiff, Nat.reduceAdd]; rfl) (by simp only [nz, nf, nl, nb, nr, ng, nq, nu, reduceIte, Nat.reduceEqDiff, Nat.reduceAdd]; rfl)) ?_
  have hI := alike_ok c s m x y (by omega) (by omega) (by omega)
  have hS := sAlike_ok c s m x y (by omega) (by omega) (by omega)
  by_cases hA : (admB c s m x && admB c s m y) = true
  · have hJ := alike_ok c s m y x (by omega) (by omega) (by omega)
    have hK := alike_ok c s m x x (by omega) (by omega) (by omega)
    have hW := misereWins_ok c x (by omega) (by omega)
    have hV := misereWins_ok c y (by omega) (by omega)
    have hX := fun z (hz : z.length ≤ 60) => alike_ok c s m x z (by omega) (by omega) (by omega)
    have hY := fun z (hz : z.length ≤ 60) => alike_ok c s m y z (by omega) (by omega) (by omega)
    have h1 := hA
    rw [Bool.and_eq_true] at h1
    obtain ⟨a1, a2⟩ := h1
    have g1 : (gcode c && ghp x && decide (x.sum ≤ 20)) = true := by
      obtain ⟨a, b, _, _, _, _, _, _, _, hg, hok⟩ := admB_nat a1
      rw [hg, hok.1, decide_eq_true (by have := hok.2; omega)]; rfl
    have g2 : (gcode c && ghp y && decide (y.sum ≤ 20)) = true := by
      obtain ⟨a, b, _, _, _, _, _, _, _, hg, hok⟩ := admB_nat a2
      rw [hg, hok.1, decide_eq_true (by have := hok.2; omega)]; rfl
    rw [g1] at hW
    rw [g2] at hV
    simp only [Bool.and_eq_true] at g1 g2
    have hpq : alkB c s m x y = true → decide (mv c (fillH x) 0 0 ≠ 0) = decide (mv c (fillH y) 0 0 ≠ 0) := fun h => sgnB_head g1.1.2 g2.1.2 (of_decide_eq_true h)
    have hyx : alkB c s m y x = alkB c s m x y := by
      unfold alkB
      rw [decide_eq_decide]
      exact eq_comm
    have hxx : alkB c s m x x = true := decide_eq_true rfl
    have hz := fun z v w o p => alkR_both (c := c) (s := s) (m := m) (x := x) (y := y) (z := z) (v := v) (w := w) (o := o) (p := p)
    have e1 : alkR c s m x y = .tup [RVb (alkB c s m x y), RVb true] := by unfold alkR; rw [hA]; rfl
    have e2 : alkR c s m y x = .tup [RVb (alkB c s m y x), RVb true] := by unfold alkR; rw [a1, a2]; rfl
    have e3 : alkR c s m x x = .tup [RVb (alkB c s m x x), RVb true] := by unfold alkR; rw [a1]; rfl
    rw [e1] at hI hS
    rw [e2, hyx] at hJ
    rw [e3, hxx] at hK
    simp only [reduceIte] at hW hV
    generalize alkB c s m x y = sm at *
    generalize decide (mv c (fillH x) 0 0 ≠ 0) = p at *
    generalize decide (mv c (fillH y) 0 0 ≠ 0) = q at *
    clear e1 e2 e3
    rcases (show sm = false ∨ (sm = true ∧ p = true ∧ q = true) ∨ (sm = true ∧ p = false ∧ q = false) by cases sm <;> cases p <;> cases q <;> simp_all) with rfl | ⟨rfl, rfl, rfl⟩ | ⟨rfl, rfl, rfl⟩
    all_goals
      repeat' first
        | refine w_seq ?_
        | refine w_region ?_
        | refine l_nil ?_
        | refine rt_n ?_
        | refine w_ret ?_
        | refine rt_ret ?_
        | refine w_skip ?_
        | refine w_cond_t rfl ?_
        | refine w_cond_f rfl ?_
        | refine w_cnd rfl (fun hc => ?_) (fun hc => ?_)
        | refine w_cd rfl (fun hc => ?_) (fun hc => ?_)
        | refine w_cn rfl (fun hc => ?_) (fun hc => ?_)
        | refine w_cond rfl (fun hc => ?_) (fun hc => ?_)
        | (exfalso; exact hc rfl)
        | (refine l_o ?_; first | refine l_eqnil rfl (by kernel_rfl) (by intro b; simp only [nz]; rfl) (fun b hb => ?_) | refine l_op rfl (by first | (apply k_callf; first | exact ops_callf (d := 41) (hfc := hI) | exact ops_callf (d := 49) (hfc := hS) | exact ops_callf (d := 67) (hfc := hJ) | exact ops_callf (d := 75) (hfc := hK) | exact ops_callf (d := 81) (hfc := hW) | exact ops_callf (d := 87) (hfc := hV) | exact ops_callf (d := 123) (hfc := hC) | fail) | fail) (hk := ?_) | refine l_op (hk := ?_) | (refine l_g ?_; first | refine l_y rfl rfl rfl ?_ | refine l_n rfl rfl rfl rfl (hk := ?_) | refine l_n' rfl rfl rfl (hk := ?_) | refine l_spnd rfl rfl rfl (h1 := fun hc => ?_) (h2 := fun hc => ?_) | refine l_spd rfl rfl rfl (h1 := fun hc => ?_) (h2 := fun hc => ?_) | refine l_spn rfl rfl rfl (h1 := fun hc => ?_) (h2 := fun hc => ?_) | refine l_sp rfl rfl rfl (h1 := fun hc => ?_) (h2 := fun hc => ?_)))
      refine l_callX _ _ hD2 (hk := fun x hx => ?_)
      obtain ⟨⟨c', s', m'⟩, z, y'⟩ := x
      obtain ⟨_, hzl, _⟩ := hx
      dsimp only at hzl ⊢
      have hXZ := hX z hzl
      have hYZ := hY z hzl
      obtain ⟨v, o, ev⟩ := alkR_ok c s m x z
      obtain ⟨w, p, ew⟩ := alkR_ok c s m y z
      rw [ev] at hXZ
      rw [ew] at hYZ
      have hvw := fun h => hz z v w o p h ev ew
      clear ev ew
      cases o <;> cases p <;> cases v <;> cases w
      all_goals try (exact absurd (hvw rfl rfl rfl) (by decide))
      all_goals
        repeat' first
          | refine w_seq ?_
          | refine w_region ?_
          | refine l_nil ?_
          | refine rt_n ?_
          | refine w_ret ?_
          | refine rt_ret ?_
          | refine w_skip ?_
          | refine w_cond_t rfl ?_
          | refine w_cond_f rfl ?_
          | refine w_cnd rfl (fun hc => ?_) (fun hc => ?_)
          | refine w_cd rfl (fun hc => ?_) (fun hc => ?_)
          | refine w_cn rfl (fun hc => ?_) (fun hc => ?_)
          | refine w_cond rfl (fun hc => ?_) (fun hc => ?_)
          | (exfalso; exact hc rfl)
          | (refine l_o ?_; first | refine l_eqnil rfl (by kernel_rfl) (by intro b; simp only [nz]; rfl) (fun b hb => ?_) | refine l_op rfl (by first | (apply k_callf; first | exact ops_callf (d := 134) (hfc := hXZ) | exact ops_callf (d := 142) (hfc := hYZ) | fail) | fail) (hk := ?_) | refine l_op (hk := ?_) | (refine l_g ?_; first | refine l_y rfl rfl rfl ?_ | refine l_n rfl rfl rfl rfl (hk := ?_) | refine l_n' rfl rfl rfl (hk := ?_) | refine l_spnd rfl rfl rfl (h1 := fun hc => ?_) (h2 := fun hc => ?_) | refine l_spd rfl rfl rfl (h1 := fun hc => ?_) (h2 := fun hc => ?_) | refine l_spn rfl rfl rfl (h1 := fun hc => ?_) (h2 := fun hc => ?_) | refine l_sp rfl rfl rfl (h1 := fun hc => ?_) (h2 := fun hc => ?_)))
        refine en_one (hf := Tryz.results3) (h := ?_); simp only [lget]; first | refine congrArg RVb ?_ | refine congrArg RVi ?_ | skip
        try rfl
  · rw [Bool.not_eq_true] at hA
    have e1 : alkR c s m x y = .tup [RVb false, RVb false] := by unfold alkR; rw [hA]; rfl
    rw [e1] at hI hS
    repeat' first
      | refine w_seq ?_
      | refine w_region ?_
      | refine l_nil ?_
      | refine rt_n ?_
      | refine w_ret ?_
      | refine rt_ret ?_
      | refine w_skip ?_
      | refine w_cond_t rfl ?_
      | refine w_cond_f rfl ?_
      | refine w_cnd rfl (fun hc => ?_) (fun hc => ?_)
      | refine w_cd rfl (fun hc => ?_) (fun hc => ?_)
      | refine w_cn rfl (fun hc => ?_) (fun hc => ?_)
      | refine w_cond rfl (fun hc => ?_) (fun hc => ?_)
      | (exfalso; exact hc rfl)
      | (refine l_o ?_; first | refine l_eqnil rfl (by kernel_rfl) (by intro b; simp only [nz]; rfl) (fun b hb => ?_) | refine l_op rfl (by first | (apply k_callf; first | exact ops_callf (d := 41) (hfc := hI) | exact ops_callf (d := 49) (hfc := hS) | fail) | fail) (hk := ?_) | refine l_op (hk := ?_) | (refine l_g ?_; first | refine l_y rfl rfl rfl ?_ | refine l_n rfl rfl rfl rfl (hk := ?_) | refine l_n' rfl rfl rfl (hk := ?_) | refine l_spnd rfl rfl rfl (h1 := fun hc => ?_) (h2 := fun hc => ?_) | refine l_spd rfl rfl rfl (h1 := fun hc => ?_) (h2 := fun hc => ?_) | refine l_spn rfl rfl rfl (h1 := fun hc => ?_) (h2 := fun hc => ?_) | refine l_sp rfl rfl rfl (h1 := fun hc => ?_) (h2 := fun hc => ?_)))
    refine en_one (hf := Tryz.results3) (h := ?_); simp only [lget]; first | refine congrArg RVb ?_ | refine congrArg RVi ?_ | skip
end Go.Proofs.YtmfbcipjknjicaaGreat
/- What the parameters of the laws on loops read. No condition. -/
namespace Go.Proofs.YtmfbcipjknjicaaGreat
open Eng Go.ChangeShapes Go.WideShapes Go.ChangeAt Go.RowKit
set_option maxHeartbeats 0
set_option maxRecDepth 100000

theorem own : ownKnob Tryz.prog.godebug = none := by kernel_rfl
theorem laidOut : laidOutB Tryz.prog = true := by kernel_rfl

theorem head_cut : (behindMainWord (wordsSigns Tryz.prog.initOrder.toList)).head? = some "cut".toList := by
  have h := toList_of (s := Tryz.prog.initOrder) (_ :: _ :: _ :: _ :: _ :: _ :: _ :: _ :: _ :: _ :: _ :: _ :: _ :: _ :: _ :: _ :: _ :: _ :: _ :: _ :: _ :: _ :: _ :: _ :: _ :: _ :: _ :: _ :: _ :: _ :: _ :: _ :: _ :: _ :: _ :: _ :: _ :: _ :: _ :: _ :: _ :: _ :: _ :: _ :: _ :: _ :: _ :: _ :: _ :: _ :: _ :: _ :: _ :: _ :: _ :: _ :: _ :: _ :: _ :: _ :: _ :: _ :: _ :: _ :: _ :: _ :: _ :: _ :: _ :: _ :: _ :: _ :: _ :: _ :: _ :: _ :: _ :: _ :: _ :: _) rfl
  generalize Tryz.prog.initOrder.toList = l at h ⊢
  subst h
  decide +kernel
theorem p_make : Tryz.prog.make = some .cut := cut_make head_cut
theorem p_final : Tryz.prog.liftsFinal = false := cut_final head_cut
theorem p_enter : Tryz.prog.mayEnter = true := cut_enter head_cut (by decide +kernel) (by decide +kernel) (by decide +kernel)
theorem reads_byte {P : Program} {t : TypeId} (ht : P.underlying t = some (.int .u8)) : Reads P t 1 RVy (fun _ => True) := by
  intro H enc W sp fuel cs x h
  obtain ⟨n, rfl, _, hw⟩ := DataW.trod_int ht h
  have hb : 0 ≤ n ∧ n < 256 := by
    simp [Lit.wf, IntKind.min, IntKind.max, IntKind.signed, IntKind.bits] at hw
    omega
  obtain ⟨m, rfl⟩ := Int.eq_ofNat_of_zero_le hb.1
  have hm : m < 256 := by omega
  refine ⟨UInt8.ofNat m, ?_, trivial⟩
  have e : RVy (UInt8.ofNat m) = .v (.int .u8 (m : Nat)) := by
    have : (UInt8.ofNat m).toNat = m := by simp; omega
    unfold RVy; rw [this]
  rw [e]
  exact .v _ rfl (.nil _)
theorem prd_bytes : PRd Tryz.prog 22 (fun l : List UInt8 => .sh (l.map RVy)) (fun l => l.length ≤ maxLen ∧ ∀ x ∈ l, True) := prd_slice Tryz.underlying22 (by kernel_rfl) (by omega) (reads_byte Tryz.underlying5)
end Go.Proofs.YtmfbcipjknjicaaGreat
