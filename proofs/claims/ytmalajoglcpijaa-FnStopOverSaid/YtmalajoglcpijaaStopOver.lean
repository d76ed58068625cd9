/- The law FnStopOver answers true. For all bytes. -/
import Derived.Test.YtmalajoglcpijaaDrawsH
import Derived.Test.YtmalajoglcpijaaTransP
namespace Go.Proofs.Ytmalajoglcpijaa
open Eng
section
variable {P : Program} {ty : TypeId} {pos : String} {after : Array Edge} {s : St} {d : Option Tmp} {g : Option (Nat × Bool)}
theorem intBits_xor8 (a b : UInt8) : Op.intBits .xor .u8 (a.toNat : Nat) (b.toNat : Nat) = pure (.int .u8 (((a ^^^ b).toNat : Nat) : Int)) := by
  have ha := UInt8.toNat_lt a
  have hb := UInt8.toNat_lt b
  have hx := UInt8.toNat_lt (a ^^^ b)
  have h5 : (BitVec.ofInt 8 (a.toNat : Nat) ^^^ BitVec.ofInt 8 (b.toNat : Nat)).toNat = (a ^^^ b).toNat := by
    rw [UInt8.toNat_xor, BitVec.toNat_xor]
    congr 1 <;> simp
  have h4 : IntKind.u8.wrap (((a ^^^ b).toNat : Nat) : Int) = (((a ^^^ b).toNat : Nat) : Int) := by rw [IntKind.wrap_u8]; omega
  show pure (Value.int .u8 (IntKind.u8.wrap ((BitVec.ofInt 8 (a.toNat : Nat) ^^^ BitVec.ofInt 8 (b.toNat : Nat)).toNat : Int))) = _
  rw [h5, h4]
theorem ops_xor8 {x y t u} {a b : UInt8} (hx : s.get x = RVy a) (hy : s.get y = RVy b) : OpS P ⟨d, .binOp .xor t x y u, ty, pos, after, g⟩ s ⟨sput d (RVy (a ^^^ b)) s.fr, s.O⟩ :=
  ops_exact fun _ a' _ _ _ _ hr => by simp [execOp, hr.ex hx, hr.ex hy, binOp, eqGuard, intBits_xor8]
end
attribute [local irreducible] OpS OpG FC FCr Rel Fl Ef DR Fs
attribute [local simp] RV.fzR_names
set_option linter.unusedSimpArgs false
set_option maxHeartbeats 0
set_option maxRecDepth 100000

theorem ends_of {L R : List (List Int)} (hs : stops L R = true) : Ends L R fun v b => (dfsG L R).2.2.getD (2 * v + b) 0 := by
  have h := stops_good hs
  have gi := goodI h
  have hal := nxtOf_alt (goodN h).inside
  rw [toN_len] at hal
  have hin : In (nxtG L R) (2 * L.length) := fun a k hk => (hal a k hk).1
  have hle : ∀ k, (q0 (2 * L.length)).1.getD k 0 = 0 := fun k => getD_rep _ k
  have hle2 : ∀ k, (q0 (2 * L.length)).2.getD k 0 = 0 := fun k => getD_rep _ k
  have hi0 : Inv (nxtG L R) (2 * L.length) (q0 (2 * L.length)) := ⟨by simp [q0], by simp [q0], fun b hb => by rw [hle] at hb; omega, fun b _ => hle2 b, fun b => by rw [hle]; omega⟩
  have h1 := allD_ok hin (List.range (2 * L.length)) (q0 (2 * L.length)) (fun s hs => List.mem_range.1 hs) hi0 (fun g => by rw [hle]; omega)
  rw [show allD (nxtG L R) (2 * L.length) (List.range (2 * L.length)) (q0 (2 * L.length)) = dfsG L R from rfl] at h1
  have hd : (dfsG L R).1 = true := by
    unfold stops at hs
    simp only [Bool.and_eq_true] at hs
    exact hs.2
  rw [if_pos hd] at h1
  obtain ⟨a1, a2, _⟩ := h1
  have ht : ∀ i, i < 2 * L.length → (dfsG L R).2.2.getD i 0 = mx (dfsG L R).2.2 ((nxtG L R).getD i []) := fun i hi => (a1.bl i (a2 i (List.mem_range.2 hi))).2
  have key : ∀ i k, i < 2 * L.length → k ∈ (nxtG L R).getD i [] → (dfsG L R).2.2.getD k 0 < (dfsG L R).2.2.getD i 0 := fun i k hi hk => by rw [ht i hi]; exact mx_gt hk
  have hat : ∀ i, i < 2 * L.length → (nxtG L R).getD i [] = if i % 2 = 0 then ((toN L).getD (i / 2) []).map (fun x => 2 * x + 1) else ((toN R).getD (i / 2) []).map (fun x => 2 * x) := fun i hi => by
    show (nxtTo (toN L) (toN R) (toN L).length).getD i [] = _
    exact nxtTo_at _ _ _ _ (by rw [toN_len]; exact hi)
  refine ⟨fun v hv x hx => ?_, fun v hv x hx => ?_⟩
  · refine key (2 * v + 0) (2 * x.toNat + 1) (by omega) ?_
    rw [hat _ (by omega), if_pos (by omega), show (2 * v + 0) / 2 = v by omega, toN_gd]
    exact List.mem_map.2 ⟨x.toNat, List.mem_map.2 ⟨x, hx, rfl⟩, rfl⟩
  · refine key (2 * v + 1) (2 * x.toNat + 0) (by omega) ?_
    rw [hat _ (by omega), if_neg (by omega), show (2 * v + 1) / 2 = v by omega, toN_gd]
    exact List.mem_map.2 ⟨x.toNat, List.mem_map.2 ⟨x, hx, rfl⟩, rfl⟩
/-- At least, for places of stoppers, is transitive. -/
theorem atl_trans {gL gR hL hR kL kR : List (List Int)} {u v w : Int} (h1 : atl gL gR hL hR u v = true) (h2 : atl hL hR kL kR v w = true) : atl gL gR kL kR u w = true := by
  unfold atl okS plc at h1 h2 ⊢
  simp only [Bool.and_eq_true, decide_eq_true_eq] at h1 h2 ⊢
  obtain ⟨⟨⟨⟨s1, s2⟩, p1⟩, p2⟩, x1⟩ := h1
  obtain ⟨⟨⟨⟨_, s3⟩, _⟩, p3⟩, x2⟩ := h2
  refine ⟨⟨⟨⟨s1, s3⟩, p1⟩, p3⟩, ?_⟩
  have g := goodI (stops_good s1)
  have h := goodI (stops_good s2)
  have k := goodI (stops_good s3)
  have hu : u.toNat < gL.length := by omega
  have hv : v.toNat < hL.length := by omega
  have hw : w.toNat < kL.length := by omega
  have n1 : NLo gL gR hL hR u.toNat v.toNat 1 := hld_nl (nlo_lt hu hv (by omega)) x1
  have n2 : NLo hL hR kL kR v.toNat w.toNat 1 := hld_nl (nlo_lt hv hw (by omega)) x2
  have n3 := nlo_trans g h k (ends_of s2) hu hv hw n1 n2
  exact hld_holds _ (nlo_lt hu hw (by omega)) n3
/-- Bytes cut, as laws do it. -/
def cutB (code : List UInt8) : List UInt8 := UInt8.ofNat (37 * 2 + code.length % 50) :: (code.drop 2).map fun b => b ^^^ UInt8.ofNat 2
theorem rCut_ok (code : List UInt8) (hc : code.length ≤ 1000000) : FCr Try.prog 36 [RYs code, RVn 2] (.ow 1 ((cutB code).map RVy)) := by
  refine (fcr_in Try.func36 rfl (by simp only [Try.ntmps36, anys, List.length_cons, List.length_nil, Nat.reduceAdd, Nat.reduceSub, List.replicate_succ, List.replicate_zero, List.cons_append, List.nil_append] <;> rfl) ?_)
  repeat' first
    | refine w_seq ?_
    | refine w_block ?_
    | refine rb_n ?_
    | refine rb_ret ?_
    | refine rb_eq ?_
    | refine rb_ne (by rfl) ?_
    | refine w_exit ?_
    | refine rt_exit ?_
    | refine w_region ?_
    | refine l_nil ?_
    | refine rt_n ?_
    | refine w_ret ?_
    | refine rt_ret ?_
    | refine w_skip ?_
    | refine w_cond_t rfl ?_
    | refine w_cond_f rfl ?_
    | refine w_cnd rfl (fun hc => ?_) (fun hc => ?_)
    | refine w_cd rfl (fun hc => ?_) (fun hc => ?_)
    | refine w_cn rfl (fun hc => ?_) (fun hc => ?_)
    | refine w_cond rfl (fun hc => ?_) (fun hc => ?_)
    | (refine l_o ?_; first | refine l_op rfl (by first | (apply k_mul; first | exact ops_muln (m := 37) (n := 2) rfl rfl (by omega) | fail) | (apply k_rem; first | exact ops_remn (m := code.length) (n := 50) rfl rfl (by omega) | fail) | (apply k_add; first | exact ops_addn (a := 37 * 2) (b := code.length % 50) rfl rfl (by omega) | fail) | (apply k_convert; first | exact ops_conv8 (m := 37 * 2 + code.length % 50) rfl (by kernel_rfl) Try.underlying5 (by omega) | fail) | fail) (hk := ?_) | refine l_op (hk := ?_))
  refine w_loopm (ι := Nat × List UInt8) (fun q => [(6, RVn q.1), (5, .ref 14 0 q.2.length), (14, .any)]) (fun q => [(14, 1, q.2.map RVy)]) (fun q => 2 ≤ q.1 ∧ q.2.length + 1 = q.1 ∧ (q.1 ≤ 2 ∨ q.1 ≤ code.length) ∧ q.2 = UInt8.ofNat (37 * 2 + code.length % 50) :: ((code.drop 2).take (q.1 - 2)).map fun b => b ^^^ UInt8.ofNat 2) (fun q => code.length - q.1) (2, [UInt8.ofNat (37 * 2 + code.length % 50)]) (h0 := ?_) (hs := ?_) (round := ?_)
  · exact ⟨by omega, rfl, .inl (by omega), by simp⟩
  · refine le_eq (by (repeat' first | exact .nil | refine .keep ?_ | refine .any ?_); first | done | fail) rfl rfl
  · intro ⟨i, out⟩ ⟨h2, hol, hi, ho⟩
    dsimp only at h2 hol hi ho ⊢
    by_cases hil : i < code.length
    · repeat' first
        | refine w_seq ?_
        | refine w_block ?_
        | refine rb_n ?_
        | refine rb_ret ?_
        | refine rb_eq ?_
        | refine rb_ne (by rfl) ?_
        | refine w_exit ?_
        | refine rt_exit ?_
        | refine w_region ?_
        | refine l_nil ?_
        | refine rt_n ?_
        | refine w_ret ?_
        | refine rt_ret ?_
        | refine w_skip ?_
        | refine w_cond_t rfl ?_
        | refine w_cond_f rfl ?_
        | refine w_cnd rfl (fun hc => ?_) (fun hc => ?_)
        | refine w_cd rfl (fun hc => ?_) (fun hc => ?_)
        | refine w_cn rfl (fun hc => ?_) (fun hc => ?_)
        | refine w_cond rfl (fun hc => ?_) (fun hc => ?_)
        | (exfalso; omega)
        | (refine l_o ?_; first | refine l_op rfl (by first | (apply k_convert; first | exact ops_conv8 (m := 2) rfl (by kernel_rfl) Try.underlying5 (by omega) | fail) | (apply k_xor; first | exact ops_xor8 (a := code[i]) (b := UInt8.ofNat 2) rfl rfl | fail) | fail) (hk := ?_) | refine l_op (hk := ?_))
      refine rn_mk (i + 1, out ++ [code[i] ^^^ UInt8.ofNat 2]) ?_ (by first | omega | (dsimp only; omega)) (le_eq (by (repeat' first | exact .nil | refine .keep ?_ | refine .any ?_); first | done | fail) rfl rfl)
      refine ⟨by dsimp only; omega, by simp; omega, .inr (by dsimp only; omega), ?_⟩
      dsimp only
      have e : (code.drop 2).take (i + 1 - 2) = (code.drop 2).take (i - 2) ++ [code[i]] := by
        rw [show i + 1 - 2 = (i - 2) + 1 by omega, List.take_succ_eq_append_getElem (by simp; omega), List.getElem_drop]
        congr 2
        congr 1
        omega
      rw [e, List.map_append, ho]
      simp
    · have e : (code.drop 2).take (i - 2) = code.drop 2 := List.take_of_length_le (by simp; omega)
      rw [e] at ho
      rw [show cutB code = out from ho.symm]
      repeat' first
        | refine w_seq ?_
        | refine w_block ?_
        | refine rb_n ?_
        | refine rb_ret ?_
        | refine rb_eq ?_
        | refine rb_ne (by rfl) ?_
        | refine w_exit ?_
        | refine rt_exit ?_
        | refine w_region ?_
        | refine l_nil ?_
        | refine rt_n ?_
        | refine w_ret ?_
        | refine rt_ret ?_
        | refine w_skip ?_
        | refine w_cond_t rfl ?_
        | refine w_cond_f rfl ?_
        | refine w_cnd rfl (fun hc => ?_) (fun hc => ?_)
        | refine w_cd rfl (fun hc => ?_) (fun hc => ?_)
        | refine w_cn rfl (fun hc => ?_) (fun hc => ?_)
        | refine w_cond rfl (fun hc => ?_) (fun hc => ?_)
        | (exfalso; omega)
        | (refine l_o ?_; first | refine l_op (hk := ?_))
      refine en_end (hf := Try.results36) (hr := ?_); simp only [ne, nf, nl, nr, lget, reduceIte, Nat.reduceEqDiff]; first | rfl | refine congrArg RVb ?_ | refine congrArg RVi ?_ | skip
theorem okS_swap {gL gR hL hR kL kR : List (List Int)} {u v w : Int} (h : okS gL gR hL hR u v = true) : okS gL gR kL kR u w = okS hL hR kL kR v w := by
  unfold okS at h ⊢
  simp only [Bool.and_eq_true] at h
  obtain ⟨⟨⟨a, b⟩, c⟩, d⟩ := h
  rw [a, b, c, d]
theorem lawStopOver_ok (code : List UInt8) : FCr Try.prog 8 [RYs code] (RVb true) := by
  have hB := rBig_ok code
  by_cases hb : (65536 : Int) < (code.length : Nat)
  · rw [decide_eq_true hb] at hB
    refine (fcr_in Try.func8 rfl (by simp only [Try.ntmps8, anys, List.length_cons, List.length_nil, Nat.reduceAdd, Nat.reduceSub, List.replicate_succ, List.replicate_zero, List.cons_append, List.nil_append] <;> rfl) ?_)
    repeat' first
      | refine w_seq ?_
      | refine w_region ?_
      | refine l_nil ?_
      | refine rt_n ?_
      | refine w_ret ?_
      | refine rt_ret ?_
      | refine w_skip ?_
      | refine w_cond_t rfl ?_
      | refine w_cond_f rfl ?_
      | refine w_cnd rfl (fun hc => ?_) (fun hc => ?_)
      | refine w_cd rfl (fun hc => ?_) (fun hc => ?_)
      | refine w_cn rfl (fun hc => ?_) (fun hc => ?_)
      | refine w_cond rfl (fun hc => ?_) (fun hc => ?_)
      | (refine l_o ?_; first | refine l_eqnil rfl (by kernel_rfl) (by intro b; simp only [nz]; rfl) (fun b hb => ?_) | refine l_op rfl (by first | (apply k_callf; first | exact ops_callf (hfc := hB) | fail) | fail) (hk := ?_) | refine l_op (hk := ?_) | (refine l_g ?_; first | refine l_y rfl rfl rfl ?_ | refine l_n rfl rfl rfl rfl (hk := ?_) | refine l_n' rfl rfl rfl (hk := ?_) | refine l_spnd rfl rfl rfl (h1 := fun hc => ?_) (h2 := fun hc => ?_) | refine l_spd rfl rfl rfl (h1 := fun hc => ?_) (h2 := fun hc => ?_) | refine l_spn rfl rfl rfl (h1 := fun hc => ?_) (h2 := fun hc => ?_) | refine l_sp rfl rfl rfl (h1 := fun hc => ?_) (h2 := fun hc => ?_)))
    refine en_one (hf := Try.results8) (h := ?_); simp only [lget]; first | refine congrArg RVb ?_ | refine congrArg RVi ?_ | skip
  · rw [decide_eq_false hb] at hB
    obtain ⟨L, R, u, L2, R2, v, hD⟩ := drawAL_ok code
    obtain ⟨L3, R3, w, L4, R4, w2, hD2⟩ := drawAL_ok (cutB code)
    have hC := rCut_ok code (by omega)
    have hI := implAtLeast_ok L R u L2 R2 v
    have hS := specAtLeast_ok L R u L2 R2 v
    have hJ := implSame_ok L R u L2 R2 v
    have hK := specSame_ok L R u L2 R2 v
    have hY := implAtLeast_ok L2 R2 v L3 R3 w
    have hZ := implAtLeast_ok L R u L3 R3 w
    have hx : atl L R L2 R2 u v = true → atl L2 R2 L3 R3 v w = true → atl L R L3 R3 u w = true := atl_trans
    generalize (atl L R L2 R2 u v && atl L2 R2 L R v u) = sm at *
    generalize (okS L R L2 R2 u v && okS L2 R2 L R v u) = so at *
    have hoo := fun h => okS_swap (gL := L) (gR := R) (hL := L2) (hR := R2) (kL := L3) (kR := R3) (u := u) (v := (v : Int)) (w := w) h
    generalize okS L R L2 R2 u v = o at *
    generalize okS L R L3 R3 u w = oz at *
    generalize okS L2 R2 L3 R3 v w = oy at *
    generalize atl L R L2 R2 u v = x at *
    generalize atl L2 R2 L3 R3 v w = y at *
    generalize atl L R L3 R3 u w = z at *
    cases o with
    | false =>
      clear hoo
      refine (fcr_in Try.func8 rfl (by simp only [Try.ntmps8, anys, List.length_cons, List.length_nil, Nat.reduceAdd, Nat.reduceSub, List.replicate_succ, List.replicate_zero, List.cons_append, List.nil_append] <;> rfl) ?_)
      repeat' first
        | refine w_seq ?_
        | refine w_region ?_
        | refine l_nil ?_
        | refine rt_n ?_
        | refine w_ret ?_
        | refine rt_ret ?_
        | refine w_skip ?_
        | refine w_cond_t rfl ?_
        | refine w_cond_f rfl ?_
        | refine w_cnd rfl (fun hc => ?_) (fun hc => ?_)
        | refine w_cd rfl (fun hc => ?_) (fun hc => ?_)
        | refine w_cn rfl (fun hc => ?_) (fun hc => ?_)
        | refine w_cond rfl (fun hc => ?_) (fun hc => ?_)
        | (exfalso; exact absurd rfl hc)
        | (exfalso; simp at hc; done)
        | (refine l_o ?_; first | refine l_eqnil rfl (by kernel_rfl) (by intro b; simp only [nz]; rfl) (fun b hb => ?_) | refine l_op rfl (by first | (apply k_callf; first | exact ops_callf (d := 27) (hfc := hD) | exact ops_callf (d := 37) (hfc := hI) | exact ops_callf (d := 45) (hfc := hS) | exact ops_callf (d := 53) (hfc := hJ) | exact ops_callf (d := 61) (hfc := hK) | exact ops_callf (hfc := hB) | fail) | fail) (hk := ?_) | refine l_op (hk := ?_) | (refine l_g ?_; first | refine l_y rfl rfl rfl ?_ | refine l_n rfl rfl rfl rfl (hk := ?_) | refine l_n' rfl rfl rfl (hk := ?_) | refine l_spnd rfl rfl rfl (h1 := fun hc => ?_) (h2 := fun hc => ?_) | refine l_spd rfl rfl rfl (h1 := fun hc => ?_) (h2 := fun hc => ?_) | refine l_spn rfl rfl rfl (h1 := fun hc => ?_) (h2 := fun hc => ?_) | refine l_sp rfl rfl rfl (h1 := fun hc => ?_) (h2 := fun hc => ?_)))
      all_goals first
        | ((refine en_one (hf := Try.results8) (h := ?_); simp only [lget]; first | refine congrArg RVb ?_ | refine congrArg RVi ?_ | skip); done)
        | trace_state
    | true =>
      obtain rfl := hoo rfl
      clear hoo
      refine (fcr_in Try.func8 rfl (by simp only [Try.ntmps8, anys, List.length_cons, List.length_nil, Nat.reduceAdd, Nat.reduceSub, List.replicate_succ, List.replicate_zero, List.cons_append, List.nil_append] <;> rfl) ?_)
      repeat' first
        | refine w_seq ?_
        | refine w_region ?_
        | refine l_nil ?_
        | refine rt_n ?_
        | refine w_ret ?_
        | refine rt_ret ?_
        | refine w_skip ?_
        | refine w_cond_t rfl ?_
        | refine w_cond_f rfl ?_
        | refine w_cnd rfl (fun hc => ?_) (fun hc => ?_)
        | refine w_cd rfl (fun hc => ?_) (fun hc => ?_)
        | refine w_cn rfl (fun hc => ?_) (fun hc => ?_)
        | refine w_cond rfl (fun hc => ?_) (fun hc => ?_)
        | (exfalso; exact absurd rfl hc)
        | (exfalso; simp at hc; done)
        | (refine l_o ?_; first | refine l_eqnil rfl (by kernel_rfl) (by intro b; simp only [nz]; rfl) (fun b hb => ?_) | refine l_op rfl (by first | (apply k_callf; first | exact ops_callf (d := 27) (hfc := hD) | exact ops_callf (d := 37) (hfc := hI) | exact ops_callf (d := 45) (hfc := hS) | exact ops_callf (d := 53) (hfc := hJ) | exact ops_callf (d := 61) (hfc := hK) | exact ops_callf (d := 86) (hfc := hC) | exact ops_callf (d := 87) (hfc := hD2) | exact ops_callf (d := 97) (hfc := hY) | exact ops_callf (d := 105) (hfc := hZ) | exact ops_callf (hfc := hB) | fail) | fail) (hk := ?_) | refine l_op (hk := ?_) | (refine l_g ?_; first | refine l_y rfl rfl rfl ?_ | refine l_n rfl rfl rfl rfl (hk := ?_) | refine l_n' rfl rfl rfl (hk := ?_) | refine l_spnd rfl rfl rfl (h1 := fun hc => ?_) (h2 := fun hc => ?_) | refine l_spd rfl rfl rfl (h1 := fun hc => ?_) (h2 := fun hc => ?_) | refine l_spn rfl rfl rfl (h1 := fun hc => ?_) (h2 := fun hc => ?_) | refine l_sp rfl rfl rfl (h1 := fun hc => ?_) (h2 := fun hc => ?_)))
      all_goals first
        | ((refine en_one (hf := Try.results8) (h := ?_); simp only [lget]; first | refine congrArg RVb ?_ | refine congrArg RVi ?_ | skip); done)
        | ((refine en_one (hf := Try.results8) (h := ?_); simp only [lget]; first | refine congrArg RVb ?_ | refine congrArg RVi ?_ | skip); simp_all; done)
        | trace_state
end Go.Proofs.Ytmalajoglcpijaa
