/- The reference's readers of texts. For all texts. -/
import Derived.Test.YtpcckakchpblcaaGreatDoorEf
import Derived.Test.YtpcckakchpblcaaGreatDoorJ8
namespace Go.Proofs.YtpcckakchpblcaaGreatDoor
open Eng
attribute [local irreducible] OpS OpG FC FCr Rel Fl Ef DR Fs
set_option linter.unusedSimpArgs false
set_option maxHeartbeats 0
set_option maxRecDepth 100000

/-- A text cut at a byte. -/
def spl (b : UInt8) : List UInt8 → List UInt8 → List (List UInt8)
  | acc, [] => [acc]
  | acc, c :: cs => if c = b then acc :: spl b [] cs else spl b (acc ++ [c]) cs
theorem l1Split_ok (s : List UInt8) (b : UInt8) (hs : s.length ≤ 1000000000000) : FCr Tryz.prog 109 [RV.str s, RVy b] (.ow 1 ((spl b [] s).map RV.str)) := by
  refine (fcr_in Tryz.func109 rfl (by simp only [Tryz.ntmps109, anys, List.length_cons, List.length_nil, Nat.reduceAdd, Nat.reduceSub, List.replicate_succ, List.replicate_zero, List.cons_append, List.nil_append] <;> rfl) ?_)
  repeat' first
    | refine w_seq ?_
    | refine w_block ?_
    | refine rb_n ?_
    | refine rb_ret ?_
    | refine rb_eq ?_
    | refine rb_ne (by rfl) ?_
    | refine w_exit ?_
    | refine rt_exit ?_
    | refine w_region ?_
    | refine l_nil ?_
    | refine rt_n ?_
    | refine w_ret ?_
    | refine rt_ret ?_
    | refine w_skip ?_
    | refine w_cond_t rfl ?_
    | refine w_cond_f rfl ?_
    | refine w_cnd rfl (fun hc => ?_) (fun hc => ?_)
    | refine w_cd rfl (fun hc => ?_) (fun hc => ?_)
    | refine w_cn rfl (fun hc => ?_) (fun hc => ?_)
    | refine w_cond rfl (fun hc => ?_) (fun hc => ?_)
    | (refine l_o ?_; first | refine l_eqnil rfl (by kernel_rfl) (by intro b; simp only [nz]; rfl) (fun b hb => ?_) | refine l_op (hk := ?_))
  refine w_loopm (ι := Nat × Nat × List (List UInt8)) (fun q => [(7, RVn q.1), (6, RVn q.2.1), (5, .ref 8 0 q.2.2.length), (8, .any)]) (fun q => [(8, 1, q.2.2.map RV.str)]) (fun q => q.1 ≤ s.length ∧ q.2.1 ≤ q.1 ∧ q.2.2.length ≤ q.1 ∧ q.2.2 ++ spl b ((s.drop q.2.1).take (q.1 - q.2.1)) (s.drop q.1) = spl b [] s) (fun q => s.length - q.1) (0, 0, []) (h0 := ?_) (hs := ?_) (round := ?_)
  · simp
  · refine le_eq (by (repeat' first | exact .nil | refine .keep ?_ | refine .any ?_); first | done | fail) rfl rfl
  · intro ⟨i, fr, out⟩ ⟨h1, h2, h3, h4⟩
    dsimp only at h1 h2 h3 h4 ⊢
    by_cases hil : i < s.length
    · rw [List.drop_eq_getElem_cons hil, spl] at h4
      repeat' first
        | refine w_seq ?_
        | refine w_block ?_
        | refine rb_n ?_
        | refine rb_ret ?_
        | refine rb_eq ?_
        | refine rb_ne (by rfl) ?_
        | refine w_exit ?_
        | refine rt_exit ?_
        | refine w_region ?_
        | refine l_nil ?_
        | refine rt_n ?_
        | refine w_ret ?_
        | refine rt_ret ?_
        | refine w_skip ?_
        | refine w_cond_t rfl ?_
        | refine w_cond_f rfl ?_
        | refine w_cnd rfl (fun hc => ?_) (fun hc => ?_)
        | refine w_cd rfl (fun hc => ?_) (fun hc => ?_)
        | refine w_cn rfl (fun hc => ?_) (fun hc => ?_)
        | refine w_cond rfl (fun hc => ?_) (fun hc => ?_)
        | (exfalso; omega)
        | (refine l_o ?_; first | refine l_eqnil rfl (by kernel_rfl) (by intro b; simp only [nz]; rfl) (fun b hb => ?_) | refine l_op (hk := ?_))
      · have e : s[i] = b := UInt8.toNat_inj.1 (by omega)
        rw [if_pos e] at h4
        refine rn_mk (i + 1, i + 1, out ++ [(s.drop fr).take (i - fr)]) ?_ (by first | omega | (dsimp only; omega)) (le_eq (by (repeat' first | exact .nil | refine .keep ?_ | refine .any ?_); first | done | fail) rfl rfl)
        refine ⟨by dsimp only; omega, Nat.le_refl _, by simp; omega, ?_⟩
        dsimp only
        rw [Nat.sub_self, List.take_zero, List.append_assoc]
        exact h4
      · have e : s[i] ≠ b := fun e => hc (by rw [e])
        rw [if_neg e] at h4
        refine rn_mk (i + 1, fr, out) ?_ (by first | omega | (dsimp only; omega)) (le_eq (by (repeat' first | exact .nil | refine .keep ?_ | refine .any ?_); first | done | fail) rfl rfl)
        refine ⟨by dsimp only; omega, by dsimp only; omega, by dsimp only; omega, ?_⟩
        dsimp only
        have e2 : (s.drop fr).take (i + 1 - fr) = (s.drop fr).take (i - fr) ++ [s[i]] := by
          rw [show i + 1 - fr = (i - fr) + 1 by omega, List.take_succ_eq_append_getElem (by simp; omega)]
          congr 2
          rw [List.getElem_drop]
          congr 1
          omega
        rw [e2]
        exact h4
    · repeat' first
        | refine w_seq ?_
        | refine w_block ?_
        | refine rb_n ?_
        | refine rb_ret ?_
        | refine rb_eq ?_
        | refine rb_ne (by rfl) ?_
        | refine w_exit ?_
        | refine rt_exit ?_
        | refine w_region ?_
        | refine l_nil ?_
        | refine rt_n ?_
        | refine w_ret ?_
        | refine rt_ret ?_
        | refine w_skip ?_
        | refine w_cond_t rfl ?_
        | refine w_cond_f rfl ?_
        | refine w_cnd rfl (fun hc => ?_) (fun hc => ?_)
        | refine w_cd rfl (fun hc => ?_) (fun hc => ?_)
        | refine w_cn rfl (fun hc => ?_) (fun hc => ?_)
        | refine w_cond rfl (fun hc => ?_) (fun hc => ?_)
        | (exfalso; omega)
        | (refine l_o ?_; first | refine l_eqnil rfl (by kernel_rfl) (by intro b; simp only [nz]; rfl) (fun b hb => ?_) | refine l_op (hk := ?_))
      have hd : s.drop i = [] := List.drop_eq_nil_of_le (by omega)
      have ht : (s.drop fr).take (i - fr) = s.drop fr := List.take_of_length_le (by rw [List.length_drop]; omega)
      rw [hd, ht, spl] at h4
      rw [← h4]
      refine en_end (hf := Tryz.results109) (hr := ?_); simp only [ne, nf, nl, nr, lget, reduceIte, Nat.reduceEqDiff]; first | rfl | refine congrArg RVb ?_ | refine congrArg RVi ?_ | skip

def dgs : List UInt8 := [48, 49, 50, 51, 52, 53, 54, 55, 56, 57]
def dg (k : Nat) : List UInt8 := (dgs.drop k).take 1
/-- A number in digits. -/
def num (n : Nat) : List UInt8 := if n < 10 then dg n else num (n / 10) ++ dg (n % 10)
theorem num_len (n : Nat) : (num n).length ≤ n + 1 := by
  induction n using Nat.strongRecOn with
  | ind n ih =>
    rw [num]
    split
    · simp [dg]
      omega
    · have := ih (n / 10) (by omega)
      simp [dg]
      omega
theorem l1Num_nat (n : Nat) (h : n ≤ 1000000000000) : FCr Tryz.prog 55 [RVn n] (RV.str (num n)) := by
  induction n using Nat.strongRecOn with
  | ind n ih =>
    rw [num]
    by_cases c : n < 10
    · rw [if_pos c]
      refine (fcr_in Tryz.func55 rfl (by simp only [Tryz.ntmps55, anys, List.length_cons, List.length_nil, Nat.reduceAdd, Nat.reduceSub, List.replicate_succ, List.replicate_zero, List.cons_append, List.nil_append] <;> rfl) ?_)
      repeat' first
        | refine w_seq ?_
        | refine w_region ?_
        | refine l_nil ?_
        | refine rt_n ?_
        | refine w_ret ?_
        | refine rt_ret ?_
        | refine w_skip ?_
        | refine w_cond_t rfl ?_
        | refine w_cond_f rfl ?_
        | refine w_cnd rfl (fun hc => ?_) (fun hc => ?_)
        | refine w_cd rfl (fun hc => ?_) (fun hc => ?_)
        | refine w_cn rfl (fun hc => ?_) (fun hc => ?_)
        | refine w_cond rfl (fun hc => ?_) (fun hc => ?_)
        | (exfalso; omega)
        | (refine l_o ?_; first | refine l_op rfl (by first | (apply k_add; first | exact ops_addn (b := 1) rfl rfl (by omega) | fail) | (apply k_slice; first | exact ops_scut (p := dgs) rfl rfl rfl (by omega) (by show _ ≤ 10; omega) (by kernel_rfl) | fail) | fail) (hk := ?_) | refine l_op (hk := ?_))
        | refine d_nil ?_
        | (refine d_o ?_; first | refine d_fl rfl (by first | exact .pl (by first | (apply q_add; first | exact fs_addn (b := 1) rfl rfl (by omega) | fail) | (apply q_slice; first | exact fs_scut (p := dgs) rfl rfl rfl (by omega) (by show _ ≤ 10; omega) (by kernel_rfl) | fail) | fail) | fail) (hk := ?_) | refine d_fl (hk := ?_) | refine d_ef (hk := ?_))
        | (refine w_o ?_; first | refine w_draw (id := 5) (fun _ => true) (fun k => [2].contains k) [[]] 64 (by kernel_rfl) rfl (by kernel_rfl) (by simp [nm, nset, -List.map_take, -List.map_drop]) ?_)
      refine en_one (hf := Tryz.results55) (h := ?_); simp only [lget]; first | refine congrArg RVb ?_ | refine congrArg RVi ?_ | skip
      rw [show n + 1 - n = 1 by omega]; rfl
    · rw [if_neg c]
      have hv := ih (n / 10) (by omega) (by omega)
      have hl := num_len (n / 10)
      have hq : ∀ a b, (List.take a (List.drop b dgs)).length ≤ 10 := fun a b => by rw [List.length_take, List.length_drop]; have : dgs.length = 10 := rfl; omega
      refine (fcr_in Tryz.func55 rfl (by simp only [Tryz.ntmps55, anys, List.length_cons, List.length_nil, Nat.reduceAdd, Nat.reduceSub, List.replicate_succ, List.replicate_zero, List.cons_append, List.nil_append] <;> rfl) ?_)
      repeat' first
        | refine w_seq ?_
        | refine w_region ?_
        | refine l_nil ?_
        | refine rt_n ?_
        | refine w_ret ?_
        | refine rt_ret ?_
        | refine w_skip ?_
        | refine w_cond_t rfl ?_
        | refine w_cond_f rfl ?_
        | refine w_cnd rfl (fun hc => ?_) (fun hc => ?_)
        | refine w_cd rfl (fun hc => ?_) (fun hc => ?_)
        | refine w_cn rfl (fun hc => ?_) (fun hc => ?_)
        | refine w_cond rfl (fun hc => ?_) (fun hc => ?_)
        | (exfalso; omega)
        | (refine l_o ?_; first | refine l_op rfl (by first | (apply k_rem; first | exact ops_remn (n := 10) rfl rfl (by omega) | fail) | (apply k_quo; first | exact ops_quon (n := 10) rfl rfl (by omega) (by omega) | fail) | (apply k_add; first | exact ops_addn (b := 1) rfl rfl (by omega) | exact ops_cat (p := num (n / 10)) rfl rfl (by have := hq (n % 10 + 1 - n % 10) (n % 10); omega) | fail) | (apply k_slice; first | exact ops_scut (p := dgs) rfl rfl rfl (by omega) (by show _ ≤ 10; omega) (by kernel_rfl) | fail) | (apply k_callf; first | exact ops_callf (hfc := hv) | fail) | fail) (hk := ?_) | refine l_op (hk := ?_))
        | refine d_nil ?_
        | (refine d_o ?_; first | refine d_fl rfl (by first | exact .pl (by first | (apply q_rem; first | exact fs_remn (n := 10) rfl rfl (by omega) | fail) | (apply q_quo; first | exact fs_quon (n := 10) rfl rfl (by omega) (by omega) | fail) | (apply q_add; first | exact fs_addn (b := 1) rfl rfl (by omega) | exact fs_cat (p := num (n / 10)) rfl rfl (by have := hq (n % 10 + 1 - n % 10) (n % 10); omega) | fail) | (apply q_slice; first | exact fs_scut (p := dgs) rfl rfl rfl (by omega) (by show _ ≤ 10; omega) (by kernel_rfl) | fail) | fail) | fail) (hk := ?_) | refine d_fl (hk := ?_) | refine d_ef rfl (by first | exact .callf (hfc := hv) | fail) (hk := ?_) | refine d_ef (hk := ?_))
        | (refine w_o ?_; first | refine w_draw (id := 5) (fun _ => true) (fun k => [2].contains k) [[]] 64 (by kernel_rfl) rfl (by kernel_rfl) (by simp [nm, nset, -List.map_take, -List.map_drop]) ?_)
      refine en_one (hf := Tryz.results55) (h := ?_); simp only [lget]; first | refine congrArg RVb ?_ | refine congrArg RVi ?_ | skip
      rw [show n % 10 + 1 - n % 10 = 1 by omega]; rfl
def numI (n : Int) : List UInt8 := if n < 0 then 45 :: num (-n).toNat else num n.toNat
theorem l1Num_ok (n : Int) (h : -1000000000000 ≤ n) (h2 : n ≤ 1000000000000) : FCr Tryz.prog 55 [RVi n] (RV.str (numI n)) := by
  unfold numI
  by_cases c : n < 0
  · rw [if_pos c]
    obtain ⟨m, hm⟩ := Int.eq_ofNat_of_zero_le (show 0 ≤ -n by omega)
    rw [hm, Int.toNat_natCast]
    have hv := l1Num_nat m (by omega)
    have hl := num_len m
    rw [show RVn m = RVi (-n) from by rw [hm]] at hv
    refine (fcr_in Tryz.func55 rfl (by simp only [Tryz.ntmps55, anys, List.length_cons, List.length_nil, Nat.reduceAdd, Nat.reduceSub, List.replicate_succ, List.replicate_zero, List.cons_append, List.nil_append] <;> rfl) ?_)
    repeat' first
      | refine w_seq ?_
      | refine w_region ?_
      | refine l_nil ?_
      | refine rt_n ?_
      | refine w_ret ?_
      | refine rt_ret ?_
      | refine w_skip ?_
      | refine w_cond_t rfl ?_
      | refine w_cond_f rfl ?_
      | refine w_cnd rfl (fun hc => ?_) (fun hc => ?_)
      | refine w_cd rfl (fun hc => ?_) (fun hc => ?_)
      | refine w_cn rfl (fun hc => ?_) (fun hc => ?_)
      | refine w_cond rfl (fun hc => ?_) (fun hc => ?_)
      | (exfalso; omega)
      | (refine l_o ?_; first | refine l_op rfl (by first | (apply k_add; first | exact ops_cat (p := [45]) (q := num m) rfl rfl (by simp; omega) | fail) | (apply k_callf; first | exact ops_callf (hfc := hv) | fail) | fail) (hk := ?_) | refine l_op (hk := ?_))
      | refine d_nil ?_
      | (refine d_o ?_; first | refine d_fl rfl (by first | exact .pl (by first | (apply q_add; first | exact fs_cat (p := [45]) (q := num m) rfl rfl (by simp; omega) | fail) | fail) | fail) (hk := ?_) | refine d_fl (hk := ?_) | refine d_ef rfl (by first | exact .callf (hfc := hv) | fail) (hk := ?_) | refine d_ef (hk := ?_))
      | (refine w_o ?_; first | refine w_draw (id := 5) (fun _ => true) (fun k => [2].contains k) [[]] 64 (by kernel_rfl) rfl (by kernel_rfl) (by simp [nm, nset, -List.map_take, -List.map_drop]) ?_)
    refine en_one (hf := Tryz.results55) (h := ?_); simp only [lget]; first | refine congrArg RVb ?_ | refine congrArg RVi ?_ | skip
    try rfl
  · rw [if_neg c]
    obtain ⟨m, rfl⟩ := Int.eq_ofNat_of_zero_le (show 0 ≤ n by omega)
    rw [Int.toNat_natCast]
    exact l1Num_nat m (by omega)
end Go.Proofs.YtpcckakchpblcaaGreatDoor
/- Further rules of the engine: calls that float, products of numbers, blocks made in drawn regions, bytes. No condition. -/
namespace Go.Proofs.YtpcckakchpblcaaGreatDoor
open Eng

section
variable {P : Program} {RO : Nat → Bool} {ops : Array Oper} {ty : TypeId} {pos : String} {after : Array Edge} {s : St}
theorem fs_callf {d : Tmp} {g : Option (Nat × Bool)} {f : FuncId} {args : Array Operand} {ats : Array TypeId} {argsR : List RV} {r : RV} (hargs : args.toList.map s.get = argsR := by rfl) (hnt : argsR.all RV.notTup = true := by rfl) (hc : callable P f = true := by kernel_rfl) (hfc : FCr P f argsR r) : Fs P RO ⟨some d, .call ⟨.value (.func f), args, ats⟩, ty, pos, after, g⟩ s r.fzR := by
  intro s2 hs _
  have hg : ∀ x ∈ args.toList, s2.get x = s.get x := fun x hx => hs x (by simp only [Op.operands, Call.operands, Array.toList_append]; simp [hx])
  exact ops_callf (by rw [List.map_congr_left hg]; exact hargs) hnt hc hfc
theorem fs_muln {x y t u} {m n : Nat} {d : Option Tmp} {g : Option (Nat × Bool)} (hx : s.get x = .v (.int .i64 (m : Nat))) (hy : s.get y = .v (.int .i64 (n : Nat))) (h2 : m * n ≤ 9223372036854775807) : Fs P RO ⟨d, .binOp .mul t x y u, ty, pos, after, g⟩ s (.v (.int .i64 ((m * n : Nat) : Int))) := by
  have h := fs_mul (P := P) (RO := RO) (d := d) (ty := ty) (pos := pos) (after := after) (g := g) (t := t) (u := u) hx hy (by have := Int.natCast_nonneg (m * n); rw [Int.natCast_mul] at this; omega) (by rw [← Int.natCast_mul]; omega)
  rw [← Int.natCast_mul] at h; exact h
theorem ops_muln {x y t u} {m n : Nat} {d : Option Tmp} {g : Option (Nat × Bool)} (hx : s.get x = .v (.int .i64 (m : Nat))) (hy : s.get y = .v (.int .i64 (n : Nat))) (h2 : m * n ≤ 9223372036854775807) : OpS P ⟨d, .binOp .mul t x y u, ty, pos, after, g⟩ s ⟨sput d (.v (.int .i64 ((m * n : Nat) : Int))) s.fr, s.O⟩ := by
  have h := ops_mul (P := P) (d := d) (ty := ty) (pos := pos) (after := after) (g := g) (t := t) (u := u) hx hy (by have := Int.natCast_nonneg (m * n); rw [Int.natCast_mul] at this; omega) (by rw [← Int.natCast_mul]; omega)
  rw [← Int.natCast_mul] at h; exact h
theorem Eng.Ef.alloca {d : Tmp} {t zs} (hz : zeroOf P t = some (.agg (List.toArray zs))) (h0 : 0 < zs.length) (h1 : zs.all Value.oneCell' = true) (hd : d < 1000000000000) (hO : d ∉ onames s.O) : Ef P ops [d] ⟨some d, .alloc t, ty, pos, after, none⟩ s (.ptr d 0 0) ((d, zs.length, [.agg (zs.map .v)]) :: s.O) := by
  refine Ef.plain fun s2 hs hO2 hm => ?_
  rw [← hO2]
  exact ops_alloca hz h0 h1 ⟨hd, hm d (by simp)⟩ (by rw [hO2]; exact hO)
theorem ops_pred {x t u} {a : Nat} {d : Option Tmp} {g : Option (Nat × Bool)} (hx : s.get x = .v (.int .i64 ((a + 1 : Nat) : Int))) (h : a + 1 ≤ 9223372036854775807) : OpS P ⟨d, .binOp .sub t x (.const (.int .i64 1)) u, ty, pos, after, g⟩ s ⟨sput d (RVn a) s.fr, s.O⟩ := by
  have := ops_sub (P := P) (d := d) (ty := ty) (pos := pos) (after := after) (g := g) (t := t) (u := u) (s := s) (x := x) (y := .const (.int .i64 1)) (m := ((a + 1 : Nat) : Int)) (n := 1) hx rfl (by omega) (by omega)
  rwa [show ((a + 1 : Nat) : Int) - 1 = (a : Int) by omega] at this
end

end Go.Proofs.YtpcckakchpblcaaGreatDoor
