/- The library's Atoi as contracts of the logic: where it is a number; where it isn't: an error that is not nil. For all texts. -/
import Derived.Laws.Entries
import Derived.WideLaws
import Derived.Laws.Externs
import Derived.Laws.BytesArg
import Derived.Lib.Bytealg
import Derived.Test.YtpcckakchpblcaaGreatDoorJ15
import Derived.Test.YtpcckakchpblcaaGreatDoorJ38
import Derived.Test.YtpcckakchpblcaaGreatDoorJ8
namespace Go.Proofs.YtpcckakchpblcaaGreatDoor
namespace Eng
open Go.RowKit
section
variable {P : Program} {s : St} {ty : TypeId} {pos : String} {after : Array Edge} {d : Option Tmp} {g : Option (Nat × Bool)}
theorem ops_nenily {x t u} {d0 : TypeId} {p : Value} (hx : s.get x = .v (.iface d0 p)) (ht : P.underlying t = some (.interface (P.methodsAt t))) : OpS P ⟨d, .binOp .neq t x (.const .nilIface) u, ty, pos, after, g⟩ s ⟨sput d (.v (.bool true)) s.fr, s.O⟩ :=
  ops_exact fun _ a w _ _ _ hr => by
    have e : a.eval (.const .nilIface) = .nilIface := rfl
    simp [execOp, hr.ex hx, e, eqGuard, binOp, run_equal_held_nil w t d0 p ht]
theorem ops_nenilz {x t u} (hx : s.get x = .v .nilIface) (ht : P.underlying t = some (.interface (P.methodsAt t))) : OpS P ⟨d, .binOp .neq t x (.const .nilIface) u, ty, pos, after, g⟩ s ⟨sput d (.v (.bool false)) s.fr, s.O⟩ :=
  ops_exact fun _ a w _ _ _ hr => by
    have e : a.eval (.const .nilIface) = .nilIface := rfl
    simp [execOp, hr.ex hx, e, eqGuard, binOp, run_equal_nil_nil w t ht]
end
end Eng
open Eng Go.RowKit
set_option linter.unusedSimpArgs false
set_option maxHeartbeats 0
set_option maxRecDepth 100000
theorem atoi_ok (s : List UInt8) (hs : s.length ≤ 1000000000000) (v : Int) (h : Lib.atoiAll s = .ok v) : FCr Tryz.prog 52 [RV.str s] (.tup [RVi v, .v .nilIface]) := by
  intro w F ρ vals fp hv hO hnd hfF hFs
  have hgk := hO.gok
  cases hO
  have hvl := hv.length
  obtain ⟨x, rfl⟩ : ∃ x, vals = [x] := by
    match vals, hvl with
    | [x], _ => exact ⟨x, rfl⟩
  have hx := hv.get 0
  simp only [lget, List.getD_cons_zero] at hx
  obtain rfl := hx.exact
  have hsz : (⟨s.toArray⟩ : ByteArray).size = s.length := by simp [ByteArray.size]
  refine (Any.strconv_Atoi_ok shelf_laysC172 ⟨s.toArray⟩ (by rw [hsz]; omega) v (by simpa using h) w).mono ?_
  rintro e w' ⟨rfl, hw⟩
  have hB : Below w.heap.size w w' := by
    rcases hw with rfl | ⟨t, rfl⟩
    · exact .refl _ _
    · exact Lib.bytesWorld_below _ _ _
  exact ⟨_, _, [], F, ρ, [], [], rfl, ⟨rfl, rfl⟩, .tup (.cons (fp1 := []) (.v _) (.cons (fp1 := []) (.v _) .nil)), .nil (hgk.mono fun b hb => ⟨hb, hB.block b (hFs b hb)⟩), by simp, fun b hb => by simp at hb, fun b hb => hb, fun b hb => ⟨.inl hb, Nat.lt_of_lt_of_le (hFs b hb) hB.size⟩, fun b hb _ => hB.block b hb, hB.size, hB.os, hB.tape, hB.output, fun _ _ => rfl⟩
theorem atoi_err (s : List UInt8) (hs : s.length ≤ 1000000000000) (h : ∀ v, Lib.atoiAll s ≠ .ok v) :
    FC Tryz.prog 52 [RV.str s] [] (fun rv O => ∃ x : Int × Nat, True ∧ rv = .tup [RVi x.1, .v (.iface 119 (.pointer (some ⟨x.2, 0, none⟩)))] ∧ O = []) := by
  intro w F ρ vals fp hv hO hnd hfF hFs
  have hgk := hO.gok
  cases hO
  have hvl := hv.length
  obtain ⟨x, rfl⟩ : ∃ x, vals = [x] := by
    match vals, hvl with
    | [x], _ => exact ⟨x, rfl⟩
  have hx := hv.get 0
  simp only [lget, List.getD_cons_zero] at hx
  obtain rfl := hx.exact
  have hsz : (⟨s.toArray⟩ : ByteArray).size = s.length := by simp [ByteArray.size]
  have key : ∀ n : Int, (Calls Tryz.prog 52 #[.string ⟨s.toArray⟩] w fun e w' => ∃ N, e = .returned (.tuple #[.int .i64 n, .iface 119 (.pointer (some ⟨N, 0, none⟩))]) ∧ Below w.heap.size w w') →
      Calls Tryz.prog 52 [Value.string ⟨s.toArray⟩].toArray w fun e w' => ∃ v rv Oout F' ρ' fp1 fp2, e = .returned v ∧ (∃ x : Int × Nat, True ∧ rv = .tup [RVi x.1, .v (.iface 119 (.pointer (some ⟨x.2, 0, none⟩)))] ∧ Oout = []) ∧ SV w' F' ρ' rv v fp1 ∧ OL w' F' ρ' Oout fp2 ∧ (fp1 ++ fp2).Nodup ∧ (∀ b ∈ fp1 ++ fp2, ¬ F' b ∧ (b ∈ ([] : List Nat) ∨ w.heap.size ≤ b)) ∧
        (∀ b, F b → F' b) ∧ (∀ b, F' b → (F b ∨ b ∈ ([] : List Nat) ∨ w.heap.size ≤ b) ∧ b < w'.heap.size) ∧ (∀ b, b < w.heap.size → b ∉ ([] : List Nat) → w'.heap[b]? = w.heap[b]?) ∧ w.heap.size ≤ w'.heap.size ∧ w'.os = w.os ∧ w'.tape = w.tape ∧ w'.output = w.output ∧ ∀ n, 1000000000000 ≤ n → ρ' n = ρ n := fun n hc => by
    refine hc.mono ?_
    rintro e w' ⟨N, rfl, hB⟩
    exact ⟨_, _, [], F, ρ, [], [], rfl, ⟨(n, N), trivial, rfl, rfl⟩, .tup (.cons (fp1 := []) (.v _) (.cons (fp1 := []) (.v _) .nil)), .nil (hgk.mono fun b hb => ⟨hb, hB.block b (hFs b hb)⟩), by simp, fun b hb => by simp at hb, fun b hb => hb, fun b hb => ⟨.inl hb, Nat.lt_of_lt_of_le (hFs b hb) hB.size⟩, fun b hb _ => hB.block b hb, hB.size, hB.os, hB.tape, hB.output, fun _ _ => rfl⟩
  cases ha : Lib.atoiAll s
  · exact absurd ha (h _)
  · obtain ⟨_, ev, h2, h3⟩ := hgk 1 (by simp [GLs])
    exact key 0 ((Any.strconv_Atoi_syntax shelf_laysC172 ⟨s.toArray⟩ (by rw [hsz]; omega) (by simpa using ha) ev w h2 h3).mono fun e w' ⟨N, he, _, _, hB⟩ => ⟨N, he, hB⟩)
  · obtain ⟨_, ev, h2, h3⟩ := hgk 2 (by simp [GLs])
    exact key _ ((Any.strconv_Atoi_range shelf_laysC172 ⟨s.toArray⟩ (by rw [hsz]; omega) (by simpa using ha) ev w h2 h3).mono fun e w' ⟨N, he, _, _, hB⟩ => ⟨N, he, hB⟩)
end Go.Proofs.YtpcckakchpblcaaGreatDoor
/- Functions that the model gives itself (finding a byte, comparing texts); bytes as a text. For all texts. -/
namespace Go.Proofs.YtpcckakchpblcaaGreatDoor
namespace Eng
open Go.RowKit
/-- A call of a function that the model gives itself. -/
theorem run_calle {P : Program} {o : Oper} {a : Act} {w : World} {f args ats} {fn : Func} {e : Array Value → Sem Value} (ho : o.op = .call ⟨.value (.func f), args, ats⟩) (hf : P.funcs[f]? = some fn) (hname : (fn.name == "runtime.NumGoroutine") = false) (hb : fn.body.isNone = true) (hn : Extern.findNext fn = none) (he : Extern.find fn = some e) :
    (execOp a.eval o).run P w = ((e (args.map a.eval)).run P w).andThen fun v w' => .ok (.value v) w' := by
  rw [← run_callFunc_extern hf hname hb hn he (args.map a.eval) w]
  simp [execOp, ho, resolve, Deferred.ofValue, invoke, Act.eval]
section
variable {P : Program} {s : St} {d : Option Tmp} {ty : TypeId} {pos : String} {after : Array Edge} {g : Option (Nat × Bool)}
theorem ops_ext2 {f x y ats} {fn : Func} {e : Array Value → Sem Value} {p q z : Value} (hx : s.get x = .v p) (hy : s.get y = .v q) (hf : P.funcs[f]? = some fn) (hname : (fn.name == "runtime.NumGoroutine") = false) (hb : fn.body.isNone = true) (hn : Extern.findNext fn = none) (he : Extern.find fn = some e)
    (h : ∀ w, (e #[p, q]).run P w = .ok z w) : OpS P ⟨d, .call ⟨.value (.func f), #[x, y], ats⟩, ty, pos, after, g⟩ s ⟨sput d (.v z) s.fr, s.O⟩ :=
  ops_exact fun _ a w _ _ _ hr => by
    rw [run_calle rfl hf hname hb hn he]
    simp [hr.ex hx, hr.ex hy, h]
theorem ops_indexByte {f x y ats} {fn : Func} {p : List UInt8} {b : UInt8} (hx : s.get x = .str p) (hy : s.get y = .v (.int .u8 (b.toNat : Nat))) (hf : P.funcs[f]? = some fn) (hname : (fn.name == "runtime.NumGoroutine") = false) (hb : fn.body.isNone = true) (hn : Extern.findNext fn = none) (he : Extern.find fn = some Extern.BytealgIndexByte.indexByte) :
    OpS P ⟨d, .call ⟨.value (.func f), #[x, y], ats⟩, ty, pos, after, g⟩ s ⟨sput d (.v (.int .i64 (Lib.indexByte p b))) s.fr, s.O⟩ :=
  ops_ext2 hx hy hf hname hb hn he fun w => by
    rw [Lib.run_indexByteString]
    simp
end
section
variable {P : Program} {s : St} {d : Tmp} {ty : TypeId} {pos : String} {after : Array Edge} {g : Option (Nat × Bool)}
end
end Eng
open Eng
attribute [local irreducible] OpS OpG FC FCr Rel Fl Ef DR Fs
set_option linter.unusedSimpArgs false
set_option maxHeartbeats 0
set_option maxRecDepth 100000

end Go.Proofs.YtpcckakchpblcaaGreatDoor
/- A text cut at a byte: the library's Cut. For all texts. -/
namespace Go.Proofs.YtpcckakchpblcaaGreatDoor
open Eng
attribute [local irreducible] OpS OpG FC FCr Rel Fl Ef DR Fs
set_option linter.unusedSimpArgs false
set_option maxHeartbeats 0
set_option maxRecDepth 100000

/-- How many bytes stand ahead of a byte (all, if it doesn't occur). -/
def posB (b : UInt8) : List UInt8 → Nat
  | [] => 0
  | c :: cs => if c = b then 0 else posB b cs + 1
theorem indexByte_pos (b : UInt8) (s : List UInt8) : Lib.indexByte s b = if posB b s < s.length then ((posB b s : Nat) : Int) else -1 := by
  induction s with
  | nil => rfl
  | cons c s ih =>
    rw [Lib.indexByte, posB]
    by_cases h : c = b
    · rw [if_pos (by simpa using h), if_pos h, if_pos (by simp)]
      try rfl
    · rw [if_neg (by simpa using h), if_neg h, ih]
      by_cases h2 : posB b s < s.length
      · rw [if_pos h2, if_neg (by simp only [beq_iff_eq]; omega), if_pos (by simp only [List.length_cons]; omega)]; simp
      · rw [if_neg h2, if_pos (by simp), if_neg (by simp only [List.length_cons]; omega)]
theorem sIndex_ok (s : List UInt8) (b : UInt8) (hs : s.length ≤ 9223372036854775807) : FCr Tryz.prog 76 [RV.str s, RV.str [b]] (RVi (Lib.indexByte s b)) := by
  have h1 : FCr Tryz.prog 89 [RV.str s, RVy b] (RVi (Lib.indexByte s b)) := by
    refine (fcr_in Tryz.func89 rfl (by simp only [Tryz.ntmps89, anys, List.length_cons, List.length_nil, Nat.reduceAdd, Nat.reduceSub, List.replicate_succ, List.replicate_zero, List.cons_append, List.nil_append] <;> rfl) ?_)
    repeat' first
      | refine w_seq ?_
      | refine w_region ?_
      | refine l_nil ?_
      | refine rt_n ?_
      | refine w_ret ?_
      | refine rt_ret ?_
      | refine w_skip ?_
      | (refine l_o ?_; first | refine l_op rfl (by first | (apply k_callf; first | exact ops_indexByte rfl rfl Tryz.func117 (by kernel_rfl) (by kernel_rfl) (by kernel_rfl) (by kernel_rfl) | fail) | fail) (hk := ?_) | refine l_op (hk := ?_))
    refine en_one (hf := Tryz.results89) (h := ?_); simp only [lget]; first | refine congrArg RVb ?_ | refine congrArg RVi ?_ | skip
  by_cases he : [b] = s
  · subst he
    have h0 : Lib.indexByte [b] b = 0 := by simp [Lib.indexByte]
    rw [h0] at h1 ⊢
    refine (fcr_in Tryz.func76 rfl (by simp only [Tryz.ntmps76, anys, List.length_cons, List.length_nil, Nat.reduceAdd, Nat.reduceSub, List.replicate_succ, List.replicate_zero, List.cons_append, List.nil_append] <;> rfl) ?_)
    repeat' first
      | refine w_seq ?_
      | refine w_block ?_
      | refine rb_n ?_
      | refine rb_ret ?_
      | refine rb_eq ?_
      | refine rb_ne (by rfl) ?_
      | refine w_exit ?_
      | refine rt_exit ?_
      | refine w_region ?_
      | refine l_nil ?_
      | refine rt_n ?_
      | refine w_ret ?_
      | refine rt_ret ?_
      | refine w_skip ?_
      | refine w_cond_t rfl ?_
      | refine w_cond_f rfl ?_
      | refine w_cnd rfl (fun hc => ?_) (fun hc => ?_)
      | refine w_cd rfl (fun hc => ?_) (fun hc => ?_)
      | refine w_cn rfl (fun hc => ?_) (fun hc => ?_)
      | refine w_cond rfl (fun hc => ?_) (fun hc => ?_)
      | (refine l_o ?_; first | refine l_eqnil rfl (by kernel_rfl) (by intro b; simp only [nz]; rfl) (fun b hb => ?_) | refine l_op rfl (by first | (apply k_index; first | exact ops_byte (p := [b]) (i := 0) rfl rfl rfl (by kernel_rfl) | fail) | (apply k_callf; first | exact ops_callf (hfc := h1) | fail) | fail) (hk := ?_) | refine l_op (hk := ?_) | (refine l_g ?_; first | refine l_y rfl rfl rfl ?_ | refine l_n rfl rfl rfl rfl (hk := ?_) | refine l_n' rfl rfl rfl (hk := ?_) | refine l_spnd rfl rfl rfl (h1 := fun hc => ?_) (h2 := fun hc => ?_) | refine l_spd rfl rfl rfl (h1 := fun hc => ?_) (h2 := fun hc => ?_) | refine l_spn rfl rfl rfl (h1 := fun hc => ?_) (h2 := fun hc => ?_) | refine l_sp rfl rfl rfl (h1 := fun hc => ?_) (h2 := fun hc => ?_)))
    all_goals first
      | ((refine en_one (hf := Tryz.results76) (h := ?_); simp only [lget]; first | refine congrArg RVb ?_ | refine congrArg RVi ?_ | skip); done)
      | (exfalso; simp at hc; done)
      | trace_state
  · refine (fcr_in Tryz.func76 rfl (by simp only [Tryz.ntmps76, anys, List.length_cons, List.length_nil, Nat.reduceAdd, Nat.reduceSub, List.replicate_succ, List.replicate_zero, List.cons_append, List.nil_append] <;> rfl) ?_)
    repeat' first
      | refine w_seq ?_
      | refine w_block ?_
      | refine rb_n ?_
      | refine rb_ret ?_
      | refine rb_eq ?_
      | refine rb_ne (by rfl) ?_
      | refine w_exit ?_
      | refine rt_exit ?_
      | refine w_region ?_
      | refine l_nil ?_
      | refine rt_n ?_
      | refine w_ret ?_
      | refine rt_ret ?_
      | refine w_skip ?_
      | refine w_cond_t rfl ?_
      | refine w_cond_f rfl ?_
      | refine w_cnd rfl (fun hc => ?_) (fun hc => ?_)
      | refine w_cd rfl (fun hc => ?_) (fun hc => ?_)
      | refine w_cn rfl (fun hc => ?_) (fun hc => ?_)
      | refine w_cond rfl (fun hc => ?_) (fun hc => ?_)
      | (exfalso; exact absurd hc he)
      | (exfalso; simp at hc; done)
      | (refine l_o ?_; first | refine l_eqnil rfl (by kernel_rfl) (by intro b; simp only [nz]; rfl) (fun b hb => ?_) | refine l_op rfl (by first | (apply k_index; first | exact ops_byte (p := [b]) (i := 0) rfl rfl rfl (by kernel_rfl) | fail) | (apply k_callf; first | exact ops_callf (hfc := h1) | fail) | fail) (hk := ?_) | refine l_op (hk := ?_) | (refine l_g ?_; first | refine l_y rfl rfl rfl ?_ | refine l_n rfl rfl rfl rfl (hk := ?_) | refine l_n' rfl rfl rfl (hk := ?_) | refine l_spnd rfl rfl rfl (h1 := fun hc => ?_) (h2 := fun hc => ?_) | refine l_spd rfl rfl rfl (h1 := fun hc => ?_) (h2 := fun hc => ?_) | refine l_spn rfl rfl rfl (h1 := fun hc => ?_) (h2 := fun hc => ?_) | refine l_sp rfl rfl rfl (h1 := fun hc => ?_) (h2 := fun hc => ?_)))
    all_goals first
      | ((refine en_one (hf := Tryz.results76) (h := ?_); simp only [lget]; first | refine congrArg RVb ?_ | refine congrArg RVi ?_ | skip); done)
      | (exfalso; simp at hc; done)
      | trace_state
/-- Cut where the byte occurs. -/
theorem cut_some (s : List UInt8) (b : UInt8) (h : posB b s < s.length) (hs : s.length ≤ 9223372036854775807) : FCr Tryz.prog 27 [RV.str s, RV.str [b]] (.tup [RV.str (s.take (posB b s)), RV.str (s.drop (posB b s + 1)), RVb true]) := by
  have h1 := sIndex_ok s b hs
  rw [indexByte_pos, if_pos h] at h1
  have h2 : FCr Tryz.prog 51 [RV.str s, RV.str [b]] (.tup [RV.str (s.take (posB b s)), RV.str (s.drop (posB b s + 1)), RVb true]) := by
    refine (fcr_in Tryz.func51 rfl (by simp only [Tryz.ntmps51, anys, List.length_cons, List.length_nil, Nat.reduceAdd, Nat.reduceSub, List.replicate_succ, List.replicate_zero, List.cons_append, List.nil_append] <;> rfl) ?_)
    repeat' first
      | refine w_seq ?_
      | refine w_region ?_
      | refine l_nil ?_
      | refine rt_n ?_
      | refine w_ret ?_
      | refine rt_ret ?_
      | refine w_skip ?_
      | refine w_cond_t rfl ?_
      | refine w_cond_f rfl ?_
      | refine w_cnd rfl (fun hc => ?_) (fun hc => ?_)
      | refine w_cd rfl (fun hc => ?_) (fun hc => ?_)
      | refine w_cn rfl (fun hc => ?_) (fun hc => ?_)
      | refine w_cond rfl (fun hc => ?_) (fun hc => ?_)
      | (exfalso; omega)
      | (refine l_o ?_; first | refine l_op rfl (by first | (apply k_add; first | exact ops_addn (a := posB b s) (b := 1) rfl rfl (by omega) | fail) | (apply k_slice; first | exact ops_scuth (h := posB b s) rfl rfl (by omega) (by kernel_rfl) | exact ops_scutl (l := posB b s + 1) rfl rfl (by omega) (by kernel_rfl) | fail) | (apply k_callf; first | exact ops_callf (hfc := h1) | fail) | fail) (hk := ?_) | refine l_op (hk := ?_))
      | refine d_nil ?_
      | (refine d_o ?_; first | refine d_fl rfl (by first | exact .pl (by first | (apply q_add; first | exact fs_addn (a := posB b s) (b := 1) rfl rfl (by omega) | fail) | (apply q_slice; first | exact fs_scuth (h := posB b s) rfl rfl (by omega) (by kernel_rfl) | exact fs_scutl (l := posB b s + 1) rfl rfl (by omega) (by kernel_rfl) | fail) | fail) | fail) (hk := ?_) | refine d_fl (hk := ?_) | refine d_ef rfl (by first | exact .callf (hfc := h1) | fail) (hk := ?_) | refine d_ef (hk := ?_))
      | (refine w_o ?_; first | refine w_draw (id := 3) (fun _ => true) (fun k => [].contains k) [] 64 (by kernel_rfl) rfl (by kernel_rfl) (by simp [nm, nset, -List.map_take, -List.map_drop]) ?_)
    refine en_end (hf := Tryz.results51) (hr := ?_); simp only [ne, nf, nl, nr, lget, reduceIte, Nat.reduceEqDiff]; first | rfl | refine congrArg RVb ?_ | refine congrArg RVi ?_ | skip
  refine (fcr_in Tryz.func27 rfl (by simp only [Tryz.ntmps27, anys, List.length_cons, List.length_nil, Nat.reduceAdd, Nat.reduceSub, List.replicate_succ, List.replicate_zero, List.cons_append, List.nil_append] <;> rfl) ?_)
  repeat' first
    | refine w_seq ?_
    | refine w_region ?_
    | refine l_nil ?_
    | refine rt_n ?_
    | refine w_ret ?_
    | refine rt_ret ?_
    | refine w_skip ?_
    | (refine l_o ?_; first | refine l_op rfl (by first | (apply k_callf; first | exact ops_callf (hfc := h2) | fail) | fail) (hk := ?_) | refine l_op (hk := ?_))
  refine en_end (hf := Tryz.results27) (hr := ?_); simp only [ne, nf, nl, nr, lget, reduceIte, Nat.reduceEqDiff]; first | rfl | refine congrArg RVb ?_ | refine congrArg RVi ?_ | skip
theorem cut_none (s : List UInt8) (b : UInt8) (h : ¬ posB b s < s.length) (hs : s.length ≤ 9223372036854775807) : FCr Tryz.prog 27 [RV.str s, RV.str [b]] (.tup [RV.str s, RV.str [], RVb false]) := by
  have h1 := sIndex_ok s b hs
  rw [indexByte_pos, if_neg h] at h1
  have h2 : FCr Tryz.prog 51 [RV.str s, RV.str [b]] (.tup [RV.str s, RV.str [], RVb false]) := by
    refine (fcr_in Tryz.func51 rfl (by simp only [Tryz.ntmps51, anys, List.length_cons, List.length_nil, Nat.reduceAdd, Nat.reduceSub, List.replicate_succ, List.replicate_zero, List.cons_append, List.nil_append] <;> rfl) ?_)
    repeat' first
      | refine w_seq ?_
      | refine w_region ?_
      | refine l_nil ?_
      | refine rt_n ?_
      | refine w_ret ?_
      | refine rt_ret ?_
      | refine w_skip ?_
      | refine w_cond_t rfl ?_
      | refine w_cond_f rfl ?_
      | refine w_cnd rfl (fun hc => ?_) (fun hc => ?_)
      | refine w_cd rfl (fun hc => ?_) (fun hc => ?_)
      | refine w_cn rfl (fun hc => ?_) (fun hc => ?_)
      | refine w_cond rfl (fun hc => ?_) (fun hc => ?_)
      | (exfalso; omega)
      | (refine l_o ?_; first | refine l_op rfl (by first | (apply k_callf; first | exact ops_callf (hfc := h1) | fail) | fail) (hk := ?_) | refine l_op (hk := ?_))
      | refine d_nil ?_
      | (refine d_o ?_; first | refine d_fl (hk := ?_) | refine d_ef rfl (by first | exact .callf (hfc := h1) | fail) (hk := ?_) | refine d_ef (hk := ?_))
      | (refine w_o ?_; first | refine w_draw (id := 3) (fun _ => true) (fun k => [].contains k) [] 64 (by kernel_rfl) rfl (by kernel_rfl) (by simp [nm, nset, -List.map_take, -List.map_drop]) ?_)
    refine en_end (hf := Tryz.results51) (hr := ?_); simp only [ne, nf, nl, nr, lget, reduceIte, Nat.reduceEqDiff]; first | rfl | refine congrArg RVb ?_ | refine congrArg RVi ?_ | skip
  refine (fcr_in Tryz.func27 rfl (by simp only [Tryz.ntmps27, anys, List.length_cons, List.length_nil, Nat.reduceAdd, Nat.reduceSub, List.replicate_succ, List.replicate_zero, List.cons_append, List.nil_append] <;> rfl) ?_)
  repeat' first
    | refine w_seq ?_
    | refine w_region ?_
    | refine l_nil ?_
    | refine rt_n ?_
    | refine w_ret ?_
    | refine rt_ret ?_
    | refine w_skip ?_
    | (refine l_o ?_; first | refine l_op rfl (by first | (apply k_callf; first | exact ops_callf (hfc := h2) | fail) | fail) (hk := ?_) | refine l_op (hk := ?_))
  refine en_end (hf := Tryz.results27) (hr := ?_); simp only [ne, nf, nl, nr, lget, reduceIte, Nat.reduceEqDiff]; first | rfl | refine congrArg RVb ?_ | refine congrArg RVi ?_ | skip
end Go.Proofs.YtpcckakchpblcaaGreatDoor
