/- Rows held against one another as the laws do it. For all rows. -/
import Derived.Laws.StructEq
import Derived.Test.YtdignmbeiohhiaaDrawRw
import Derived.Test.YtdignmbeiohhiaaRws
import Derived.Test.YtdignmbeiohhiaaSlc
namespace Go.Proofs.Ytdignmbeiohhiaa
open Eng
attribute [local irreducible] OpG FC FCr Rel Fl Ef DR
attribute [local simp] RV.fzR_names
set_option linter.unusedSimpArgs false
set_option maxHeartbeats 0
set_option maxRecDepth 100000

theorem row_val {w F ρ fp} {p : Rw} {y : Value} (h : SV w F ρ (RRw p) y fp) : y = .agg #[.string ⟨p.1.toArray⟩, .string ⟨p.2.toArray⟩] := by
  obtain ⟨c, rfl, hoe⟩ := h.agg_inv
  obtain ⟨e, _⟩ := pe_s.linv (l := [p.1, p.2]) hoe
  have : c = #[.string ⟨p.1.toArray⟩, .string ⟨p.2.toArray⟩] := Array.ext' (by simpa using e)
  rw [this]
theorem run_neq_row (w : World) (p q : Rw) : (binOp .neq 31 (.agg #[.string ⟨p.1.toArray⟩, .string ⟨p.2.toArray⟩]) (.agg #[.string ⟨q.1.toArray⟩, .string ⟨q.2.toArray⟩])).run Try.prog w = .ok (.bool (decide (p ≠ q))) w := by
  have ht : Try.prog.underlying 31 = some (.struct (Try.prog.fieldsOf 31)) := by kernel_rfl
  have hp : Try.prog.stoodInHeld 31 = false := by kernel_rfl
  have hs := Try.underlying9
  have hf : (Try.prog.fieldsOf 31).toList = [⟨"Key", 9, 0, false, "", "", 0⟩, ⟨"Worth", 9, 1, false, "", "", 16⟩] := by kernel_rfl
  rw [run_neq_struct, show (10000 : Nat) = 9999 + 1 from rfl, run_equalIn_agg w 9999 _ _ _ ht hp, hf]
  have hk : Try.prog.plainKey 9 = true := by kernel_rfl
  have e1 := run_part_plain (w := w) hk (xs := #[.string ⟨p.1.toArray⟩, .string ⟨p.2.toArray⟩]) (off := 0) (v := .string ⟨p.1.toArray⟩) rfl
  have e2 := run_part_plain (w := w) hk (xs := #[.string ⟨p.1.toArray⟩, .string ⟨p.2.toArray⟩]) (off := 1) (v := .string ⟨p.2.toArray⟩) rfl
  have e3 := run_part_plain (w := w) hk (xs := #[.string ⟨q.1.toArray⟩, .string ⟨q.2.toArray⟩]) (off := 0) (v := .string ⟨q.1.toArray⟩) rfl
  have e4 := run_part_plain (w := w) hk (xs := #[.string ⟨q.1.toArray⟩, .string ⟨q.2.toArray⟩]) (off := 1) (v := .string ⟨q.2.toArray⟩) rfl
  have e5 : ∀ a b, (Op.equalIn 9999 9 (.string a) (.string b)).run Try.prog w = .ok (a.toList == b.toList) w := fun a b => run_equalIn_string w 9998 9 a b hs
  simp only [Op.eqFields, ne_eq, String.reduceEq, not_false_eq_true, if_true, Sem.run_bind, e1, e2, e3, e4, Result.andThen_ok, e5, toList_str, Sem.run_ite, Sem.run_pure]
  obtain ⟨a, b⟩ := p
  obtain ⟨c, d⟩ := q
  by_cases h1 : a = c <;> by_cases h2 : b = d <;> simp [h1, h2, Result.andThen]
section
variable {RO : Nat → Bool} {d : Option Tmp} {ty : TypeId} {pos : String} {after : Array Edge} {g : Option (Nat × Bool)} {s : St} {x y : Operand} {u : TypeId} {p q : Rw}
theorem ops_nerw (hx : s.get x = RRw p) (hy : s.get y = RRw q) : OpS Try.prog ⟨d, .binOp .neq 31 x y u, ty, pos, after, g⟩ s ⟨sput d (.v (.bool (decide (p ≠ q)))) s.fr, s.O⟩ :=
  ops_exact fun E a w F ρ fp hr => by
    have h1 := row_val (hx ▸ hr.get x)
    have h2 := row_val (hy ▸ hr.get y)
    have hm : Try.prog.eqGuardType Try.prog.depth 31 = false := by kernel_rfl
    simp [execOp, h1, h2, run_eqGuard_agg _ _ _ _ _ _ _ hm, run_neq_row]
theorem fs_nerw (hx : s.get x = RRw p) (hy : s.get y = RRw q) : Fs Try.prog RO ⟨d, .binOp .neq 31 x y u, ty, pos, after, g⟩ s (.v (.bool (decide (p ≠ q)))) := fun s2 hs _ =>
  ops_nerw ((hs _ (by simp [Op.operands])).trans hx) ((hs _ (by simp [Op.operands])).trans hy)
end
attribute [local irreducible] OpS Fs
theorem rRows_ok (l m : List Rw) : FCr Try.prog 30 [RRws l, RRws m] (RVb (decide (l = m))) := by
  refine fcr_lens fun hL => ?_
  simp only [lnk] at hL
  refine (fcr_in Try.func30 rfl (by simp only [Try.ntmps30, anys, List.length_cons, List.length_nil, Nat.reduceAdd, Nat.reduceSub, List.replicate_succ, List.replicate_zero, List.cons_append, List.nil_append] <;> rfl) ?_)
  repeat' first
    | refine w_seq ?_
    | refine w_block ?_
    | refine rb_n ?_
    | refine rb_ret ?_
    | refine rb_eq ?_
    | refine rb_ne (by rfl) ?_
    | refine w_exit ?_
    | refine rt_exit ?_
    | refine w_region ?_
    | refine l_nil ?_
    | refine rt_n ?_
    | refine w_ret ?_
    | refine rt_ret ?_
    | refine w_skip ?_
    | refine w_cond_t rfl ?_
    | refine w_cond_f rfl ?_
    | refine w_cnd rfl (fun hc => ?_) (fun hc => ?_)
    | refine w_cd rfl (fun hc => ?_) (fun hc => ?_)
    | refine w_cn rfl (fun hc => ?_) (fun hc => ?_)
    | refine w_cond rfl (fun hc => ?_) (fun hc => ?_)
    | (refine l_o ?_; first | refine l_op (hk := ?_))
    | refine d_nil ?_
    | (refine d_o ?_; first | refine d_fl (hk := ?_) | refine d_ef (hk := ?_))
    | (refine w_o ?_; first | refine w_draw (id := 6) (fun _ => true) (fun k => [].contains k) [] 64 (by kernel_rfl) rfl (by kernel_rfl) (by simp [nm, nset, -List.map_take, -List.map_drop]) ?_)
  · refine en_one (hf := Try.results30) (h := ?_); simp only [lget]; first | refine congrArg RVb ?_ | refine congrArg RVi ?_ | skip
    grind
  have hn : l.length = m.length := by omega
  clear hc
  refine w_loopm (ι := Nat) (fun k => [(5, RVi k)]) (fun _ => []) (fun k => k ≤ l.length ∧ ((l.drop k = m.drop k) ↔ l = m)) (fun k => l.length - k) 0 (h0 := ?_) (hs := ?_) (round := ?_)
  · simp
  · refine le_eq (by (repeat' first | exact .nil | refine .keep ?_ | refine .any ?_); first | done | fail) rfl rfl
  · intro k ⟨hk, hg⟩
    by_cases hkl : k < l.length
    · repeat' first
        | refine w_seq ?_
        | refine w_block ?_
        | refine rb_n ?_
        | refine rb_ret ?_
        | refine rb_eq ?_
        | refine rb_ne (by rfl) ?_
        | refine w_exit ?_
        | refine rt_exit ?_
        | refine w_region ?_
        | refine l_nil ?_
        | refine rt_n ?_
        | refine w_ret ?_
        | refine rt_ret ?_
        | refine w_skip ?_
        | refine w_cond_t rfl ?_
        | refine w_cond_f rfl ?_
        | refine w_cnd rfl (fun hc => ?_) (fun hc => ?_)
        | refine w_cd rfl (fun hc => ?_) (fun hc => ?_)
        | refine w_cn rfl (fun hc => ?_) (fun hc => ?_)
        | refine w_cond rfl (fun hc => ?_) (fun hc => ?_)
        | (exfalso; omega)
        | (refine l_o ?_; first | refine l_op rfl (by first | (apply k_neq; first | exact ops_nerw (p := l[k]) (q := m[k]) rfl rfl | fail) | fail) (hk := ?_) | refine l_op (hk := ?_))
        | refine d_nil ?_
        | (refine d_o ?_; first | refine d_fl rfl (by first | exact .pl (by first | (apply q_neq; first | exact fs_nerw (p := l[k]) (q := m[k]) rfl rfl | fail) | fail) | fail) (hk := ?_) | refine d_fl (hk := ?_) | refine d_ef (hk := ?_))
        | (refine w_o ?_; first | refine w_draw (id := 6) (fun _ => true) (fun k => [].contains k) [] 64 (by kernel_rfl) rfl (by kernel_rfl) (by simp [nm, nset, -List.map_take, -List.map_drop]) ?_)
      · refine en_one (hf := Try.results30) (h := ?_); simp only [lget]; first | refine congrArg RVb ?_ | refine congrArg RVi ?_ | skip
        grind [drop_both]
      · refine rn_mk (k + 1) ?_ (by first | omega | (dsimp only; omega)) (le_eq (by (repeat' first | exact .nil | refine .keep ?_ | refine .any ?_); first | done | fail) rfl rfl)
        grind [drop_both]
    · repeat' first
        | refine w_seq ?_
        | refine w_block ?_
        | refine rb_n ?_
        | refine rb_ret ?_
        | refine rb_eq ?_
        | refine rb_ne (by rfl) ?_
        | refine w_exit ?_
        | refine rt_exit ?_
        | refine w_region ?_
        | refine l_nil ?_
        | refine rt_n ?_
        | refine w_ret ?_
        | refine rt_ret ?_
        | refine w_skip ?_
        | refine w_cond_t rfl ?_
        | refine w_cond_f rfl ?_
        | refine w_cnd rfl (fun hc => ?_) (fun hc => ?_)
        | refine w_cd rfl (fun hc => ?_) (fun hc => ?_)
        | refine w_cn rfl (fun hc => ?_) (fun hc => ?_)
        | refine w_cond rfl (fun hc => ?_) (fun hc => ?_)
        | (exfalso; omega)
        | (refine l_o ?_; first | refine l_op (hk := ?_))
        | refine d_nil ?_
        | (refine d_o ?_; first | refine d_fl (hk := ?_) | refine d_ef (hk := ?_))
        | (refine w_o ?_; first | refine w_draw (id := 6) (fun _ => true) (fun k => [].contains k) [] 64 (by kernel_rfl) rfl (by kernel_rfl) (by simp [nm, nset, -List.map_take, -List.map_drop]) ?_)
      refine en_one (hf := Try.results30) (h := ?_); simp only [lget]; first | refine congrArg RVb ?_ | refine congrArg RVi ?_ | skip
      grind [dn]
theorem rTexts_ok (l m : List (List UInt8)) : FCr Try.prog 42 [RSs l, RSs m] (RVb (decide (l = m))) := by
  refine fcr_lens fun hL => ?_
  simp only [lnk] at hL
  refine (fcr_in Try.func42 rfl (by simp only [Try.ntmps42, anys, List.length_cons, List.length_nil, Nat.reduceAdd, Nat.reduceSub, List.replicate_succ, List.replicate_zero, List.cons_append, List.nil_append] <;> rfl) ?_)
  repeat' first
    | refine w_seq ?_
    | refine w_block ?_
    | refine rb_n ?_
    | refine rb_ret ?_
    | refine rb_eq ?_
    | refine rb_ne (by rfl) ?_
    | refine w_exit ?_
    | refine rt_exit ?_
    | refine w_region ?_
    | refine l_nil ?_
    | refine rt_n ?_
    | refine w_ret ?_
    | refine rt_ret ?_
    | refine w_skip ?_
    | refine w_cond_t rfl ?_
    | refine w_cond_f rfl ?_
    | refine w_cnd rfl (fun hc => ?_) (fun hc => ?_)
    | refine w_cd rfl (fun hc => ?_) (fun hc => ?_)
    | refine w_cn rfl (fun hc => ?_) (fun hc => ?_)
    | refine w_cond rfl (fun hc => ?_) (fun hc => ?_)
    | (refine l_o ?_; first | refine l_op (hk := ?_))
    | refine d_nil ?_
    | (refine d_o ?_; first | refine d_fl (hk := ?_) | refine d_ef (hk := ?_))
    | (refine w_o ?_; first | refine w_draw (id := 6) (fun _ => true) (fun k => [].contains k) [] 64 (by kernel_rfl) rfl (by kernel_rfl) (by simp [nm, nset, -List.map_take, -List.map_drop]) ?_)
  · refine en_one (hf := Try.results42) (h := ?_); simp only [lget]; first | refine congrArg RVb ?_ | refine congrArg RVi ?_ | skip
    grind
  have hn : l.length = m.length := by omega
  clear hc
  refine w_loopm (ι := Nat) (fun k => [(5, RVi k)]) (fun _ => []) (fun k => k ≤ l.length ∧ ((l.drop k = m.drop k) ↔ l = m)) (fun k => l.length - k) 0 (h0 := ?_) (hs := ?_) (round := ?_)
  · simp
  · refine le_eq (by (repeat' first | exact .nil | refine .keep ?_ | refine .any ?_); first | done | fail) rfl rfl
  · intro k ⟨hk, hg⟩
    repeat' first
      | refine w_seq ?_
      | refine w_block ?_
      | refine rb_n ?_
      | refine rb_ret ?_
      | refine rb_eq ?_
      | refine rb_ne (by rfl) ?_
      | refine w_exit ?_
      | refine rt_exit ?_
      | refine w_region ?_
      | refine l_nil ?_
      | refine rt_n ?_
      | refine w_ret ?_
      | refine rt_ret ?_
      | refine w_skip ?_
      | refine w_cond_t rfl ?_
      | refine w_cond_f rfl ?_
      | refine w_cnd rfl (fun hc => ?_) (fun hc => ?_)
      | refine w_cd rfl (fun hc => ?_) (fun hc => ?_)
      | refine w_cn rfl (fun hc => ?_) (fun hc => ?_)
      | refine w_cond rfl (fun hc => ?_) (fun hc => ?_)
      | (refine l_o ?_; first | refine l_op (hk := ?_))
      | refine d_nil ?_
      | (refine d_o ?_; first | refine d_fl (hk := ?_) | refine d_ef (hk := ?_))
      | (refine w_o ?_; first | refine w_draw (id := 6) (fun _ => true) (fun k => [].contains k) [] 64 (by kernel_rfl) rfl (by kernel_rfl) (by simp [nm, nset, -List.map_take, -List.map_drop]) ?_)
    · refine en_one (hf := Try.results42) (h := ?_); simp only [lget]; first | refine congrArg RVb ?_ | refine congrArg RVi ?_ | skip
      grind [drop_both]
    · refine rn_mk (k + 1) ?_ (by first | omega | (dsimp only; omega)) (le_eq (by (repeat' first | exact .nil | refine .keep ?_ | refine .any ?_); first | done | fail) rfl rfl)
      grind [drop_both]
    · refine en_one (hf := Try.results42) (h := ?_); simp only [lget]; first | refine congrArg RVb ?_ | refine congrArg RVi ?_ | skip
      grind [dn]
end Go.Proofs.Ytdignmbeiohhiaa
