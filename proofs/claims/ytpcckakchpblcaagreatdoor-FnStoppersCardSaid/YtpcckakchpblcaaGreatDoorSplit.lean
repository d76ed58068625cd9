/- A text cut at each place of a byte: the library's Split. For all texts. -/
import Derived.Test.YtpcckakchpblcaaGreatDoorJ15
import Derived.Test.YtpcckakchpblcaaGreatDoorJ39
namespace Go.Proofs.YtpcckakchpblcaaGreatDoor
open Eng
section
variable {P : Program} {s : St} {ty : TypeId} {pos : String} {after : Array Edge} {d : Option Tmp} {g : Option (Nat × Bool)}
theorem ops_countByte {f x y ats} {fn : Func} {p : List UInt8} {b : UInt8} (hx : s.get x = .str p) (hy : s.get y = .v (.int .u8 (b.toNat : Nat))) (hf : P.funcs[f]? = some fn) (hname : (fn.name == "runtime.NumGoroutine") = false) (hb : fn.body.isNone = true) (hn : Extern.findNext fn = none) (he : Extern.find fn = some Extern.BytealgCount.count) :
    OpS P ⟨d, .call ⟨.value (.func f), #[x, y], ats⟩, ty, pos, after, g⟩ s ⟨sput d (.v (.int .i64 ((p.count b : Nat) : Int))) s.fr, s.O⟩ :=
  ops_ext2 hx hy hf hname hb hn he fun w => by
    rw [Lib.run_countString]
    simp [Lib.countByte]
theorem ops_minl {x y} {ts : Array TypeId} {m n : Nat} (hx : s.get x = .v (.int .i64 (m : Nat))) (hy : s.get y = .v (.int .i64 (n : Nat))) (h : m ≤ n) : OpS P ⟨d, .call ⟨.builtin .min, #[x, y], ts⟩, ty, pos, after, g⟩ s ⟨sput d (RVn m) s.fr, s.O⟩ := by
  have h2 := ops_min (P := P) (d := d) (ty := ty) (pos := pos) (after := after) (g := g) (ts := ts) hx hy
  rwa [show min (m : Int) (n : Int) = (m : Int) by omega] at h2
end
attribute [local irreducible] OpS OpG FC FCr Rel Fl Ef DR Fs
set_option linter.unusedSimpArgs false
set_option maxHeartbeats 0
set_option maxRecDepth 100000

theorem spl_at (b : UInt8) : ∀ (s acc : List UInt8), posB b s < s.length → spl b acc s = (acc ++ s.take (posB b s)) :: spl b [] (s.drop (posB b s + 1))
  | [], acc, h => by simp at h
  | c :: cs, acc, h => by
    rw [posB] at h ⊢
    by_cases e : c = b
    · rw [spl, if_pos e, if_pos e]; simp
    · rw [if_neg e] at h ⊢
      rw [spl, if_neg e, spl_at b cs (acc ++ [c]) (by simpa using h)]
      simp
theorem count_at (b : UInt8) : ∀ (s : List UInt8), posB b s < s.length → s.count b = (s.drop (posB b s + 1)).count b + 1
  | [], h => by simp at h
  | c :: cs, h => by
    rw [posB] at h ⊢
    by_cases e : c = b
    · rw [if_pos e]; subst e; simp
    · rw [if_neg e] at h ⊢
      rw [List.count_cons_of_ne (by simpa using e), count_at b cs (by simpa using h)]
      simp
theorem count_pos (b : UInt8) : ∀ (s : List UInt8), 0 < s.count b → posB b s < s.length
  | [], h => by simp at h
  | c :: cs, h => by
    rw [posB]
    by_cases e : c = b
    · rw [if_pos e]; simp
    · rw [if_neg e]
      rw [List.count_cons_of_ne (by simpa using e)] at h
      have := count_pos b cs h
      simpa using this
theorem spl_none (b : UInt8) : ∀ (s acc : List UInt8), s.count b = 0 → spl b acc s = [acc ++ s]
  | [], acc, _ => by simp [spl]
  | c :: cs, acc, h => by
    have e : c ≠ b := fun e => by subst e; simp at h
    rw [List.count_cons_of_ne (by simpa using e)] at h
    rw [spl, if_neg e, spl_none b cs _ h]
    simp
theorem take_set_snoc {α : Type} {L : List α} {i : Nat} (h : i < L.length) (x : α) : (L.set i x).take (i + 1) = L.take i ++ [x] := by
  rw [List.take_succ_eq_append_getElem (by simpa using h)]
  simp [List.take_set_of_le]
theorem count_ok (s : List UInt8) (b : UInt8) : FCr Tryz.prog 74 [RV.str s, RV.str [b]] (RVn (s.count b)) := by
  refine (fcr_in Tryz.func74 rfl (by simp only [Tryz.ntmps74, anys, List.length_cons, List.length_nil, Nat.reduceAdd, Nat.reduceSub, List.replicate_succ, List.replicate_zero, List.cons_append, List.nil_append] <;> rfl) ?_)
  repeat' first
    | refine w_seq ?_
    | refine w_block ?_
    | refine rb_n ?_
    | refine rb_ret ?_
    | refine rb_eq ?_
    | refine rb_ne (by rfl) ?_
    | refine w_region ?_
    | refine l_nil ?_
    | refine rt_n ?_
    | refine w_ret ?_
    | refine rt_ret ?_
    | refine w_skip ?_
    | refine w_cond_t rfl ?_
    | refine w_cond_f rfl ?_
    | refine w_cnd rfl (fun hc => ?_) (fun hc => ?_)
    | refine w_cd rfl (fun hc => ?_) (fun hc => ?_)
    | refine w_cn rfl (fun hc => ?_) (fun hc => ?_)
    | refine w_cond rfl (fun hc => ?_) (fun hc => ?_)
    | (exfalso; simp at hc; done)
    | (exfalso; exact hc rfl)
    | (refine l_o ?_; first | refine l_eqnil rfl (by kernel_rfl) (by intro b; simp only [nz]; rfl) (fun b hb => ?_) | refine l_op rfl (by first | (apply k_index; first | exact ops_byte (p := [b]) (i := 0) rfl rfl rfl (by kernel_rfl) | fail) | (apply k_callf; first | exact ops_countByte rfl rfl Tryz.func88 (by kernel_rfl) (by kernel_rfl) (by kernel_rfl) (by kernel_rfl) | fail) | fail) (hk := ?_) | refine l_op (hk := ?_))
  all_goals first
    | ((refine en_one (hf := Tryz.results74) (h := ?_); simp only [lget]; first | refine congrArg RVb ?_ | refine congrArg RVi ?_ | skip); done)
    | trace_state
theorem index_ok (s : List UInt8) (b : UInt8) (hs : s.length ≤ 9223372036854775807) : FCr Tryz.prog 75 [RV.str s, RV.str [b]] (RVi (Lib.indexByte s b)) := by
  have h := sIndex_ok s b hs
  refine (fcr_in Tryz.func75 rfl (by simp only [Tryz.ntmps75, anys, List.length_cons, List.length_nil, Nat.reduceAdd, Nat.reduceSub, List.replicate_succ, List.replicate_zero, List.cons_append, List.nil_append] <;> rfl) ?_)
  repeat' first
    | refine w_seq ?_
    | refine w_region ?_
    | refine l_nil ?_
    | refine rt_n ?_
    | refine w_ret ?_
    | refine rt_ret ?_
    | refine w_skip ?_
    | (refine l_o ?_; first | refine l_op rfl (by first | (apply k_callf; first | exact ops_callf (hfc := h) | fail) | fail) (hk := ?_) | refine l_op (hk := ?_))
  refine en_one (hf := Tryz.results75) (h := ?_); simp only [lget]; first | refine congrArg RVb ?_ | refine congrArg RVi ?_ | skip
theorem gsplit_ok (s : List UInt8) (b : UInt8) (hs : s.length ≤ 1000000000000) : FCr Tryz.prog 50 [RV.str s, RV.str [b], RVi 0, RVi (-1)] (.ow 1 ((spl b [] s).map RV.str)) := by
  have hC := count_ok s b
  have hcl : s.count b ≤ s.length := List.count_le_length
  generalize hcn : s.count b = c at *
  refine (fcr_in Tryz.func50 rfl (by simp only [Tryz.ntmps50, anys, List.length_cons, List.length_nil, Nat.reduceAdd, Nat.reduceSub, List.replicate_succ, List.replicate_zero, List.cons_append, List.nil_append] <;> rfl) ?_)
  repeat' first
    | refine w_seq ?_
    | refine w_block ?_
    | refine rb_n ?_
    | refine rb_ret ?_
    | refine rb_eq ?_
    | refine rb_ne (by rfl) ?_
    | refine w_exit ?_
    | refine rt_exit ?_
    | refine w_region ?_
    | refine l_nil ?_
    | refine rt_n ?_
    | refine w_ret ?_
    | refine rt_ret ?_
    | refine w_skip ?_
    | refine w_cond_t rfl ?_
    | refine w_cond_f rfl ?_
    | refine w_cnd rfl (fun hc => ?_) (fun hc => ?_)
    | refine w_cd rfl (fun hc => ?_) (fun hc => ?_)
    | refine w_cn rfl (fun hc => ?_) (fun hc => ?_)
    | refine w_cond rfl (fun hc => ?_) (fun hc => ?_)
    | (exfalso; omega)
    | (exfalso; simp at hc; done)
    | (refine l_o ?_; first | refine l_eqnil rfl (by kernel_rfl) (by intro b; simp only [nz]; rfl) (fun b hb => ?_) | refine l_op rfl (by first | (apply k_add; first | exact ops_addn (a := c) (b := 1) rfl rfl (by omega) | exact ops_addn (a := s.length) (b := 1) rfl rfl (by omega) | fail) | (apply k_min; first | exact ops_minl (m := c + 1) (n := s.length + 1) rfl rfl (by omega) | fail) | (apply k_sub; first | exact ops_pred (a := c) rfl (by omega) | fail) | (apply k_callf; first | exact ops_callf (hfc := hC) | fail) | fail) (hk := ?_) | refine l_op (hk := ?_))
  refine w_loopm (ι := Nat × List UInt8 × List (List UInt8)) (fun q => [(0, RV.str q.2.1), (10, RVn q.1), (11, .any)]) (fun q => [(31, 1, q.2.2.map RV.str)]) (fun q => q.1 ≤ c ∧ q.2.2.length = c + 1 ∧ q.2.1.count b + q.1 = c ∧ q.2.1.length ≤ s.length ∧ q.2.2.take q.1 ++ spl b [] q.2.1 = spl b [] s) (fun q => c - q.1) (0, s, List.replicate (c + 1) []) (h0 := ?_) (hs := ?_) (round := ?_)
  · exact ⟨by omega, by simp, by simp [hcn], Nat.le_refl _, by simp⟩
  · refine le_eq (by (repeat' first | exact .nil | refine .keep ?_ | refine .any ?_); first | done | fail) rfl rfl
  · intro ⟨i, t, L⟩ ⟨hi, hL, hct, htl, hg⟩
    dsimp only at hi hL hct htl hg ⊢
    by_cases hil : i < c
    · have hp := count_pos b t (by omega)
      have hI := index_ok t b (by omega)
      rw [indexByte_pos, if_pos hp] at hI
      have e1 := count_at b t hp
      have e2 := spl_at b t [] hp
      generalize posB b t = p at *
      repeat' first
        | refine w_seq ?_
        | refine w_block ?_
        | refine rb_n ?_
        | refine rb_ret ?_
        | refine rb_eq ?_
        | refine rb_ne (by rfl) ?_
        | refine w_exit ?_
        | refine rt_exit ?_
        | refine w_region ?_
        | refine l_nil ?_
        | refine rt_n ?_
        | refine w_ret ?_
        | refine rt_ret ?_
        | refine w_skip ?_
        | refine w_cond_t rfl ?_
        | refine w_cond_f rfl ?_
        | refine w_cnd rfl (fun hc => ?_) (fun hc => ?_)
        | refine w_cd rfl (fun hc => ?_) (fun hc => ?_)
        | refine w_cn rfl (fun hc => ?_) (fun hc => ?_)
        | refine w_cond rfl (fun hc => ?_) (fun hc => ?_)
        | (exfalso; omega)
        | (refine l_o ?_; first | refine l_eqnil rfl (by kernel_rfl) (by intro b; simp only [nz]; rfl) (fun b hb => ?_) | refine l_op rfl (by first | (apply k_add; first | exact ops_addn (a := p) (b := 0) rfl rfl (by omega) | exact ops_addn (a := p) (b := 1) rfl rfl (by omega) | fail) | (apply k_slice; first | exact ops_scuth (h := p) rfl rfl (by omega) (by kernel_rfl) | exact ops_scutl (l := p + 1) rfl rfl (by omega) (by kernel_rfl) | fail) | (apply k_callf; first | exact ops_callf (hfc := hI) | fail) | fail) (hk := ?_) | refine l_op (hk := ?_))
      rw [show (L.map RV.str).set i (RV.str (t.take p)) = (L.set i (t.take p)).map RV.str from List.map_set.symm]
      refine rn_mk (i + 1, t.drop (p + 1), L.set i (t.take p)) ?_ (by first | omega | (dsimp only; omega)) (le_eq (by (repeat' first | exact .nil | refine .keep ?_ | refine .any ?_); first | done | fail) rfl rfl)
      refine ⟨by dsimp only; omega, by simpa using hL, by dsimp only; omega, by dsimp only; rw [List.length_drop]; omega, ?_⟩
      dsimp only
      rw [← hg, e2, take_set_snoc (by omega)]
      simp
    · obtain rfl : i = c := by omega
      have e2 := spl_none b t [] (by omega)
      rw [List.nil_append] at e2
      have hX : L.set i t = spl b [] s := by
        rw [← hg, e2, ← take_set_snoc (by omega), List.take_of_length_le (by simp; omega)]
      repeat' first
        | refine w_seq ?_
        | refine w_block ?_
        | refine rb_n ?_
        | refine rb_ret ?_
        | refine rb_eq ?_
        | refine rb_ne (by rfl) ?_
        | refine w_exit ?_
        | refine rt_exit ?_
        | refine w_region ?_
        | refine l_nil ?_
        | refine rt_n ?_
        | refine w_ret ?_
        | refine rt_ret ?_
        | refine w_skip ?_
        | refine w_cond_t rfl ?_
        | refine w_cond_f rfl ?_
        | refine w_cnd rfl (fun hc => ?_) (fun hc => ?_)
        | refine w_cd rfl (fun hc => ?_) (fun hc => ?_)
        | refine w_cn rfl (fun hc => ?_) (fun hc => ?_)
        | refine w_cond rfl (fun hc => ?_) (fun hc => ?_)
        | (exfalso; omega)
        | (refine l_o ?_; first | refine l_eqnil rfl (by kernel_rfl) (by intro b; simp only [nz]; rfl) (fun b hb => ?_) | refine l_op rfl (by first | (apply k_add; first | exact ops_addn (a := i) (b := 1) rfl rfl (by omega) | fail) | fail) (hk := ?_) | refine l_op (hk := ?_))
      have hXl : i + 1 = ((spl b [] s).map RV.str).length := by rw [← hX]; simpa using hL.symm
      rw [show (L.map RV.str).set i (RV.str t) = (spl b [] s).map RV.str by rw [← hX]; exact List.map_set.symm, hXl]
      refine en_end (hf := Tryz.results50) (hr := ?_); simp only [ne, nf, nl, nr, lget, reduceIte, Nat.reduceEqDiff]; first | rfl | refine congrArg RVb ?_ | refine congrArg RVi ?_ | skip
theorem split_ok (s : List UInt8) (b : UInt8) (hs : s.length ≤ 1000000000000) : FCr Tryz.prog 26 [RV.str s, RV.str [b]] (.ow 1 ((spl b [] s).map RV.str)) := by
  have h := gsplit_ok s b hs
  refine (fcr_in Tryz.func26 rfl (by simp only [Tryz.ntmps26, anys, List.length_cons, List.length_nil, Nat.reduceAdd, Nat.reduceSub, List.replicate_succ, List.replicate_zero, List.cons_append, List.nil_append] <;> rfl) ?_)
  repeat' first
    | refine w_seq ?_
    | refine w_region ?_
    | refine l_nil ?_
    | refine rt_n ?_
    | refine w_ret ?_
    | refine rt_ret ?_
    | refine w_skip ?_
    | (refine l_o ?_; first | refine l_op rfl (by first | (apply k_callf; first | exact ops_callv (hfc := h) | fail) | fail) (hk := ?_) | refine l_op (hk := ?_))
  refine en_end (hf := Tryz.results26) (hr := ?_); simp only [ne, nf, nl, nr, lget, reduceIte, Nat.reduceEqDiff]; first | rfl | refine congrArg RVb ?_ | refine congrArg RVi ?_ | skip
end Go.Proofs.YtpcckakchpblcaaGreatDoor
