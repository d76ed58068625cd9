/- Where a key stands: the program's search by halves, the reference's search. For all rows of the lengths that the theorems name. -/
import Derived.Test.YtdignmbeiohhiaaGoodRs
namespace Go.Proofs.Ytdignmbeiohhiaa
open Eng
attribute [local irreducible] OpS OpG FC FCr Rel Fl Ef DR Fs
set_option linter.unusedSimpArgs false
set_option maxHeartbeats 0
set_option maxRecDepth 100000

/-- Where a key stands among rows, or -1. -/
def fndFrom (key : List UInt8) : Nat → List Rw → Int
  | _, [] => -1
  | k, r :: rs => if r.1 = key then k else fndFrom key (k + 1) rs
def fnd (l : List Rw) (key : List UInt8) : Int := fndFrom key 0 l
theorem l27Find_ok (l : List Rw) (key : List UInt8) : FCr Try.prog 121 [RRws l, RV.str key] (RVi (fnd l key)) := by
  refine fcr_lens fun hL => ?_
  simp only [lnk] at hL
  refine (fcr_in Try.func121 rfl (by simp only [Try.ntmps121, anys, List.length_cons, List.length_nil, Nat.reduceAdd, Nat.reduceSub, List.replicate_succ, List.replicate_zero, List.cons_append, List.nil_append] <;> rfl) ?_)
  repeat' first
    | refine w_seq ?_
    | refine w_block ?_
    | refine rb_n ?_
    | refine rb_ret ?_
    | refine rb_eq ?_
    | refine rb_ne (by rfl) ?_
    | refine w_exit ?_
    | refine rt_exit ?_
    | refine w_region ?_
    | refine l_nil ?_
    | refine rt_n ?_
    | refine w_ret ?_
    | refine rt_ret ?_
    | refine w_skip ?_
    | refine w_cond_t rfl ?_
    | refine w_cond_f rfl ?_
    | refine w_cnd rfl (fun hc => ?_) (fun hc => ?_)
    | refine w_cd rfl (fun hc => ?_) (fun hc => ?_)
    | refine w_cn rfl (fun hc => ?_) (fun hc => ?_)
    | refine w_cond rfl (fun hc => ?_) (fun hc => ?_)
    | (refine l_o ?_; first | refine l_eqnil rfl (by kernel_rfl) (by intro b; simp only [nz]; rfl) (fun b hb => ?_) | refine l_op (hk := ?_))
  refine w_loopm (ι := Nat) (fun k => [(5, RVn k)]) (fun _ => []) (fun k => k ≤ l.length ∧ fndFrom key k (l.drop k) = fnd l key) (fun k => l.length - k) 0 (h0 := ?_) (hs := ?_) (round := ?_)
  · simp [fnd]
  · refine le_eq (by (repeat' first | exact .nil | refine .keep ?_ | refine .any ?_); first | done | fail) rfl rfl
  · intro k ⟨hk, hg⟩
    by_cases hkl : k < l.length
    · rw [dc hkl, fndFrom] at hg
      repeat' first
        | refine w_seq ?_
        | refine w_block ?_
        | refine rb_n ?_
        | refine rb_ret ?_
        | refine rb_eq ?_
        | refine rb_ne (by rfl) ?_
        | refine w_exit ?_
        | refine rt_exit ?_
        | refine w_region ?_
        | refine l_nil ?_
        | refine rt_n ?_
        | refine w_ret ?_
        | refine rt_ret ?_
        | refine w_skip ?_
        | refine w_cond_t rfl ?_
        | refine w_cond_f rfl ?_
        | refine w_cnd rfl (fun hc => ?_) (fun hc => ?_)
        | refine w_cd rfl (fun hc => ?_) (fun hc => ?_)
        | refine w_cn rfl (fun hc => ?_) (fun hc => ?_)
        | refine w_cond rfl (fun hc => ?_) (fun hc => ?_)
        | (exfalso; omega)
        | (refine l_o ?_; first | refine l_eqnil rfl (by kernel_rfl) (by intro b; simp only [nz]; rfl) (fun b hb => ?_) | refine l_op (hk := ?_))
      · refine en_one (hf := Try.results121) (h := ?_); simp only [lget]; first | refine congrArg RVb ?_ | refine congrArg RVi ?_ | skip
        rw [if_pos hc] at hg
        exact hg
      · rw [if_neg hc] at hg
        refine rn_mk (k + 1) ?_ (by first | omega | (dsimp only; omega)) (le_eq (by (repeat' first | exact .nil | refine .keep ?_ | refine .any ?_); first | done | fail) rfl rfl)
        exact ⟨by omega, hg⟩
    · repeat' first
        | refine w_seq ?_
        | refine w_block ?_
        | refine rb_n ?_
        | refine rb_ret ?_
        | refine rb_eq ?_
        | refine rb_ne (by rfl) ?_
        | refine w_exit ?_
        | refine rt_exit ?_
        | refine w_region ?_
        | refine l_nil ?_
        | refine rt_n ?_
        | refine w_ret ?_
        | refine rt_ret ?_
        | refine w_skip ?_
        | refine w_cond_t rfl ?_
        | refine w_cond_f rfl ?_
        | refine w_cnd rfl (fun hc => ?_) (fun hc => ?_)
        | refine w_cd rfl (fun hc => ?_) (fun hc => ?_)
        | refine w_cn rfl (fun hc => ?_) (fun hc => ?_)
        | refine w_cond rfl (fun hc => ?_) (fun hc => ?_)
        | (exfalso; omega)
        | (refine l_o ?_; first | refine l_eqnil rfl (by kernel_rfl) (by intro b; simp only [nz]; rfl) (fun b hb => ?_) | refine l_op (hk := ?_))
      rw [show l.drop k = [] from List.drop_of_length_le (by omega), fndFrom] at hg
      refine en_one (hf := Try.results121) (h := ?_); simp only [lget]; first | refine congrArg RVb ?_ | refine congrArg RVi ?_ | skip
      exact hg

/-- Rising keys. -/
def Srt (l : List Rw) : Prop := ∀ a b (hb : b < l.length) (h : a < b), bl (l[a]'(by omega)).1 l[b].1 = true
theorem chk_rise : ∀ (l : List Rw) (p : Option (List UInt8)), chk p l = true → (∀ q, p = some q → ∀ r ∈ l, bl q r.1 = true) ∧ Srt l
  | [], p, _ => ⟨by simp, fun a b hb => by simp at hb⟩
  | r :: rs, p, h => by
    rw [chk] at h
    split at h
    · cases h
    · split at h
      · cases h
      · rename_i h2
        obtain ⟨h3, h4⟩ := chk_rise rs _ h
        have h5 : ∀ q, p = some q → bl q r.1 = true := fun q hq => by
          cases hh : bl q r.1 with
          | true => rfl
          | false => exact absurd ⟨q, hq, hh⟩ h2
        refine ⟨fun q hq x hx => ?_, fun a b hb hab => ?_⟩
        · rcases List.mem_cons.1 hx with rfl | hx
          · exact h5 q hq
          · exact bl_trans (h5 q hq) (h3 _ rfl x hx)
        · cases b with
          | zero => omega
          | succ b =>
            cases a with
            | zero => exact h3 _ rfl _ (List.getElem_mem _)
            | succ a => exact h4 a b (by simpa using hb) (by omega)
theorem goodRs_srt {l : List Rw} (h : goodRs l = true) : Srt l := by
  unfold goodRs at h
  split at h
  · cases h
  · exact (chk_rise l none h).2
/-- A place that parts the keys ahead of a key from the others. -/
structure Plc (l : List Rw) (key : List UInt8) (i : Nat) : Prop where
  le : i ≤ l.length
  lo : ∀ a (h : a < i), bl (l[a]'(by omega)).1 key = true
  hi : ∀ a (h : a < l.length), i ≤ a → bl l[a].1 key = false
theorem Srt.tail {r : Rw} {l : List Rw} (h : Srt (r :: l)) : Srt l := fun a b hb hab => h (a + 1) (b + 1) (by simpa using hb) (by omega)
theorem plc_ex (key : List UInt8) : ∀ l : List Rw, Srt l → ∃ i, Plc l key i
  | [], _ => ⟨0, ⟨Nat.le_refl _, fun a h => by omega, fun a h => by simp at h⟩⟩
  | r :: l, h => by
    cases hb : bl r.1 key with
    | true =>
      obtain ⟨i, h1, h2, h3⟩ := plc_ex key l h.tail
      refine ⟨i + 1, ⟨by simp; omega, fun a ha => ?_, fun a ha hia => ?_⟩⟩
      · cases a with
        | zero => exact hb
        | succ a => exact h2 a (by omega)
      · cases a with
        | zero => omega
        | succ a => exact h3 a (by simpa using ha) (by omega)
    | false =>
      refine ⟨0, ⟨by omega, fun a h => by omega, fun a ha _ => ?_⟩⟩
      cases a with
      | zero => exact hb
      | succ a =>
        have h1 := h 0 (a + 1) ha (by omega)
        cases hh : bl (l[a]'(by simpa using ha)).1 key with
        | false => simpa using hh
        | true =>
          have h1' : bl r.1 (l[a]'(by simpa using ha)).1 = true := by simpa using h1
          rw [bl_trans h1' hh] at hb
          cases hb
/-- The key stands at its place. -/
def isAt (l : List Rw) (key : List UInt8) (i : Nat) : Bool := match l[i]? with | some r => decide (r.1 = key) | none => false

theorem cmp_lt (p q : List UInt8) : decide (Lib.compareBytes p q < 0) = bl p q := by
  rw [cmp_bl]
  cases hb : bl p q
  · simp; split <;> decide
  · simp
theorem cmp_eq0 (p q : List UInt8) : decide (Lib.compareBytes p q = 0) = decide (p = q) := by
  rw [cmp_bl]
  cases hb : bl p q
  · by_cases h : p = q <;> simp [h]
  · have : p ≠ q := fun e => by subst e; rw [bl_irr] at hb; cases hb
    simp [this]
theorem placeCmp_ok (r : Rw) (key : List UInt8) : FCr Try.prog 117 [RRw r, RV.str key] (RVi (Lib.compareBytes r.1 key)) := by
  refine (fcr_in Try.func117 rfl (by simp only [Try.ntmps117, anys, List.length_cons, List.length_nil, Nat.reduceAdd, Nat.reduceSub, List.replicate_succ, List.replicate_zero, List.cons_append, List.nil_append] <;> rfl) ?_)
  repeat' first
    | refine w_seq ?_
    | refine w_region ?_
    | refine l_nil ?_
    | refine rt_n ?_
    | refine w_ret ?_
    | refine rt_ret ?_
    | refine w_skip ?_
    | (refine l_o ?_; first | refine l_op rfl (by first | (apply k_callf; first | exact ops_callf (hfc := stringsCompare_ok r.1 key) | fail) | fail) (hk := ?_) | refine l_op (hk := ?_))
  refine en_one (hf := Try.results117) (h := ?_); simp only [lget]; first | refine congrArg RVb ?_ | refine congrArg RVi ?_ | skip
theorem bsearch_ok (l : List Rw) (key : List UInt8) (i : Nat) (h : Plc l key i) (hl : l.length ≤ 1048576) :
    FCr Try.prog 116 [RRws l, RV.str key, .v (.func (.func 117) #[] #[])] (.tup [RVn i, RVb (isAt l key i)]) := by
  have hi := h.le
  refine (fcr_in Try.func116 rfl (by simp only [Try.ntmps116, anys, List.length_cons, List.length_nil, Nat.reduceAdd, Nat.reduceSub, List.replicate_succ, List.replicate_zero, List.cons_append, List.nil_append] <;> rfl) ?_)
  repeat' first
    | refine w_seq ?_
    | refine w_block ?_
    | refine rb_n ?_
    | refine rb_ret ?_
    | refine rb_eq ?_
    | refine rb_ne (by rfl) ?_
    | refine w_exit ?_
    | refine rt_exit ?_
    | refine w_region ?_
    | refine l_nil ?_
    | refine rt_n ?_
    | refine w_ret ?_
    | refine rt_ret ?_
    | refine w_skip ?_
    | refine w_cond_t rfl ?_
    | refine w_cond_f rfl ?_
    | refine w_cnd rfl (fun hc => ?_) (fun hc => ?_)
    | refine w_cd rfl (fun hc => ?_) (fun hc => ?_)
    | refine w_cn rfl (fun hc => ?_) (fun hc => ?_)
    | refine w_cond rfl (fun hc => ?_) (fun hc => ?_)
    | (refine l_o ?_; first | refine l_eqnil rfl (by kernel_rfl) (by intro b; simp only [nz]; rfl) (fun b hb => ?_) | refine l_op (hk := ?_) | (refine l_g ?_; first | refine l_y rfl rfl rfl ?_ | refine l_n rfl rfl rfl rfl (hk := ?_) | refine l_n' rfl rfl rfl (hk := ?_) | refine l_spnd rfl rfl rfl (h1 := fun hc => ?_) (h2 := fun hc => ?_) | refine l_spd rfl rfl rfl (h1 := fun hc => ?_) (h2 := fun hc => ?_) | refine l_spn rfl rfl rfl (h1 := fun hc => ?_) (h2 := fun hc => ?_) | refine l_sp rfl rfl rfl (h1 := fun hc => ?_) (h2 := fun hc => ?_)))
  refine w_loopm (ι := Nat × Nat) (fun q => [(9, RVn q.1), (10, RVn q.2)]) (fun _ => []) (fun q => q.1 ≤ i ∧ i ≤ q.2 ∧ q.2 ≤ l.length) (fun q => q.2 - q.1) (0, l.length) (h0 := ?_) (hs := ?_) (round := ?_)
  · simp; omega
  · refine le_eq (by (repeat' first | exact .nil | refine .keep ?_ | refine .any ?_); first | done | fail) rfl rfl
  · intro ⟨a, b⟩ ⟨h1, h2, h3⟩
    dsimp only at h1 h2 h3 ⊢
    by_cases hab : a < b
    · have hm : (a + b) / 2 < l.length := by omega
      have hc1 := placeCmp_ok l[(a + b) / 2] key
      have hlt := cmp_lt l[(a + b) / 2].1 key
      repeat' first
        | refine w_seq ?_
        | refine w_block ?_
        | refine rb_n ?_
        | refine rb_ret ?_
        | refine rb_eq ?_
        | refine rb_ne (by rfl) ?_
        | refine w_exit ?_
        | refine rt_exit ?_
        | refine w_region ?_
        | refine l_nil ?_
        | refine rt_n ?_
        | refine w_ret ?_
        | refine rt_ret ?_
        | refine w_skip ?_
        | refine w_cond_t rfl ?_
        | refine w_cond_f rfl ?_
        | refine w_cnd rfl (fun hc => ?_) (fun hc => ?_)
        | refine w_cd rfl (fun hc => ?_) (fun hc => ?_)
        | refine w_cn rfl (fun hc => ?_) (fun hc => ?_)
        | refine w_cond rfl (fun hc => ?_) (fun hc => ?_)
        | (exfalso; omega)
        | (refine l_o ?_; first | refine l_eqnil rfl (by kernel_rfl) (by intro b; simp only [nz]; rfl) (fun b hb => ?_) | refine l_op rfl (by first | (apply k_add; first | exact ops_addn rfl rfl (by omega) | fail) | (apply k_convert; first | exact ops_convu (m := a + b) rfl (by kernel_rfl) Try.underlying153 (by omega) | exact ops_conv64 rfl (by kernel_rfl) Try.underlying3 (by omega) (by omega) | fail) | (apply k_shr; first | exact ops_half rfl rfl | fail) | (apply k_callt; first | exact ops_callfV (hfc := hc1) | fail) | fail) (hk := ?_) | refine l_op (hk := ?_) | (refine l_g ?_; first | refine l_y rfl rfl rfl ?_ | refine l_n rfl rfl rfl rfl (hk := ?_) | refine l_n' rfl rfl rfl (hk := ?_) | refine l_spnd rfl rfl rfl (h1 := fun hc => ?_) (h2 := fun hc => ?_) | refine l_spd rfl rfl rfl (h1 := fun hc => ?_) (h2 := fun hc => ?_) | refine l_spn rfl rfl rfl (h1 := fun hc => ?_) (h2 := fun hc => ?_) | refine l_sp rfl rfl rfl (h1 := fun hc => ?_) (h2 := fun hc => ?_)))
      · have hb : bl l[(a + b) / 2].1 key = true := by rw [← hlt]; simpa using hc
        have hmi : (a + b) / 2 < i := by
          rcases Nat.lt_or_ge ((a + b) / 2) i with h4 | h4
          · exact h4
          · rw [h.hi _ hm h4] at hb; cases hb
        refine rn_mk ((a + b) / 2 + 1, b) ?_ (by first | omega | (dsimp only; omega)) (le_eq (by (repeat' first | exact .nil | refine .keep ?_ | refine .any ?_); first | done | fail) rfl rfl)
        exact ⟨by omega, by omega, by omega⟩
      · have hb : bl l[(a + b) / 2].1 key = false := by rw [← hlt]; simpa using hc
        have hmi : i ≤ (a + b) / 2 := by
          rcases Nat.lt_or_ge ((a + b) / 2) i with h4 | h4
          · rw [h.lo _ h4] at hb; cases hb
          · exact h4
        refine rn_mk (a, (a + b) / 2) ?_ (by first | omega | (dsimp only; omega)) (le_eq (by (repeat' first | exact .nil | refine .keep ?_ | refine .any ?_); first | done | fail) rfl rfl)
        exact ⟨by omega, by omega, by omega⟩
    · obtain rfl : a = i := by omega
      obtain rfl : b = a := by omega
      by_cases hal : b < l.length
      · have hc1 := placeCmp_ok l[b] key
        have he := cmp_eq0 l[b].1 key
        have hat : isAt l key b = decide (l[b].1 = key) := by rw [isAt, List.getElem?_eq_getElem hal]
        repeat' first
          | refine w_seq ?_
          | refine w_block ?_
          | refine rb_n ?_
          | refine rb_ret ?_
          | refine rb_eq ?_
          | refine rb_ne (by rfl) ?_
          | refine w_exit ?_
          | refine rt_exit ?_
          | refine w_region ?_
          | refine l_nil ?_
          | refine rt_n ?_
          | refine w_ret ?_
          | refine rt_ret ?_
          | refine w_skip ?_
          | refine w_cond_t rfl ?_
          | refine w_cond_f rfl ?_
          | refine w_cnd rfl (fun hc => ?_) (fun hc => ?_)
          | refine w_cd rfl (fun hc => ?_) (fun hc => ?_)
          | refine w_cn rfl (fun hc => ?_) (fun hc => ?_)
          | refine w_cond rfl (fun hc => ?_) (fun hc => ?_)
          | (exfalso; omega)
          | (refine l_o ?_; first | refine l_eqnil rfl (by kernel_rfl) (by intro b; simp only [nz]; rfl) (fun b hb => ?_) | refine l_op rfl (by first | (apply k_callt; first | exact ops_callfV (hfc := hc1) | fail) | fail) (hk := ?_) | refine l_op (hk := ?_) | (refine l_g ?_; first | refine l_y rfl rfl rfl ?_ | refine l_n rfl rfl rfl rfl (hk := ?_) | refine l_n' rfl rfl rfl (hk := ?_) | refine l_spnd rfl rfl rfl (h1 := fun hc => ?_) (h2 := fun hc => ?_) | refine l_spd rfl rfl rfl (h1 := fun hc => ?_) (h2 := fun hc => ?_) | refine l_spn rfl rfl rfl (h1 := fun hc => ?_) (h2 := fun hc => ?_) | refine l_sp rfl rfl rfl (h1 := fun hc => ?_) (h2 := fun hc => ?_)))
        refine en_end (hf := Try.results116) (hr := ?_); simp only [ne, nf, nl, nr, lget, reduceIte, Nat.reduceEqDiff]; first | rfl | refine congrArg RVb ?_ | refine congrArg RVi ?_ | skip
        rw [hat, ← he]
      · have hat : isAt l key b = false := by rw [isAt, List.getElem?_eq_none (by omega)]
        repeat' first
          | refine w_seq ?_
          | refine w_block ?_
          | refine rb_n ?_
          | refine rb_ret ?_
          | refine rb_eq ?_
          | refine rb_ne (by rfl) ?_
          | refine w_exit ?_
          | refine rt_exit ?_
          | refine w_region ?_
          | refine l_nil ?_
          | refine rt_n ?_
          | refine w_ret ?_
          | refine rt_ret ?_
          | refine w_skip ?_
          | refine w_cond_t rfl ?_
          | refine w_cond_f rfl ?_
          | refine w_cnd rfl (fun hc => ?_) (fun hc => ?_)
          | refine w_cd rfl (fun hc => ?_) (fun hc => ?_)
          | refine w_cn rfl (fun hc => ?_) (fun hc => ?_)
          | refine w_cond rfl (fun hc => ?_) (fun hc => ?_)
          | (exfalso; omega)
          | (refine l_o ?_; first | refine l_eqnil rfl (by kernel_rfl) (by intro b; simp only [nz]; rfl) (fun b hb => ?_) | refine l_op (hk := ?_) | (refine l_g ?_; first | refine l_y rfl rfl rfl ?_ | refine l_n rfl rfl rfl rfl (hk := ?_) | refine l_n' rfl rfl rfl (hk := ?_) | refine l_spnd rfl rfl rfl (h1 := fun hc => ?_) (h2 := fun hc => ?_) | refine l_spd rfl rfl rfl (h1 := fun hc => ?_) (h2 := fun hc => ?_) | refine l_spn rfl rfl rfl (h1 := fun hc => ?_) (h2 := fun hc => ?_) | refine l_sp rfl rfl rfl (h1 := fun hc => ?_) (h2 := fun hc => ?_)))
        refine en_end (hf := Try.results116) (hr := ?_); simp only [ne, nf, nl, nr, lget, reduceIte, Nat.reduceEqDiff]; first | rfl | refine congrArg RVb ?_ | refine congrArg RVi ?_ | skip
        rw [hat]
theorem placeOf_ok (l : List Rw) (key : List UInt8) (i : Nat) (h : Plc l key i) (hl : l.length ≤ 1048576) : FCr Try.prog 71 [RRws l, RV.str key] (.tup [RVn i, RVb (isAt l key i)]) := by
  have hb := bsearch_ok l key i h hl
  refine (fcr_in Try.func71 rfl (by simp only [Try.ntmps71, anys, List.length_cons, List.length_nil, Nat.reduceAdd, Nat.reduceSub, List.replicate_succ, List.replicate_zero, List.cons_append, List.nil_append] <;> rfl) ?_)
  repeat' first
    | refine w_seq ?_
    | refine w_region ?_
    | refine l_nil ?_
    | refine rt_n ?_
    | refine w_ret ?_
    | refine rt_ret ?_
    | refine w_skip ?_
    | (refine l_o ?_; first | refine l_op rfl (by first | (apply k_callf; first | exact ops_callf (hfc := hb) | fail) | fail) (hk := ?_) | refine l_op (hk := ?_))
  refine en_end (hf := Try.results71) (hr := ?_); simp only [ne, nf, nl, nr, lget, reduceIte, Nat.reduceEqDiff]; first | rfl | refine congrArg RVb ?_ | refine congrArg RVi ?_ | skip
theorem fnd_at {l : List Rw} {key : List UInt8} {i : Nat} (hs : Srt l) (h : Plc l key i) : fnd l key = if isAt l key i then (i : Int) else -1 := by
  have key1 : ∀ (m : List Rw) (k : Nat), (∀ j (hj : j < m.length), m[j].1 = key → False) → fndFrom key k m = -1 := by
    intro m
    induction m with
    | nil => intro k _; rfl
    | cons r m ih =>
      intro k hm
      rw [fndFrom, if_neg (fun e => hm 0 (by simp) e)]
      exact ih (k + 1) fun j hj e => hm (j + 1) (by simpa using hj) (by simpa using e)
  have key2 : ∀ (m : List Rw) (k j : Nat) (hj : j < m.length), m[j].1 = key → (∀ a (ha : a < j), m[a].1 ≠ key) → fndFrom key k m = ((k + j : Nat) : Int) := by
    intro m
    induction m with
    | nil => intro k j hj; simp at hj
    | cons r m ih =>
      intro k j hj he ha
      cases j with
      | zero => rw [fndFrom, if_pos (by simpa using he)]; simp
      | succ j =>
        rw [fndFrom, if_neg (by simpa using ha 0 (by omega)), ih (k + 1) j (by simpa using hj) (by simpa using he) fun a h4 => by simpa using ha (a + 1) (by omega)]
        congr 1; omega
  have hlo : ∀ a (ha : a < i) , (l[a]'(by have := h.le; omega)).1 ≠ key := fun a ha e => by
    have := h.lo a ha; rw [e, bl_irr] at this; cases this
  by_cases hil : i < l.length
  · by_cases he : l[i].1 = key
    · have hat : isAt l key i = true := by rw [isAt, List.getElem?_eq_getElem hil]; simpa using he
      rw [hat, if_pos rfl]
      unfold fnd
      rw [key2 l 0 i hil he hlo, Nat.zero_add]
    · have hat : isAt l key i = false := by rw [isAt, List.getElem?_eq_getElem hil]; simpa using he
      rw [hat, if_neg (by simp)]
      refine key1 l 0 fun j hj e => ?_
      rcases Nat.lt_trichotomy j i with h4 | h4 | h4
      · exact hlo j h4 e
      · subst h4; exact he e
      · have h5 := h.hi i hil (Nat.le_refl _)
        have h6 := hs i j hj h4
        rw [e] at h6
        rw [h6] at h5; cases h5
  · have hat : isAt l key i = false := by rw [isAt, List.getElem?_eq_none (by omega)]
    rw [hat, if_neg (by simp)]
    refine key1 l 0 fun j hj e => hlo j (by omega) e
/-- What a row with a key has. -/
def findRw (l : List Rw) (key : List UInt8) : Option (List UInt8) := if goodRs l = false then none else if fnd l key < 0 then none else l[(fnd l key).toNat]?.map (·.2)
end Go.Proofs.Ytdignmbeiohhiaa
