/- A solved loop: the program's solvedLoop; the reference's helpers on places. For all loops. -/
import Derived.Test.YtpcckakchpblcaaGreatDoorJ1
import Derived.Test.YtpcckakchpblcaaGreatDoorJ9
import Derived.Test.YtpcckakchpblcaaGreatDoorNewArena
namespace Go.Proofs.YtpcckakchpblcaaGreatDoor
open Eng
attribute [local irreducible] OpS OpG FC FCr Rel Fl Ef DR Fs
set_option linter.unusedSimpArgs false
set_option maxHeartbeats 0
set_option maxRecDepth 100000

/-- A loop's lists as whole numbers without sign. -/
def toN (L : List (List Int)) : List (List Nat) := L.map fun l => l.map Int.toNat
theorem toN_len (L) : (toN L).length = L.length := by simp [toN]
theorem goodT_mem {n : Int} (l : List Int) : ∀ p, -1 ≤ p → goodT n p l = true → ∀ x ∈ l, 0 ≤ x ∧ x < n := by
  induction l with
  | nil => intro p _ _ x hx; cases hx
  | cons y ys ih =>
    intro p hp h x hx
    simp only [goodT] at h
    split at h
    · cases h
    · rename_i hh
      have := ih y (by omega) h x
      rcases List.mem_cons.1 hx with rfl | hx
      · omega
      · exact this hx
theorem tgtOk_mem {n : Int} {l : List Int} (h : tgtOk n l = true) : ∀ x ∈ l, 0 ≤ x ∧ x < n := by
  unfold tgtOk at h
  split at h
  · cases h
  · exact goodT_mem l (-1) (by omega) h
theorem RIss_toN {L : List (List Int)} (h : ∀ r ∈ L, ∀ x ∈ r, 0 ≤ x) : RIss L = RNss (toN L) := by
  show RV.sh (L.map RIs) = RV.sh ((L.map fun l => l.map Int.toNat).map RNs)
  rw [List.map_map]
  refine congrArg RV.sh (List.map_congr_left fun r hr => ?_)
  show RV.sh (r.map RVi) = RV.sh ((r.map Int.toNat).map RVn)
  rw [List.map_map]
  refine congrArg RV.sh (List.map_congr_left fun x hx => ?_)
  have := h r hr x hx
  show RVi x = RVi (x.toNat : Int)
  rw [Int.toNat_of_nonneg this]
theorem toN_mem {L : List (List Int)} {l} (h : l ∈ toN L) : ∃ r ∈ L, l = r.map Int.toNat := by
  simp only [toN, List.mem_map] at h
  obtain ⟨r, h1, h2⟩ := h
  exact ⟨r, h1, h2.symm⟩
structure GoodN (L R : List (List Int)) : Prop where
  inside : Inside (toN L) (toN R)
  len1 : 1 ≤ L.length
  len : L.length ≤ 36
  lenR : R.length = L.length
  eL : RIss L = RNss (toN L)
  eR : RIss R = RNss (toN R)
  lL : ∀ l ∈ toN L, l.length ≤ 24
  lR : ∀ l ∈ toN R, l.length ≤ 24
theorem goodN {L R : List (List Int)} (h : goodLp L R = true) : GoodN L R := by
  obtain ⟨h1, h2, h3, h4, h5⟩ := goodLp_small h
  refine ⟨⟨by simp [toN_len, h3], ?_, ?_⟩, h1, h2, h3, RIss_toN fun r hr x hx => (tgtOk_mem (h4 r hr) x hx).1, RIss_toN fun r hr x hx => (tgtOk_mem (h5 r hr) x hx).1, ?_, ?_⟩
  · intro l hl k hk
    obtain ⟨r, hr, rfl⟩ := toN_mem hl
    obtain ⟨x, hx, rfl⟩ := List.mem_map.1 hk
    have := tgtOk_mem (h4 r hr) x hx
    rw [toN_len]; omega
  · intro l hl k hk
    obtain ⟨r, hr, rfl⟩ := toN_mem hl
    obtain ⟨x, hx, rfl⟩ := List.mem_map.1 hk
    have := tgtOk_mem (h5 r hr) x hx
    rw [toN_len]; omega
  · intro l hl
    obtain ⟨r, hr, rfl⟩ := toN_mem hl
    simpa using tgtOk_len (h4 r hr)
  · intro l hl
    obtain ⟨r, hr, rfl⟩ := toN_mem hl
    simpa using tgtOk_len (h5 r hr)

/-- The graph of a loop, its results, the state of a place. -/
def nxtG (L R : List (List Int)) : List (List Nat) := nxtOf (toN L) (toN R)
def stN (a : Nat) (left : Bool) : Nat := if left then 2 * a else 2 * a + 1
theorem stateOf_ok (a : Nat) (left : Bool) (h : a ≤ 1099511627776) : FCr Tryz.prog 66 [RVn a, RVb left] (RVn (stN a left)) := by
  refine (fcr_in Tryz.func66 rfl (by simp only [Tryz.ntmps66, anys, List.length_cons, List.length_nil, Nat.reduceAdd, Nat.reduceSub, List.replicate_succ, List.replicate_zero, List.cons_append, List.nil_append] <;> rfl) ?_)
  repeat' first
    | refine w_seq ?_
    | refine w_region ?_
    | refine l_nil ?_
    | refine rt_n ?_
    | refine w_ret ?_
    | refine rt_ret ?_
    | refine w_skip ?_
    | refine w_cond_t rfl ?_
    | refine w_cond_f rfl ?_
    | refine w_cnd rfl (fun hc => ?_) (fun hc => ?_)
    | refine w_cd rfl (fun hc => ?_) (fun hc => ?_)
    | refine w_cn rfl (fun hc => ?_) (fun hc => ?_)
    | refine w_cond rfl (fun hc => ?_) (fun hc => ?_)
    | (refine l_o ?_; first | refine l_op rfl (by first | (apply k_mul; first | exact ops_muln (a := 2) rfl rfl (by omega) | fail) | (apply k_add; first | exact ops_addn (b := 1) rfl rfl (by omega) | fail) | fail) (hk := ?_) | refine l_op (hk := ?_))
  all_goals
    refine en_one (hf := Tryz.results66) (h := ?_); simp only [lget]; first | refine congrArg RVb ?_ | refine congrArg RVi ?_ | skip
    simp [stN, *]
theorem l25Side_ok (a : Nat) (left : Bool) (h : a ≤ 1099511627776) : FCr Tryz.prog 63 [RVn a, RVb left] (RVn (stN a left)) := by
  refine (fcr_in Tryz.func63 rfl (by simp only [Tryz.ntmps63, anys, List.length_cons, List.length_nil, Nat.reduceAdd, Nat.reduceSub, List.replicate_succ, List.replicate_zero, List.cons_append, List.nil_append] <;> rfl) ?_)
  repeat' first
    | refine w_seq ?_
    | refine w_region ?_
    | refine l_nil ?_
    | refine rt_n ?_
    | refine w_ret ?_
    | refine rt_ret ?_
    | refine w_skip ?_
    | refine w_cond_t rfl ?_
    | refine w_cond_f rfl ?_
    | refine w_cnd rfl (fun hc => ?_) (fun hc => ?_)
    | refine w_cd rfl (fun hc => ?_) (fun hc => ?_)
    | refine w_cn rfl (fun hc => ?_) (fun hc => ?_)
    | refine w_cond rfl (fun hc => ?_) (fun hc => ?_)
    | (refine l_o ?_; first | refine l_op rfl (by first | (apply k_mul; first | exact ops_muln (a := 2) rfl rfl (by omega) | fail) | (apply k_add; first | exact ops_addn (b := 1) rfl rfl (by omega) | fail) | fail) (hk := ?_) | refine l_op (hk := ?_))
  all_goals
    refine en_one (hf := Tryz.results63) (h := ?_); simp only [lget]; first | refine congrArg RVb ?_ | refine congrArg RVi ?_ | skip
    simp [stN, *]
theorem l25Who_ok (L R : List (List Nat)) (a : Nat) (left : Bool) (h : a < L.length) (h2 : a < R.length) : FCr Tryz.prog 62 [.agg [RNss L, RNss R], RVn a, RVb left] (RNs (if left then L[a] else R[a])) := by
  cases left with
  | true =>
    refine (fcr_in Tryz.func62 rfl (by simp only [Tryz.ntmps62, anys, List.length_cons, List.length_nil, Nat.reduceAdd, Nat.reduceSub, List.replicate_succ, List.replicate_zero, List.cons_append, List.nil_append] <;> rfl) ?_)
    repeat' first
      | refine w_seq ?_
      | refine w_region ?_
      | refine l_nil ?_
      | refine rt_n ?_
      | refine w_ret ?_
      | refine rt_ret ?_
      | refine w_skip ?_
      | refine w_cond_t rfl ?_
      | refine w_cond_f rfl ?_
      | refine w_cnd rfl (fun hc => ?_) (fun hc => ?_)
      | refine w_cd rfl (fun hc => ?_) (fun hc => ?_)
      | refine w_cn rfl (fun hc => ?_) (fun hc => ?_)
      | refine w_cond rfl (fun hc => ?_) (fun hc => ?_)
      | (refine l_o ?_; first | refine l_op (hk := ?_))
    refine en_end (hf := Tryz.results62) (hr := ?_); simp only [ne, nf, nl, nr, lget, reduceIte, Nat.reduceEqDiff]; first | rfl | refine congrArg RVb ?_ | refine congrArg RVi ?_ | skip
  | false =>
    refine (fcr_in Tryz.func62 rfl (by simp only [Tryz.ntmps62, anys, List.length_cons, List.length_nil, Nat.reduceAdd, Nat.reduceSub, List.replicate_succ, List.replicate_zero, List.cons_append, List.nil_append] <;> rfl) ?_)
    repeat' first
      | refine w_seq ?_
      | refine w_region ?_
      | refine l_nil ?_
      | refine rt_n ?_
      | refine w_ret ?_
      | refine rt_ret ?_
      | refine w_skip ?_
      | refine w_cond_t rfl ?_
      | refine w_cond_f rfl ?_
      | refine w_cnd rfl (fun hc => ?_) (fun hc => ?_)
      | refine w_cd rfl (fun hc => ?_) (fun hc => ?_)
      | refine w_cn rfl (fun hc => ?_) (fun hc => ?_)
      | refine w_cond rfl (fun hc => ?_) (fun hc => ?_)
      | (refine l_o ?_; first | refine l_op (hk := ?_))
    refine en_end (hf := Tryz.results62) (hr := ?_); simp only [ne, nf, nl, nr, lget, reduceIte, Nat.reduceEqDiff]; first | rfl | refine congrArg RVb ?_ | refine congrArg RVi ?_ | skip

end Go.Proofs.YtpcckakchpblcaaGreatDoor
/- Two loops joined, one of them turned: what leads where. For all good loops, in plain lists. -/
namespace Go.Proofs.YtpcckakchpblcaaGreatDoor
set_option linter.unusedSimpArgs false

/-- Where one may go in two loops together; row by row. -/
def bothL (A B : List (List Int)) (m i k : Nat) : List Int := (A.getD i []).map (fun x : Int => x * (m : Int) + (k : Int)) ++ (B.getD k []).map (fun y : Int => (i : Int) * (m : Int) + y)
def jnAt (A B : List (List Int)) (m i k : Nat) : List Int := dd (srtI (bothL A B m i k))
def jnRow (A B : List (List Int)) (i : Nat) : List (List Int) := (List.range B.length).map (jnAt A B B.length i)
def jnTo (A B : List (List Int)) (i : Nat) : List (List Int) := (List.range i).flatMap (jnRow A B)
def jn (A B : List (List Int)) : List (List Int) := jnTo A B A.length
theorem jnTo_succ (A B i) : jnTo A B (i + 1) = jnTo A B i ++ jnRow A B i := by simp [jnTo, List.range_succ]
theorem jnRow_len (A B i) : (jnRow A B i).length = B.length := by simp [jnRow]
theorem jnTo_len (A B) : ∀ i, (jnTo A B i).length = i * B.length
  | 0 => by simp [jnTo]
  | i + 1 => by rw [jnTo_succ, List.length_append, jnTo_len A B i, jnRow_len, Nat.add_mul]; omega
theorem jn_len (A B) : (jn A B).length = A.length * B.length := jnTo_len A B _
theorem jnTo_at {A B : List (List Int)} : ∀ {n i k : Nat}, i < n → k < B.length → (jnTo A B n).getD (i * B.length + k) [] = jnAt A B B.length i k
  | 0, i, k, h, _ => by omega
  | n + 1, i, k, h, hk => by
    rw [jnTo_succ, gd_append, jnTo_len]
    by_cases hin : i < n
    · have : (i + 1) * B.length ≤ n * B.length := Nat.mul_le_mul_right _ hin
      rw [Nat.add_mul] at this
      rw [if_pos (by omega)]
      exact jnTo_at hin hk
    · obtain rfl : i = n := by omega
      rw [if_neg (by omega), Nat.add_sub_cancel_left, jnRow]
      simp [List.getD_eq_getElem?_getD, hk]
theorem jn_at {A B : List (List Int)} {i k : Nat} (h : i < A.length) (hk : k < B.length) : (jn A B).getD (i * B.length + k) [] = jnAt A B B.length i k := jnTo_at h hk
theorem jnAt_mem {A B : List (List Int)} {m i k : Nat} {z : Int} : z ∈ jnAt A B m i k ↔ (∃ x ∈ A.getD i [], z = x * m + k) ∨ ∃ y ∈ B.getD k [], z = i * m + y := by
  rw [jnAt, dd_mem (srtI_le _), srtI_mem, bothL, List.mem_append, List.mem_map, List.mem_map]
  constructor
  · rintro (⟨x, h, e⟩ | ⟨x, h, e⟩)
    · exact .inl ⟨x, h, e.symm⟩
    · exact .inr ⟨x, h, e.symm⟩
  · rintro (⟨x, h, e⟩ | ⟨x, h, e⟩)
    · exact .inl ⟨x, h, e.symm⟩
    · exact .inr ⟨x, h, e.symm⟩
/-- All numbers of lists lie below a bound. -/
def InI (n : Nat) (L : List (List Int)) : Prop := ∀ r ∈ L, ∀ x ∈ r, 0 ≤ x ∧ x < n
theorem InI.at_ {n L i x} (h : InI n L) (hx : x ∈ L.getD i []) : 0 ≤ x ∧ x < n := by
  rcases Nat.lt_or_ge i L.length with hi | hi
  · rw [gd hi] at hx; exact h _ (List.getElem_mem hi) x hx
  · rw [gd_out (by omega)] at hx; cases hx
structure GoodI (L R : List (List Int)) : Prop where
  inL : InI L.length L
  inR : InI L.length R
  len1 : 1 ≤ L.length
  len : L.length ≤ 36
  lenR : R.length = L.length
  lL : ∀ l ∈ L, l.length ≤ 24
  lR : ∀ l ∈ R, l.length ≤ 24
theorem goodI {L R : List (List Int)} (h : goodLp L R = true) : GoodI L R := by
  obtain ⟨h1, h2, h3, h4, h5⟩ := goodLp_small h
  exact ⟨fun r hr x hx => tgtOk_mem (h4 r hr) x hx, fun r hr x hx => tgtOk_mem (h5 r hr) x hx, h1, h2, h3, fun l hl => tgtOk_len (h4 l hl), fun l hl => tgtOk_len (h5 l hl)⟩
theorem mul_lt {a b n m : Nat} (h : a < n) (h2 : b < m) : a * m + b < n * m := by
  have : (a + 1) * m ≤ n * m := Nat.mul_le_mul_right _ h
  rw [Nat.add_mul] at this; omega
theorem jnTo_in {A B : List (List Int)} {n : Nat} (hA : InI n A) (hB : InI B.length B) : ∀ i, i ≤ n → InI (n * B.length) (jnTo A B i)
  | 0, _ => by intro r hr; simp [jnTo] at hr
  | i + 1, hi => by
    intro r hr z hz
    rw [jnTo_succ] at hr
    rcases List.mem_append.1 hr with hr | hr
    · exact jnTo_in hA hB i (by omega) r hr z hz
    · simp only [jnRow, List.mem_map, List.mem_range] at hr
      obtain ⟨k, hk, rfl⟩ := hr
      rcases jnAt_mem.1 hz with ⟨x, hx, rfl⟩ | ⟨y, hy, rfl⟩
      · obtain ⟨h0, h1⟩ := hA.at_ hx
        obtain ⟨a, rfl⟩ := Int.eq_ofNat_of_zero_le h0
        have := mul_lt (show a < n by omega) hk
        have e : ((a : Int) * (B.length : Nat) + (k : Nat)) = ((a * B.length + k : Nat) : Int) := by simp
        rw [e]; omega
      · obtain ⟨h0, h1⟩ := hB.at_ hy
        obtain ⟨a, rfl⟩ := Int.eq_ofNat_of_zero_le h0
        have := mul_lt (show i < n by omega) (show a < B.length by omega)
        have e : ((i : Int) * (B.length : Nat) + (a : Nat)) = ((i * B.length + a : Nat) : Int) := by simp
        rw [e]; omega
theorem jnTo_rows {A B : List (List Int)} (hA : ∀ l ∈ A, l.length ≤ 24) (hB : ∀ l ∈ B, l.length ≤ 24) : ∀ i, ∀ l ∈ jnTo A B i, l.length ≤ 48
  | 0 => by intro l hl; simp [jnTo] at hl
  | i + 1 => by
    intro l hl
    rw [jnTo_succ] at hl
    rcases List.mem_append.1 hl with hl | hl
    · exact jnTo_rows hA hB i l hl
    · simp only [jnRow, List.mem_map, List.mem_range] at hl
      obtain ⟨k, hk, rfl⟩ := hl
      have h1 := dd_len (srtI (bothL A B B.length i k))
      rw [srtI_len] at h1
      have g1 : (A.getD i []).length ≤ 24 := by
        rcases Nat.lt_or_ge i A.length with hi | hi
        · rw [gd hi]; exact hA _ (List.getElem_mem hi)
        · rw [gd_out (by omega)]; simp
      have g2 : (B.getD k []).length ≤ 24 := by rw [gd hk]; exact hB _ (List.getElem_mem hk)
      have h2 : (bothL A B B.length i k).length ≤ 48 := by simp only [bothL, List.length_append, List.length_map]; omega
      exact Nat.le_trans h1 h2
theorem toN_gd (L : List (List Int)) (i : Nat) : (toN L).getD i [] = (L.getD i []).map Int.toNat := by
  rcases Nat.lt_or_ge i L.length with hi | hi
  · rw [gd (by rw [toN_len]; exact hi), gd hi]; simp [toN]
  · rw [gd_out (by rw [toN_len]; omega), gd_out (by omega)]; rfl
theorem toN_in {n : Nat} {L : List (List Int)} (h : InI n L) : ∀ l ∈ toN L, ∀ k ∈ l, k < n := by
  intro l hl k hk
  obtain ⟨r, hr, rfl⟩ := toN_mem hl
  obtain ⟨x, hx, rfl⟩ := List.mem_map.1 hk
  have := h r hr x hx
  omega

section
variable {gL gR hL hR : List (List Int)}
/-- The graph of a loop and another one turned. -/
def nxtJ (gL gR hL hR : List (List Int)) : List (List Nat) := nxtOf (toN (jn gL hR)) (toN (jn gR hL))
def nJ (gL hL : List (List Int)) : Nat := 2 * (gL.length * hL.length)
theorem jn_inside (g : GoodI gL gR) (h : GoodI hL hR) : Inside (toN (jn gL hR)) (toN (jn gR hL)) := by
  have l1 : (jn gL hR).length = gL.length * hL.length := by rw [jn_len, h.lenR]
  have l2 : (jn gR hL).length = gL.length * hL.length := by rw [jn_len, g.lenR]
  have i1 : InI (gL.length * hR.length) (jn gL hR) := jnTo_in g.inL (by rw [h.lenR]; exact h.inR) _ (Nat.le_refl _)
  have i2 : InI (gL.length * hL.length) (jn gR hL) := jnTo_in g.inR h.inL _ (by rw [g.lenR]; exact Nat.le_refl _)
  rw [h.lenR] at i1
  refine ⟨by rw [toN_len, toN_len, l1, l2], fun l hl k hk => ?_, fun l hl k hk => ?_⟩
  · rw [toN_len, l1]; exact toN_in i1 l hl k hk
  · rw [toN_len, l1]; exact toN_in i2 l hl k hk
theorem nxtJ_alt (g : GoodI gL gR) (h : GoodI hL hR) : Alt (nxtJ gL gR hL hR) (nJ gL hL) := by
  have := nxtOf_alt (jn_inside g h)
  rw [toN_len, jn_len, h.lenR] at this
  exact this
/-- What the reference looks at. -/
def kkJ (gL gR hL hR : List (List Int)) (i : Nat) : List Nat :=
  if i % 2 = 0 then (gL.getD (i / 2 / hL.length) []).map (fun x => 2 * (x.toNat * hL.length + i / 2 % hL.length) + 1) ++ (hR.getD (i / 2 % hL.length) []).map (fun y => 2 * (i / 2 / hL.length * hL.length + y.toNat) + 1)
  else (gR.getD (i / 2 / hL.length) []).map (fun x => 2 * (x.toNat * hL.length + i / 2 % hL.length)) ++ (hL.getD (i / 2 % hL.length) []).map (fun y => 2 * (i / 2 / hL.length * hL.length + y.toNat))
theorem kk_mem (g : GoodI gL gR) (h : GoodI hL hR) {i k : Nat} (hi : i < nJ gL hL) : k ∈ (nxtJ gL gR hL hR).getD i [] ↔ k ∈ kkJ gL gR hL hR i := by
  have hm : 0 < hL.length := h.len1
  have hv : i / 2 % hL.length < hL.length := Nat.mod_lt _ hm
  have hu : i / 2 / hL.length < gL.length := by
    rw [Nat.div_lt_iff_lt_mul hm]; unfold nJ at hi; omega
  have hs : i / 2 = i / 2 / hL.length * hL.length + i / 2 % hL.length := by rw [Nat.mul_comm]; exact (Nat.div_add_mod _ _).symm
  unfold nxtJ nxtOf
  rw [nxtTo_at _ _ _ _ (by rw [toN_len, jn_len, h.lenR]; unfold nJ at hi; omega), kkJ]
  generalize hU : i / 2 / hL.length = u at *
  generalize hV : i / 2 % hL.length = v at *
  by_cases he : i % 2 = 0
  · rw [if_pos he, if_pos he, toN_gd, hs]
    have e1 : (jn gL hR).getD (u * hL.length + v) [] = jnAt gL hR hL.length u v := by
      rw [← h.lenR]; exact jn_at hu (by rw [h.lenR]; exact hv)
    rw [e1]
    simp only [List.mem_map, List.mem_append]
    constructor
    · rintro ⟨_, ⟨z, hz, rfl⟩, rfl⟩
      rcases jnAt_mem.1 hz with ⟨x, hx, rfl⟩ | ⟨y, hy, rfl⟩
      · obtain ⟨a, rfl⟩ := Int.eq_ofNat_of_zero_le (g.inL.at_ hx).1
        exact .inl ⟨_, hx, by have e : ((a : Int) * (hL.length : Nat) + (v : Nat)) = ((a * hL.length + v : Nat) : Int) := by simp
                              rw [e]; rfl⟩
      · obtain ⟨a, rfl⟩ := Int.eq_ofNat_of_zero_le (h.inR.at_ hy).1
        exact .inr ⟨_, hy, by have e : ((u : Int) * (hL.length : Nat) + (a : Nat)) = ((u * hL.length + a : Nat) : Int) := by simp
                              rw [e]; rfl⟩
    · rintro (⟨x, hx, rfl⟩ | ⟨y, hy, rfl⟩)
      · obtain ⟨a, rfl⟩ := Int.eq_ofNat_of_zero_le (g.inL.at_ hx).1
        refine ⟨_, ⟨_, jnAt_mem.2 (.inl ⟨_, hx, rfl⟩), rfl⟩, ?_⟩
        have e : ((a : Int) * (hL.length : Nat) + (v : Nat)) = ((a * hL.length + v : Nat) : Int) := by simp
        rw [e]; rfl
      · obtain ⟨a, rfl⟩ := Int.eq_ofNat_of_zero_le (h.inR.at_ hy).1
        refine ⟨_, ⟨_, jnAt_mem.2 (.inr ⟨_, hy, rfl⟩), rfl⟩, ?_⟩
        have e : ((u : Int) * (hL.length : Nat) + (a : Nat)) = ((u * hL.length + a : Nat) : Int) := by simp
        rw [e]; rfl
  · rw [if_neg he, if_neg he, toN_gd, hs]
    have e1 : (jn gR hL).getD (u * hL.length + v) [] = jnAt gR hL hL.length u v := jn_at (by rw [g.lenR]; exact hu) hv
    rw [e1]
    simp only [List.mem_map, List.mem_append]
    constructor
    · rintro ⟨_, ⟨z, hz, rfl⟩, rfl⟩
      rcases jnAt_mem.1 hz with ⟨x, hx, rfl⟩ | ⟨y, hy, rfl⟩
      · obtain ⟨a, rfl⟩ := Int.eq_ofNat_of_zero_le (g.inR.at_ hx).1
        exact .inl ⟨_, hx, by have e : ((a : Int) * (hL.length : Nat) + (v : Nat)) = ((a * hL.length + v : Nat) : Int) := by simp
                              rw [e]; rfl⟩
      · obtain ⟨a, rfl⟩ := Int.eq_ofNat_of_zero_le (h.inL.at_ hy).1
        exact .inr ⟨_, hy, by have e : ((u : Int) * (hL.length : Nat) + (a : Nat)) = ((u * hL.length + a : Nat) : Int) := by simp
                              rw [e]; rfl⟩
    · rintro (⟨x, hx, rfl⟩ | ⟨y, hy, rfl⟩)
      · obtain ⟨a, rfl⟩ := Int.eq_ofNat_of_zero_le (g.inR.at_ hx).1
        refine ⟨_, ⟨_, jnAt_mem.2 (.inl ⟨_, hx, rfl⟩), rfl⟩, ?_⟩
        have e : ((a : Int) * (hL.length : Nat) + (v : Nat)) = ((a * hL.length + v : Nat) : Int) := by simp
        rw [e]; rfl
      · obtain ⟨a, rfl⟩ := Int.eq_ofNat_of_zero_le (h.inL.at_ hy).1
        refine ⟨_, ⟨_, jnAt_mem.2 (.inr ⟨_, hy, rfl⟩), rfl⟩, ?_⟩
        have e : ((u : Int) * (hL.length : Nat) + (a : Nat)) = ((u * hL.length + a : Nat) : Int) := by simp
        rw [e]; rfl
/-- The reference's view of the graph. -/
def kxJ (gL gR hL hR : List (List Int)) : List (List Nat) := (List.range (nJ gL hL)).map (kkJ gL gR hL hR)
theorem kxJ_at {i : Nat} (hi : i < nJ gL hL) : (kxJ gL gR hL hR).getD i [] = kkJ gL gR hL hR i := by simp [kxJ, List.getD_eq_getElem?_getD, hi]
theorem keepsJ (g : GoodI gL gR) (h : GoodI hL hR) {i : Nat} (hi : i < nJ gL hL) (H : List Bool) : keepsH (kxJ gL gR hL hR) H i = keepsH (nxtJ gL gR hL hR) H i :=
  keepsH_set fun k => by rw [kxJ_at hi]; exact (kk_mem g h hi).symm
end
end Go.Proofs.YtpcckakchpblcaaGreatDoor
