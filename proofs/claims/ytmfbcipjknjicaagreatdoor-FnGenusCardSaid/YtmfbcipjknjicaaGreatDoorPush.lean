/- A region that draws its order: operations that only put new blocks in front may change places. No condition. -/
import Derived.Test.YtmfbcipjknjicaaGreatDoorEf
namespace Go.Proofs.YtmfbcipjknjicaaGreatDoor
set_option linter.unusedSectionVars false
variable [One Bool]
namespace Eng
open Go.RowKit
set_option linter.unusedSimpArgs false

theorem OL.permO {w : World} {F : Nat → Prop} {ρ : Places} {O O' : List Bk} (hp : O.Perm O') : ∀ {fp}, OL w F ρ O fp → ∃ fp', OL w F ρ O' fp' ∧ fp.Perm fp' := by
  induction hp with
  | nil => exact fun h => ⟨_, h, .refl _⟩
  | cons x _ ih =>
    intro fp h
    obtain ⟨f1, f2, rfl, h2, hc⟩ := h.tail
    obtain ⟨f3, h3, p3⟩ := ih h2
    exact ⟨_, hc _ _ h3, List.Perm.append_left f1 p3⟩
  | swap x y l =>
    intro fp h
    obtain ⟨f1, f2, rfl, h2, hc⟩ := h.tail
    obtain ⟨f3, f4, rfl, h4, hc2⟩ := h2.tail
    refine ⟨_, hc2 _ _ (hc _ _ h4), ?_⟩
    rw [← List.append_assoc, ← List.append_assoc]
    exact List.Perm.append_right f4 List.perm_append_comm
  | trans _ _ ih1 ih2 =>
    intro fp h
    obtain ⟨f1, h1, p1⟩ := ih1 h
    obtain ⟨f2, h2, p2⟩ := ih2 h1
    exact ⟨f2, h2, p1.trans p2⟩
theorem Rel.permO {E : Env} {fr : List RV} {O O' : List Bk} {a : Act} {w : World} (hp : O.Perm O') (h : Rel E ⟨fr, O⟩ a w) : Rel E ⟨fr, O'⟩ a w := by
  obtain ⟨F, ρ, fp, hr⟩ := h
  obtain ⟨fp', h1, h2⟩ := hr.O.permO hp
  exact ⟨F, ρ, fp', hr.perm h1 h2⟩
theorem bn_sub {O : List Bk} {n : Nat} (h : n ∈ bnames O) : n ∈ onames O := by
  induction O with
  | nil => cases h
  | cons x O ih =>
    obtain ⟨m, k, e⟩ := x
    simp only [bnames, List.map_cons, List.mem_cons, onames, List.mem_append] at h ⊢
    rcases h with h | h
    · exact .inl h
    · exact .inr (.inr (ih h))
theorem olook_perm {O O' : List Bk} (hp : O.Perm O') (hn : (bnames O).Nodup) (n : Nat) : olook n O = olook n O' := by
  induction hp with
  | nil => rfl
  | cons x _ ih =>
    obtain ⟨m, k, e⟩ := x
    simp only [olook]
    split
    · rfl
    · exact ih (List.nodup_cons.1 hn).2
  | swap x y l =>
    obtain ⟨m, k, e⟩ := x; obtain ⟨m2, k2, e2⟩ := y
    simp only [bnames, List.map_cons, List.nodup_cons, List.mem_cons, not_or] at hn
    simp only [olook]
    split
    · split
      · rename_i a b; exact absurd (a.trans b.symm) hn.1.1
      · rfl
    · rfl
  | trans p1 _ ih1 ih2 => exact (ih1 hn).trans (ih2 ((p1.map _).nodup_iff.1 hn))
theorem onames_app (X O : List Bk) : onames (X ++ O) = onames X ++ onames O := by
  induction X with
  | nil => rfl
  | cons x X ih => obtain ⟨m, k, e⟩ := x; simp only [List.cons_append, onames, ih, List.append_assoc]
theorem bnames_app (X O : List Bk) : bnames (X ++ O) = bnames X ++ bnames O := List.map_append
theorem olook_app {n : Nat} {X O : List Bk} (h : n ∉ bnames X) : olook n (X ++ O) = olook n O := by
  induction X with
  | nil => rfl
  | cons x X ih =>
    obtain ⟨m, k, e⟩ := x
    simp only [bnames, List.map_cons, List.mem_cons, not_or] at h
    rw [List.cons_append, olook, if_neg (fun e => h.1 e.symm)]
    exact ih h.2

def Gf (P : Program) (ops : Array Oper) (RO : Nat → Bool) (new : List Nat) (o : Oper) (s : St) (r : RV) (X : List Bk) : Prop :=
  ∀ s2, Agree ops o s s2 → (∀ n, RO n = true → olook n s2.O = olook n s.O) → (∀ m ∈ new, m ∉ RV.namesL s2.fr ∧ m ∉ onames s2.O) → OpG P ops o s2 ⟨sput o.dst r s2.fr, X ++ s2.O⟩
def dpB (ms : List Nat) (i j : Nat) : Bool := decide (j < i) && (ms.getD i 0).testBit j
def DP (P : Program) (ops : Array Oper) (ms : List Nat) (RO : Nat → Bool) (eff : Nat → Bool) (nw : Nat → List Nat) (R : St → Prop) : List Nat → St → Prop
  | [], s => R s
  | i :: rest, s => ∃ o r, ops[i]? = some o ∧ (∀ j, j ≠ i → dpB ms i j = false → ∀ m ∈ nw j, m ∉ r.names) ∧
    if eff i then (bnames s.O).Nodup ∧ ∃ O', (bnames O').Nodup ∧ (∀ j, j ≠ i → dpB ms i j = false → ∀ m ∈ nw j, m ∉ onames O') ∧ (∀ n, RO n = true → olook n O' = olook n s.O) ∧ Ef P ops (nw i) o s r O' ∧ DP P ops ms RO eff nw R rest ⟨sput o.dst r s.fr, O'⟩
    else ∃ X, (bnames (X ++ s.O)).Nodup ∧ (∀ n ∈ onames X, n ∈ nw i) ∧ Gf P ops RO (nw i) o s r X ∧ DP P ops ms RO eff nw R rest ⟨sput o.dst r s.fr, X ++ s.O⟩
def indepP (ops : Array Oper) (eff : Nat → Bool) (nw : Nat → List Nat) (k i : Nat) : Bool := indepB ops eff k i && !(eff k && !(nw i).isEmpty) && !(eff i && !(nw k).isEmpty)

section
variable {P : Program} {ops : Array Oper} {ms : List Nat} {RO : Nat → Bool} {eff : Nat → Bool} {nw : Nat → List Nat} {R : St → Prop}

theorem Gf.perm {RO new o fr r X} {O O' : List Bk} (h : Gf P ops RO new o ⟨fr, O⟩ r X) (hp : O.Perm O') (hn : (bnames O).Nodup) : Gf P ops RO new o ⟨fr, O'⟩ r X :=
  fun s2 ha hO hnew => h s2 ⟨ha.1, ha.2⟩ (fun n hr => (hO n hr).trans (olook_perm hp hn n).symm) hnew
theorem Ef.perm {new o fr r O1} {O O' : List Bk} (h : Ef P ops new o ⟨fr, O⟩ r O1) (hp : O.Perm O') : Ef P ops new o ⟨fr, O'⟩ r O1 := by
  intro s2 ha hO hnew E a w hr
  obtain ⟨fr2, O2⟩ := s2
  obtain rfl : O2 = O' := hO
  exact h ⟨fr2, O⟩ ⟨ha.1, ha.2⟩ rfl hnew E a w (hr.permO hp.symm)
theorem DP.perm (hR : ∀ fr O O', O.Perm O' → (bnames O).Nodup → R ⟨fr, O⟩ → R ⟨fr, O'⟩) : ∀ {idx fr} {O O' : List Bk}, O.Perm O' → (bnames O).Nodup → DP P ops ms RO eff nw R idx ⟨fr, O⟩ → DP P ops ms RO eff nw R idx ⟨fr, O'⟩
  | [], _, _, _, hp, hn, h => hR _ _ _ hp hn h
  | i :: rest, fr, O, O', hp, hn, h => by
    obtain ⟨o, r, ho, hc, h⟩ := h
    refine ⟨o, r, ho, hc, ?_⟩
    split
    · rename_i he
      rw [if_pos he] at h
      obtain ⟨h0, O1, h1, h2, h3, h4, h5⟩ := h
      exact ⟨(hp.map _).nodup_iff.1 h0, O1, h1, h2, fun n hr => (h3 n hr).trans (olook_perm hp hn n), h4.perm hp, h5⟩
    · rename_i he
      rw [if_neg he] at h
      obtain ⟨X, h1, h2, h4, h5⟩ := h
      have hp2 : (X ++ O).Perm (X ++ O') := List.Perm.append_left X hp
      exact ⟨X, (hp2.map _).nodup_iff.1 h1, h2, h4.perm hp hn, DP.perm hR hp2 h1 h5⟩
theorem nodup_mid {A B C : List Nat} (h : (A ++ (B ++ C)).Nodup) : (A ++ C).Nodup ∧ (B ++ (A ++ C)).Nodup := by
  have h2 : (B ++ (A ++ C)).Nodup := by
    refine List.Perm.nodup_iff ?_ |>.1 h
    rw [← List.append_assoc, ← List.append_assoc]
    exact List.Perm.append_right C List.perm_append_comm
  exact ⟨(List.nodup_append.1 h2).2.1, h2⟩
theorem DP.swap (hR : ∀ fr O O', O.Perm O' → (bnames O).Nodup → R ⟨fr, O⟩ → R ⟨fr, O'⟩) (hRO : ∀ j, ∀ m ∈ nw j, RO m = false) {k i : Nat} {rest : List Nat} {s : St} (h : DP P ops ms RO eff nw R (k :: i :: rest) s) (hi : indepP ops eff nw k i = true) : DP P ops ms RO eff nw R (i :: k :: rest) s := by
  obtain ⟨ok, rk, hok, hck, h⟩ := h
  unfold indepP indepB at hi
  simp only [hok] at hi
  cases hoi : ops[i]? with
  | none => simp [hoi] at hi
  | some oi =>
    simp only [hoi, Bool.and_eq_true, Bool.not_eq_true', Bool.or_eq_true, bne_iff_ne, Option.isNone_iff_eq_none] at hi
    obtain ⟨⟨⟨⟨⟨hi1, hi2⟩, hi3⟩, hi4⟩, hi5⟩, hi6⟩ := hi
    have hbX : ∀ {X : List Bk} {j n}, (∀ n ∈ onames X, n ∈ nw j) → RO n = true → n ∉ bnames X := fun hX hr hb => by
      have := hRO _ _ (hX _ (bn_sub hb)); rw [this] at hr; cases hr
    cases hek : eff k with
    | false =>
      simp only [hek, Bool.false_eq_true, if_false] at h
      obtain ⟨Xk, hnk, hXk, hfk, oi', ri, hoi', hci, h⟩ := h
      rw [hoi] at hoi'; cases hoi'
      refine ⟨oi, ri, hoi, hci, ?_⟩
      cases hei : eff i with
      | false =>
        simp only [hei, Bool.false_eq_true, if_false] at h ⊢
        obtain ⟨Xi, hni, hXi, hfi, h⟩ := h
        rw [bnames_app, bnames_app] at hni
        obtain ⟨m1, m2⟩ := nodup_mid hni
        rw [← bnames_app] at m1
        rw [← bnames_app, ← bnames_app] at m2 hni
        refine ⟨Xi, m1, hXi, fun s2 ha hO hnew => hfi s2 ((agree_put hi1 s.fr rk s.O (Xk ++ s.O)).2.trans ha) (fun n hr => (hO n hr).trans (olook_app (hbX hXk hr)).symm) hnew, ok, rk, hok, hck, ?_⟩
        simp only [hek, Bool.false_eq_true, if_false]
        refine ⟨Xk, m2, hXk, fun s2 ha hO hnew => hfk s2 ((agree_put hi2 s.fr ri s.O (Xi ++ s.O)).1.trans ha) (fun n hr => (hO n hr).trans (olook_app (hbX hXi hr))) hnew, ?_⟩
        simp only [sput_comm s.fr hi3]
        refine DP.perm hR ?_ hni h
        rw [← List.append_assoc, ← List.append_assoc]
        exact List.Perm.append_right s.O List.perm_append_comm
      | true =>
        simp only [hei, if_true] at h ⊢
        obtain ⟨_, O', hnO, hcO, hro, hfi, h⟩ := h
        have hXn : Xk = [] := by
          simp only [hei, Bool.true_and, Bool.not_eq_false', List.isEmpty_iff] at hi6
          match Xk, hXk with
          | [], _ => rfl
          | (m, kk, e) :: X, hX =>
            have := hX m (by simp [onames])
            rw [hi6] at this; cases this
        subst hXn
        simp only [List.nil_append] at hnk hfi hro
        have hnwk : nw k = [] := by simpa [hei] using hi6
        refine ⟨hnk, O', hnO, hcO, hro, fun s2 ha hO hnew => hfi s2 ((agree_put hi1 s.fr rk s.O s.O).2.trans ha) hO hnew, ok, rk, hok, hck, ?_⟩
        simp only [hek, Bool.false_eq_true, if_false]
        refine ⟨[], by simpa using hnO, hXk, fun s2 ha hO hnew => hfk s2 ((agree_put hi2 s.fr ri s.O O').1.trans ha) (fun n hr => (hO n hr).trans (hro n hr)) hnew, ?_⟩
        simp only [sput_comm s.fr hi3]
        exact h
    | true =>
      simp only [hek, if_true] at h
      obtain ⟨hnS, O', hnO, hcO, hro, hfk, oi', ri, hoi', hci, h⟩ := h
      rw [hoi] at hoi'; cases hoi'
      refine ⟨oi, ri, hoi, hci, ?_⟩
      cases hei : eff i with
      | true => simp [hek, hei] at hi4
      | false =>
        simp only [hei, Bool.false_eq_true, if_false] at h ⊢
        obtain ⟨Xi, hni, hXi, hfi, h⟩ := h
        have hnwi : nw i = [] := by simpa [hek] using hi5
        have hXn : Xi = [] := by
          match Xi, hXi with
          | [], _ => rfl
          | (m, kk, e) :: X, hX =>
            have := hX m (by simp [onames])
            rw [hnwi] at this; cases this
        subst hXn
        simp only [List.nil_append] at hni h
        refine ⟨[], hnS, hXi, fun s2 ha hO hnew => hfi s2 ((agree_put hi1 s.fr rk s.O O').2.trans ha) (fun n hr => (hO n hr).trans (hro n hr).symm) hnew, ok, rk, hok, hck, ?_⟩
        simp only [hek, if_true, List.nil_append]
        refine ⟨hnS, O', hnO, hcO, hro, fun s2 ha hO hnew => hfk s2 ((agree_put hi2 s.fr ri s.O s.O).1.trans ha) hO hnew, ?_⟩
        simp only [sput_comm s.fr hi3]
        exact h

theorem DP.tail_mono {i : Nat} {l l' : List Nat} {s} (hl : ∀ s, DP P ops ms RO eff nw R l s → DP P ops ms RO eff nw R l' s) (h : DP P ops ms RO eff nw R (i :: l) s) : DP P ops ms RO eff nw R (i :: l') s := by
  obtain ⟨o, r, ho, hc, h⟩ := h
  refine ⟨o, r, ho, hc, ?_⟩
  split
  · rename_i he
    rw [if_pos he] at h
    obtain ⟨h0, O', h1, h2, h3, h4, h5⟩ := h
    exact ⟨h0, O', h1, h2, h3, h4, hl _ h5⟩
  · rename_i he
    rw [if_neg he] at h
    obtain ⟨X, h1, h2, h3, h4⟩ := h
    exact ⟨X, h1, h2, h3, hl _ h4⟩
theorem DP.weak {R' : St → Prop} {i : Nat} {l : List Nat} {s} (hl : ∀ s, DP P ops ms RO eff nw R l s → DP P ops ms RO eff nw R' l s) (h : DP P ops ms RO eff nw R (i :: l) s) : DP P ops ms RO eff nw R' (i :: l) s := by
  obtain ⟨o, r, ho, hc, h⟩ := h
  refine ⟨o, r, ho, hc, ?_⟩
  split
  · rename_i he
    rw [if_pos he] at h
    obtain ⟨h0, O', h1, h2, h3, h4, h5⟩ := h
    exact ⟨h0, O', h1, h2, h3, h4, hl _ h5⟩
  · rename_i he
    rw [if_neg he] at h
    obtain ⟨X, h1, h2, h3, h4⟩ := h
    exact ⟨X, h1, h2, h3, hl _ h4⟩
theorem DP.bubble (hR : ∀ fr O O', O.Perm O' → (bnames O).Nodup → R ⟨fr, O⟩ → R ⟨fr, O'⟩) (hRO : ∀ j, ∀ m ∈ nw j, RO m = false) {i : Nat} {L2 : List Nat} : ∀ (L1 : List Nat) {s}, (∀ k ∈ L1, indepP ops eff nw k i = true) → DP P ops ms RO eff nw R (L1 ++ i :: L2) s → DP P ops ms RO eff nw R (i :: (L1 ++ L2)) s
  | [], _, _, h => h
  | k :: L1, s, hi, h => by
    have h1 : DP P ops ms RO eff nw R (k :: i :: (L1 ++ L2)) s := DP.tail_mono (fun s h => DP.bubble hR hRO L1 (fun k hk => hi k (by simp [hk])) h) h
    exact h1.swap hR hRO (hi k (by simp))
theorem draw_sound3 {Q : Exit → Act → World → Prop} {E : Env} {fuel : Nat} (hR : ∀ fr O O', O.Perm O' → (bnames O).Nodup → R ⟨fr, O⟩ → R ⟨fr, O'⟩) (hRO : ∀ j, ∀ m ∈ nw j, RO m = false) (hdis : ∀ i j, i ≠ j → ∀ m ∈ nw i, m ∉ nw j) (hdp : ∀ i j, i < ops.size → dpB ms i j = true → depB ops fuel i j = true)
    (hB : ∀ i, i < ops.size → (∀ e ∈ (ops[i]?.map (·.after)).getD #[], Region.binds .any e = true → e.on < i) ∧ ∀ k, k < i → indepP ops eff nw k i = true ∨ depB ops fuel i k = true) (hQ : ∀ s a w, R s → Rel E s a w → Q .normal a w) :
    ∀ (n : Nat) (listed : Array Bool) (idx : List Nat) (s : St) (a : Act) (w : World), listed.size = ops.size → idx.length = n → idx.Pairwise (· < ·) → (∀ j, j ∈ idx ↔ j < ops.size ∧ listed.getD j true = false) → Down ops listed →
      (∀ j ∈ idx, ∀ m ∈ nw j, m ∉ RV.namesL s.fr ∧ m ∉ onames s.O) → DP P ops ms RO eff nw R idx s → Rel E s a w → wpAny P .any ops Q n listed a w := by
  have hchk : ∀ i o, ops[i]? = some o → (∀ e ∈ o.after, Region.binds .any e = true → e.on < i) ∧ ∀ k, k < i → indepP ops eff nw k i = true ∨ depB ops fuel i k = true := by
    intro i o ho
    have hlt : i < ops.size := (Array.getElem?_eq_some_iff.1 ho).1
    have h1 := hB i hlt
    simp only [ho, Option.map_some, Option.getD_some] at h1
    exact h1
  have hnm : ∀ (fr : List RV) (d : Option Tmp) (r : RV) (m : Nat), m ∉ RV.namesL fr → m ∉ r.names → m ∉ RV.namesL (sput d r fr) := by
    intro fr d r m h1 h2
    cases d with
    | none => exact h1
    | some d =>
      simp only [sput]
      induction fr generalizing d with
      | nil => exact h1
      | cons x xs ih =>
        simp only [RV.namesL, List.mem_append, not_or] at h1
        cases d with
        | zero => simp [lset, RV.namesL, h2, h1.2]
        | succ d => simp only [lset, RV.namesL, List.mem_append, not_or]; exact ⟨h1.1, ih h1.2 d⟩
  intro n
  induction n with
  | zero =>
    intro listed idx s a w hsz hl _ hidx _ _ h hr
    have : idx = [] := List.eq_nil_of_length_eq_zero hl
    subst this
    refine ⟨?_, hQ s a w h hr⟩
    rw [List.eq_nil_iff_forall_not_mem]
    intro j hj
    obtain ⟨h1, o, ho, _⟩ := mem_ready.1 hj
    have : j ∈ ([] : List Nat) := (hidx j).2 ⟨(Array.getElem?_eq_some_iff.1 ho).1, h1⟩
    cases this
  | succ n ih =>
    intro listed idx s a w hsz hl hsort hidx hdown hfresh h hr
    match idx, hl with
    | i0 :: rest0, hl =>
    refine ⟨fun hempty => ?_, ?_⟩
    · exfalso
      have hi0 := (hidx i0).1 (by simp)
      have hmem : i0 ∈ Region.ready .any ops listed := by
        refine mem_ready.2 ⟨hi0.2, ops[i0]'hi0.1, Array.getElem?_eq_getElem hi0.1, fun e he hb => ?_⟩
        have hlt := (hchk i0 _ (Array.getElem?_eq_getElem hi0.1)).1 e he hb
        cases hq : listed.getD e.on true with
        | true =>
          rw [Array.getD_eq_getD_getElem?] at hq ⊢
          have : e.on < listed.size := by omega
          rw [Array.getElem?_eq_getElem this] at hq ⊢
          simpa using hq
        | false =>
          have : e.on ∈ i0 :: rest0 := (hidx e.on).2 ⟨by omega, hq⟩
          rcases List.mem_cons.1 this with h5 | h5
          · omega
          · have := List.rel_of_pairwise_cons hsort h5; omega
      rw [hempty] at hmem
      cases hmem
    · intro i hi
      obtain ⟨hun, o, ho, hready⟩ := mem_ready.1 hi
      have hlt : i < ops.size := (Array.getElem?_eq_some_iff.1 ho).1
      have hmem : i ∈ i0 :: rest0 := (hidx i).2 ⟨hlt, hun⟩
      obtain ⟨L1, L2, hL⟩ := List.append_of_mem hmem
      rw [hL] at h hsort hl hidx hfresh
      have hnd : ∀ j, j < ops.size → listed.getD j true = false → depB ops fuel i j = true → False := by
        intro k hk h7 h5
        have h6 := dep_listed hdown fuel i k o ho hready h5
        rw [Array.getD_eq_getD_getElem?] at h6 h7
        cases hq : listed[k]? with
        | none => simp [hq] at h6
        | some b => simp [hq] at h6 h7; rw [h6] at h7; cases h7
      have hind : ∀ k ∈ L1, indepP ops eff nw k i = true := by
        intro k hk
        have hki : k < i := (List.pairwise_append.1 hsort).2.2 k hk i (by simp)
        rcases (hchk i o ho).2 k hki with h5 | h5
        · exact h5
        · have := (hidx k).1 (by simp [hk])
          exact (hnd k this.1 this.2 h5).elim
      obtain ⟨o', r, ho', hcr, hstep⟩ := DP.bubble hR hRO L1 hind h
      rw [ho] at ho'; cases ho'
      -- the rest, behind it
      have hsort' : (L1 ++ L2).Pairwise (· < ·) := by
        rw [List.pairwise_append] at hsort ⊢
        exact ⟨hsort.1, (List.pairwise_cons.1 hsort.2.1).2, fun x hx y hy => hsort.2.2 x hx y (by simp [hy])⟩
      have hnotin : i ∉ L1 ++ L2 := by
        intro hx
        rw [List.pairwise_append] at hsort
        rcases List.mem_append.1 hx with hx | hx
        · have := hsort.2.2 i hx i (by simp); omega
        · have := (List.pairwise_cons.1 hsort.2.1).1 i hx; omega
      have hsub : ∀ j ∈ L1 ++ L2, j ∈ L1 ++ i :: L2 := fun j hj => by
        rcases List.mem_append.1 hj with hj | hj
        · simp [hj]
        · simp [hj]
      have hnx : ∀ j ∈ L1 ++ L2, j ≠ i ∧ dpB ms i j = false := by
        intro j hj
        refine ⟨fun e => hnotin (e ▸ hj), ?_⟩
        cases hd : dpB ms i j with
        | false => rfl
        | true =>
          have := (hidx j).1 (hsub j hj)
          exact (hnd j this.1 this.2 (hdp i j hlt hd)).elim
      have hidx' : ∀ j, j ∈ L1 ++ L2 ↔ j < ops.size ∧ (listed.setIfInBounds i true).getD j true = false := by
        intro j
        by_cases hji : j = i
        · subst hji
          constructor
          · intro hx; exact absurd hx hnotin
          · rintro ⟨_, hx⟩
            rw [Array.getD_eq_getD_getElem?, Array.getElem?_setIfInBounds] at hx
            simp at hx
            split at hx <;> simp at hx
        · have h8 : (listed.setIfInBounds i true).getD j true = listed.getD j true := by
            rw [Array.getD_eq_getD_getElem?, Array.getD_eq_getD_getElem?, Array.getElem?_setIfInBounds, if_neg (fun e => hji e.symm)]
          rw [h8, ← hidx j]
          simp [hji]
      have hdown' : Down ops (listed.setIfInBounds i true) := by
        intro j oj hoj hlj e he hb
        have hset : ∀ q, listed.getD q false = true → (listed.setIfInBounds i true).getD q false = true := by
          intro q hq
          rw [Array.getD_eq_getD_getElem?] at hq ⊢
          rw [Array.getElem?_setIfInBounds]
          split
          · split <;> simp_all
          · exact hq
        by_cases hji : j = i
        · subst hji
          rw [ho] at hoj; cases hoj
          exact hset _ (hready e he hb)
        · have h8 : (listed.setIfInBounds i true).getD j true = listed.getD j true := by
            rw [Array.getD_eq_getD_getElem?, Array.getD_eq_getD_getElem?, Array.getElem?_setIfInBounds, if_neg (fun e => hji e.symm)]
          rw [h8] at hlj
          exact hset _ (hdown j oj hoj hlj e he hb)
      have hlen' : (L1 ++ L2).length = n := by simp at hl ⊢; omega
      have hsz' : (listed.setIfInBounds i true).size = ops.size := by simpa using hsz
      have fin : ∀ (s' : St), OpG P ops o s s' → (∀ j ∈ L1 ++ L2, ∀ m ∈ nw j, m ∉ RV.namesL s'.fr ∧ m ∉ onames s'.O) → DP P ops ms RO eff nw R (L1 ++ L2) s' → wpOp P ops Q i (wpAny P .any ops Q n (listed.setIfInBounds i true)) a w := by
        intro s' hop h11 h12
        have := hop E a w hr (wpAny P .any ops Q n (listed.setIfInBounds i true)) Q fun a' w' hr' => ih _ _ s' a' w' hsz' hlen' hsort' hidx' hdown' h11 h12 hr'
        unfold wpOp
        simp only [ho]
        split
        · rename_i hw; rw [if_pos hw] at this; exact .inl this
        · rename_i hw; rw [if_neg hw] at this; exact this
      split at hstep
      · obtain ⟨_, O', _, h14, _, h15, h16⟩ := hstep
        refine fin _ (h15 s ⟨fun _ _ => rfl, fun _ _ => rfl⟩ rfl fun m hm => (hfresh i (by simp) m hm).1) (fun j hj m hm => ?_) h16
        exact ⟨hnm _ _ _ m (hfresh j (hsub j hj) m hm).1 (hcr j (hnx j hj).1 (hnx j hj).2 m hm), h14 j (hnx j hj).1 (hnx j hj).2 m hm⟩
      · obtain ⟨X, _, h14, h15, h16⟩ := hstep
        refine fin _ (h15 s ⟨fun _ _ => rfl, fun _ _ => rfl⟩ (fun _ _ => rfl) fun m hm => hfresh i (by simp) m hm) (fun j hj m hm => ?_) h16
        refine ⟨hnm _ _ _ m (hfresh j (hsub j hj) m hm).1 (hcr j (hnx j hj).1 (hnx j hj).2 m hm), ?_⟩
        rw [onames_app]
        intro hx
        rcases List.mem_append.1 hx with hx | hx
        · exact hdis i j (fun e => (hnx j hj).1 e.symm) m (h14 m hx) hm
        · exact (hfresh j (hsub j hj) m hm).2 hx
end
def drawOk3 (ops : Array Oper) (eff : Nat → Bool) (nw : Nat → List Nat) (ms : List Nat) : Bool :=
  (List.range ops.size).all fun i => ((ops[i]?).map fun o => o.after.all fun e => !Region.binds .any e || decide (e.on < i)).getD false && (List.range i).all fun k => indepP ops eff nw k i || (ms.getD i 0).testBit k
theorem drawOk_of3 {ops : Array Oper} {eff : Nat → Bool} {nw : Nat → List Nat} {ms : List Nat} (hms : masks ops ops.size = ms) (h : drawOk3 ops eff nw ms = true) :
    (∀ i j, i < ops.size → dpB ms i j = true → depB ops (ops.size + 1) i j = true) ∧ ∀ i, i < ops.size → (∀ e ∈ (ops[i]?.map (·.after)).getD #[], Region.binds .any e = true → e.on < i) ∧ ∀ k, k < i → indepP ops eff nw k i = true ∨ depB ops (ops.size + 1) i k = true := by
  subst hms
  have hlt : ∀ i o, ops[i]? = some o → ∀ e ∈ o.after, Region.binds .any e = true → e.on < i := by
    intro i o ho e he hb
    have hi : i < ops.size := (Array.getElem?_eq_some_iff.1 ho).1
    have h1 := List.all_eq_true.1 h i (List.mem_range.2 hi)
    simp only [ho, Option.map_some, Option.getD_some, Bool.and_eq_true, Array.all_eq_true', Bool.or_eq_true, Bool.not_eq_true', decide_eq_true_eq] at h1
    rcases h1.1 e he with h2 | h2
    · rw [hb] at h2; cases h2
    · exact h2
  have hbit : ∀ i j, i < ops.size → ((masks ops ops.size).getD i 0).testBit j = true → depB ops (ops.size + 1) i j = true := by
    intro i j hi hb
    rw [masks_at ops _ i hi] at hb
    exact depB_le ops (by omega) (mask_dep ops hlt _ i j hi hb)
  refine ⟨fun i j hi hd => hbit i j hi ?_, fun i hi => ⟨fun e he hb => ?_, fun k hk => ?_⟩⟩
  · unfold dpB at hd; rw [Bool.and_eq_true] at hd; exact hd.2
  · rw [Array.getElem?_eq_getElem hi] at he
    exact hlt i _ (Array.getElem?_eq_getElem hi) e (by simpa using he) hb
  · have h1 := List.all_eq_true.1 h i (List.mem_range.2 hi)
    rw [Bool.and_eq_true] at h1
    have h2 := List.all_eq_true.1 h1.2 k (List.mem_range.2 hk)
    rw [Bool.or_eq_true] at h2
    rcases h2 with h2 | h2
    · exact .inl h2
    · exact .inr (hbit i k hi h2)
structure D3 (P : Program) (ops : Array Oper) (ms : List Nat) (RO : Nat → Bool) (eff : Nat → Bool) (nw : Nat → List Nat) (k : Nat) (l : List Oper) (R : St → Prop) (s : St) : Prop where
  out : (∀ j, l[j]? = ops[k + j]?) → DP P ops ms RO eff nw R (List.range' k l.length) s
theorem p_nil {P ops ms RO eff nw k R s} (h : R s) : D3 P ops ms RO eff nw k [] R s := ⟨fun _ => h⟩
theorem nw_nil {p : Nat → Prop} {T : List Nat} : ∀ j, p j → ∀ m ∈ rdP [] j, m ∉ T := fun _ _ _ h => nomatch h
theorem nw_cons {p : Nat → Prop} {a m : Nat} {t : List (Nat × Nat)} {T : List Nat} (h1 : p a → m ∉ T) (h : ∀ j, p j → ∀ m ∈ rdP t j, m ∉ T) : ∀ j, p j → ∀ n ∈ rdP ((a, m) :: t) j, n ∉ T := by
  intro j hj n hn
  unfold rdP at hn
  rw [List.filterMap_cons] at hn
  split at hn
  · exact h j hj n hn
  · rename_i b hb
    split at hb
    · rename_i e
      have e2 : a = j := e
      simp only [Option.some.injEq] at hb
      rcases List.mem_cons.1 hn with hn | hn
      · rw [hn, ← hb]; exact h1 (by rw [e2]; exact hj)
      · exact h j hj n hn
    · cases hb
theorem p_fl {P ops ms RO eff nw k o rest R fr O r fr'} (he : eff k = false := by rfl) (h : Fl P ops RO o ⟨fr, O⟩ r := by first | exact .move | exact .moveY rfl rfl rfl | exact .assign | exact .assignY rfl rfl rfl | exact .pick_t rfl | exact .pick_f rfl | exact .pick_tY rfl rfl rfl rfl | exact .pick_fY rfl rfl rfl rfl | exact .pl (fs_auto ()) | exact .ye rfl rfl rfl (fs_auto ()) | exact .no rfl rfl rfl | exact .no' rfl rfl | fail) (e : sput o.dst r fr = fr' := by simp only [nz, nf, nl, nb, nr, ng, nq, nu, reduceIte, Nat.reduceEqDiff, Nat.reduceAdd]; rfl) (hN : (bnames O).Nodup := by simp [bnames]) (hn : ∀ j, (j ≠ k ∧ dpB ms k j = false) → ∀ m ∈ nw j, m ∉ r.names := by first | (intro j _ m _; simp [nm]; done) | ((repeat' (first | exact nw_nil | refine nw_cons (fun h => ?_) ?_)); all_goals first | (simp [nm]; done) | (simp [nz, nm]; done) | (simp [nm, nz, nb]; done) | exact absurd h.2 (by decide +kernel) | exact absurd rfl h.1)) (hk : D3 P ops ms RO eff nw (k + 1) rest R ⟨fr', O⟩) : D3 P ops ms RO eff nw k (o :: rest) R ⟨fr, O⟩ := by
  subst e
  refine ⟨fun hl => ?_⟩
  rw [List.length_cons, List.range'_succ]
  refine ⟨o, r, by simpa using (hl 0).symm, fun j h1 h2 => hn j ⟨h1, h2⟩, ?_⟩
  rw [if_neg (by rw [he]; simp)]
  exact ⟨[], hN, (fun _ h => by cases h), fun s2 ha hO _ => h s2 ha hO, hk.out fun j => by have := hl (j + 1); simpa [Nat.add_assoc, Nat.add_comm 1 j] using this⟩
theorem p_pu {P ops ms RO eff nw k o rest R fr O r X fr' O'} (h : Gf P ops RO (nw k) o ⟨fr, O⟩ r X) (he : eff k = false := by rfl) (e : sput o.dst r fr = fr' := by simp only [nz, nf, nl, nb, nr, ng, nq, nu, reduceIte, Nat.reduceEqDiff, Nat.reduceAdd]; rfl) (e2 : X ++ O = O' := by simp only [nz, nf, nl, nr, ng, nq, nu, reduceIte, Nat.reduceEqDiff] <;> rfl) (hN : (bnames O').Nodup := by simp [bnames]) (hX : ∀ n ∈ onames X, n ∈ nw k := by simp [nz, nm, onames, rdP]) (hn : ∀ j, (j ≠ k ∧ dpB ms k j = false) → ∀ m ∈ nw j, m ∉ r.names := by first | (intro j _ m _; simp [nm]; done) | ((repeat' (first | exact nw_nil | refine nw_cons (fun h => ?_) ?_)); all_goals first | (simp [nm]; done) | (simp [nz, nm]; done) | (simp [nm, nz, nb]; done) | exact absurd h.2 (by decide +kernel) | exact absurd rfl h.1)) (hk : D3 P ops ms RO eff nw (k + 1) rest R ⟨fr', O'⟩) : D3 P ops ms RO eff nw k (o :: rest) R ⟨fr, O⟩ := by
  subst e; subst e2
  refine ⟨fun hl => ?_⟩
  rw [List.length_cons, List.range'_succ]
  refine ⟨o, r, by simpa using (hl 0).symm, fun j h1 h2 => hn j ⟨h1, h2⟩, ?_⟩
  rw [if_neg (by rw [he]; simp)]
  exact ⟨X, hN, hX, h, hk.out fun j => by have := hl (j + 1); simpa [Nat.add_assoc, Nat.add_comm 1 j] using this⟩
theorem p_ef {P ops ms RO eff nw k o rest R fr O r fr' O1 O'} (h : Ef P ops (nw k) o ⟨fr, O⟩ r O1) (he : eff k = true := by rfl) (e : sput o.dst r fr = fr' := by simp only [nz, nf, nl, nb, nr, ng, nq, nu, reduceIte, Nat.reduceEqDiff, Nat.reduceAdd]; rfl) (e2 : O1 = O' := by simp only [nz, nf, nl, nr, ng, nq, nu, reduceIte, Nat.reduceEqDiff] <;> rfl) (hN : (bnames O).Nodup := by simp [bnames]) (hN2 : (bnames O').Nodup := by simp [bnames]) (hn : ∀ j, (j ≠ k ∧ dpB ms k j = false) → ∀ m ∈ nw j, m ∉ r.names := by first | (intro j _ m _; simp [nm]; done) | ((repeat' (first | exact nw_nil | refine nw_cons (fun h => ?_) ?_)); all_goals first | (simp [nm]; done) | (simp [nz, nm]; done) | (simp [nm, nz, nb]; done) | exact absurd h.2 (by decide +kernel) | exact absurd rfl h.1)) (hn2 : ∀ j, (j ≠ k ∧ dpB ms k j = false) → ∀ m ∈ nw j, m ∉ onames O' := by first | (intro j _ m _; simp [nm, onames]; done) | ((repeat' (first | exact nw_nil | refine nw_cons (fun h => ?_) ?_)); all_goals first | (simp [nz, nm, nb, onames]; done) | exact absurd h.2 (by decide +kernel) | exact absurd rfl h.1)) (hro : ∀ n, RO n = true → olook n O' = olook n O := by first | exact fun _ _ => rfl | exact ro_of (by simp [olook])) (hk : D3 P ops ms RO eff nw (k + 1) rest R ⟨fr', O'⟩) : D3 P ops ms RO eff nw k (o :: rest) R ⟨fr, O⟩ := by
  subst e; subst e2
  refine ⟨fun hl => ?_⟩
  rw [List.length_cons, List.range'_succ]
  refine ⟨o, r, by simpa using (hl 0).symm, fun j h1 h2 => hn j ⟨h1, h2⟩, ?_⟩
  rw [if_pos he]
  exact ⟨hN, O1, hN2, fun j h1 h2 => hn2 j ⟨h1, h2⟩, hro, h, hk.out fun j => by have := hl (j + 1); simpa [Nat.add_assoc, Nat.add_comm 1 j] using this⟩
theorem Gf.plain {P ops RO new d op ty pos after s r X} (h : ∀ s2 : St, (∀ x ∈ op.operands.toList, s2.get x = s.get x) → (∀ m ∈ new, m ∉ RV.namesL s2.fr ∧ m ∉ onames s2.O) → OpS P ⟨d, op, ty, pos, after, none⟩ s2 ⟨sput d r s2.fr, X ++ s2.O⟩) : Gf P ops RO new ⟨d, op, ty, pos, after, none⟩ s r X :=
  fun s2 ha _ hn => .plain rfl (h s2 ha.1 hn)
theorem Gf.call {P ops RO new d f args ats ty pos after s argsR r} (hargs : args.toList.map s.get = argsR) (hnt : argsR.all RV.notTup = true) (hc : callable P f = true) (hfc : FCr P f argsR r) (hr : r.resOkT = true) (hnb : (bnames (openR d r).2).Nodup) (hnew : bnames (openR d r).2 = new) (hf : ∀ m ∈ new, m < 1000000000000) : Gf P ops RO new ⟨some d, .call ⟨.value (.func f), args, ats⟩, ty, pos, after, none⟩ s (openR d r).1 (openR d r).2 := by
  subst hnew
  refine Gf.plain fun s2 hs hn => ?_
  have hg : ∀ x ∈ args.toList, s2.get x = s.get x := fun x hx => hs x (by simp only [Op.operands, Call.operands, Array.toList_append]; simp [hx])
  exact ops_call (by rw [← hargs]; exact List.map_congr_left hg) hnt hc hfc hr hnb fun m hm => ⟨hf m hm, (hn m hm).1, (hn m hm).2⟩
theorem w_drawP {P id l R fr O} (RO eff : Nat → Bool) (t : List (Nat × Nat)) (hm : P.follows .mixedOrders = true) {ms : List Nat} (hms : masks l.toArray l.toArray.size = ms) (hB : drawOk3 l.toArray eff (rdP t) ms = true) (hRO : t.all (fun p => !RO p.2) = true) (hdis : (t.map (·.2)).Nodup) (hf : ∀ m ∈ t.map (·.2), m ∉ RV.namesL fr ∧ m ∉ onames O) (h : D3 P l.toArray ms RO eff (rdP t) 0 l (R .normal) ⟨fr, O⟩) : W P (.region id l.toArray true) R ⟨fr, O⟩ := by
  refine ⟨fun E a w hr => ?_⟩
  refine wp_region_any hm ?_
  have hd := h.out (by simp)
  have hmem : ∀ j, ∀ m ∈ rdP t j, (j, m) ∈ t := by
    intro j m hmj
    unfold rdP at hmj
    obtain ⟨p, hp, hpm⟩ := List.mem_filterMap.1 hmj
    split at hpm
    · rename_i e; cases hpm; rw [← e]; exact hp
    · cases hpm
  have hdi : ∀ i j, i ≠ j → ∀ m ∈ rdP t i, m ∉ rdP t j := by
    intro i j hij m h1 h2
    have a1 := hmem i m h1
    have a2 := hmem j m h2
    have key : ∀ (t : List (Nat × Nat)), (t.map (·.2)).Nodup → (i, m) ∈ t → (j, m) ∈ t → False := by
      intro t
      induction t with
      | nil => intro _ h; cases h
      | cons x t ih =>
        intro hn h1 h2
        rw [List.map_cons, List.nodup_cons] at hn
        rcases List.mem_cons.1 h1 with h1 | h1
        · rcases List.mem_cons.1 h2 with h2 | h2
          · have := h1.trans h2.symm; cases this; exact hij rfl
          · exact hn.1 (by rw [← h1]; exact List.mem_map.2 ⟨_, h2, rfl⟩)
        · rcases List.mem_cons.1 h2 with h2 | h2
          · exact hn.1 (by rw [← h2]; exact List.mem_map.2 ⟨_, h1, rfl⟩)
          · exact ih hn.2 h1 h2
    exact key t hdis a1 a2
  have hroo : ∀ j, ∀ m ∈ rdP t j, RO m = false := fun j m hmj => by
    have := List.all_eq_true.1 hRO _ (hmem j m hmj)
    simpa using this
  obtain ⟨hdp, hok⟩ := drawOk_of3 hms hB
  -- what stands at the end, in any order
  have hd' : DP P l.toArray ms RO eff (rdP t) (fun s => ∃ O1, O1.Perm s.O ∧ R .normal ⟨s.fr, O1⟩) (List.range' 0 l.length) ⟨fr, O⟩ := by
    have mono : ∀ (idx : List Nat) (s : St), DP P l.toArray ms RO eff (rdP t) (R .normal) idx s → DP P l.toArray ms RO eff (rdP t) (fun s => ∃ O1, O1.Perm s.O ∧ R .normal ⟨s.fr, O1⟩) idx s := by
      intro idx
      induction idx with
      | nil => exact fun s h => ⟨s.O, .refl _, h⟩
      | cons i idx ih => exact fun s h => DP.weak (fun s h => ih s h) h
    exact mono _ _ hd
  refine draw_sound3 (ms := ms) (RO := RO) (nw := rdP t) (fuel := l.toArray.size + 1) (eff := eff) (R := fun s => ∃ O1, O1.Perm s.O ∧ R .normal ⟨s.fr, O1⟩) (E := E) (fun fr O O' hp _ h => let ⟨O1, h1, h2⟩ := h; ⟨O1, h1.trans hp, h2⟩) hroo hdi hdp hok (fun s' a' w' h1 h2 => ?_) _ _ (List.range' 0 l.length) ⟨fr, O⟩ a _ (by simp) (by simp) List.pairwise_lt_range' ?_ ?_ (fun j _ m hm => hf m (List.mem_map.2 ⟨_, hmem j m hm, rfl⟩)) hd' hr.drew
  · obtain ⟨O1, p1, h1⟩ := h1
    exact ⟨⟨s'.fr, O1⟩, h1, h2.permO p1.symm⟩
  · intro j
    simp only [List.mem_range'_1, Nat.zero_le, true_and, Nat.zero_add, List.size_toArray]
    constructor
    · intro hj; refine ⟨hj, ?_⟩; simp [Array.getD_eq_getD_getElem?, hj]
    · exact fun h => h.1
  · intro j o ho hj
    have hlt : j < l.toArray.size := (Array.getElem?_eq_some_iff.1 ho).1
    simp only [List.size_toArray] at hlt
    simp [Array.getD_eq_getD_getElem?, hlt] at hj
end Eng
end Go.Proofs.YtmfbcipjknjicaaGreatDoor
