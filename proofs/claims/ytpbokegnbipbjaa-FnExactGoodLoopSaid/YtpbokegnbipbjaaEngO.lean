/- The engine, part O: a region that draws its order. Operations that only read float; the others keep their order. No condition. -/
import Derived.Test.YtpbokegnbipbjaaEngN
import Derived.Orders
namespace Go.Proofs.Ytpbokegnbipbjaa
namespace Eng
open Go.RowKit

/-- The guard's slot in the frame. -/
def grd (ops : Array Oper) (o : Oper) : Option Tmp := match o.guard with | some (j, _) => gslot ops j | none => none

/-- s2 looks to the operation as s does. -/
def Agree (ops : Array Oper) (o : Oper) (s s2 : St) : Prop := (∀ x ∈ o.op.operands.toList, s2.get x = s.get x) ∧ ∀ t, grd ops o = some t → lget s2.fr t = lget s.fr t

def Fl (P : Program) (ops : Array Oper) (RO : Nat → Bool) (o : Oper) (s : St) (r : RV) : Prop :=
  ∀ s2, Agree ops o s s2 → (∀ n, RO n = true → olook n s2.O = olook n s.O) → OpG P ops o s2 ⟨sput o.dst r s2.fr, s2.O⟩
def Ef (P : Program) (ops : Array Oper) (new : List Nat) (o : Oper) (s : St) (r : RV) (O' : List Bk) : Prop :=
  ∀ s2, Agree ops o s s2 → s2.O = s.O → (∀ m ∈ new, m ∉ RV.namesL s2.fr) → OpG P ops o s2 ⟨sput o.dst r s2.fr, O'⟩

/-- The rest of the region, in the text's order, each step told apart from what it does not look at. -/
def DR (P : Program) (ops : Array Oper) (RO : Nat → Bool) (eff : Nat → Bool) (ALL : List Nat) (R : St → Prop) : List Nat → List (List Nat) → St → Prop
  | [], _, s => R s
  | i :: rest, news, s => ∃ o r, ops[i]? = some o ∧
    if eff i then ∃ new news' O', news = new :: news' ∧ (∀ m ∈ r.names, m ∉ news'.flatten) ∧ (∀ n, RO n = true → olook n O' = olook n s.O) ∧ Ef P ops new o s r O' ∧ DR P ops RO eff ALL R rest news' ⟨sput o.dst r s.fr, O'⟩
    else (∀ m ∈ r.names, m ∉ ALL) ∧ Fl P ops RO o s r ∧ DR P ops RO eff ALL R rest news ⟨sput o.dst r s.fr, s.O⟩

def rdsB (ops : Array Oper) (o : Oper) (d : Option Tmp) : Bool := match d with
  | none => false
  | some d => o.op.operands.any (fun x => match x with | .tmp t => t == d | _ => false) || grd ops o == some d
/-- One may be carried out before the other. -/
def indepB (ops : Array Oper) (eff : Nat → Bool) (k i : Nat) : Bool := match ops[k]?, ops[i]? with
  | some ok, some oi => !rdsB ops oi ok.dst && !rdsB ops ok oi.dst && (ok.dst.isNone || ok.dst != oi.dst) && !(eff k && eff i)
  | _, _ => false
def depB (ops : Array Oper) : Nat → Nat → Nat → Bool
  | 0, _, _ => false
  | f + 1, i, k => match ops[i]? with
    | none => false
    | some o => o.after.any (fun e => Region.binds .any e && e.on == k) || o.after.any (fun e => Region.binds .any e && depB ops f e.on k)
def drawOk (ops : Array Oper) (eff : Nat → Bool) (fuel : Nat) : Bool :=
  (List.range ops.size).all fun i => ((ops[i]?).map fun o => o.after.all fun e => !Region.binds .any e || decide (e.on < i)).getD false && (List.range i).all fun k => indepB ops eff k i || depB ops fuel i k

theorem sput_comm {d e : Option Tmp} {r q : RV} (fr : List RV) (h : d = none ∨ d ≠ e) : sput d r (sput e q fr) = sput e q (sput d r fr) := by
  have key : ∀ (l : List RV) (a b : Nat), a ≠ b → lset (lset l b q) a r = lset (lset l a r) b q := by
    intro l
    induction l with
    | nil => intro a b _; rfl
    | cons x xs ih =>
      intro a b hab
      cases a <;> cases b <;> simp [lset] at hab ⊢
      exact ih _ _ hab
  cases d with
  | none => rfl
  | some d => cases e with
    | none => rfl
    | some e => exact key fr d e (by rcases h with h | h; · cases h
                                     · exact fun he => h (by rw [he]))

theorem get_sput {d : Option Tmp} {r : RV} {fr : List RV} {O O' : List Bk} {x : Operand} (h : ∀ t, d = some t → x ≠ .tmp t) : (⟨sput d r fr, O⟩ : St).get x = (⟨fr, O'⟩ : St).get x := by
  cases d with
  | none => cases x <;> rfl
  | some d => cases x with
    | tmp t =>
      simp only [St.get, sput, lget_lset]
      rw [if_neg]
      rintro ⟨rfl, _⟩
      exact h _ rfl rfl
    | _ => rfl
theorem lget_sput {d : Option Tmp} {r : RV} {fr : List RV} {t : Tmp} (h : d ≠ some t) : lget (sput d r fr) t = lget fr t := by
  cases d with
  | none => rfl
  | some d =>
    simp only [sput, lget_lset]
    rw [if_neg]
    rintro ⟨rfl, _⟩
    exact h rfl

theorem agree_put {ops : Array Oper} {o : Oper} {d : Option Tmp} (h : rdsB ops o d = false) (fr : List RV) (r : RV) (O O' : List Bk) : Agree ops o ⟨fr, O⟩ ⟨sput d r fr, O'⟩ ∧ Agree ops o ⟨sput d r fr, O'⟩ ⟨fr, O⟩ := by
  have h1 : ∀ x ∈ o.op.operands.toList, ∀ t, d = some t → x ≠ .tmp t := by
    rintro x hx t rfl rfl
    simp only [rdsB, Bool.or_eq_false_iff] at h
    have := h.1
    rw [Array.any_eq_false'] at this
    have := this (.tmp t) (by simpa using hx)
    simp at this
  have h2 : ∀ t, grd ops o = some t → d ≠ some t := by
    rintro t ht rfl
    simp [rdsB, ht] at h
  exact ⟨⟨fun x hx => get_sput (h1 x hx), fun t ht => lget_sput (h2 t ht)⟩, ⟨fun x hx => (get_sput (h1 x hx)).symm, fun t ht => (lget_sput (h2 t ht)).symm⟩⟩

theorem Agree.trans {ops o} {a b c : St} (h : Agree ops o a b) (k : Agree ops o b c) : Agree ops o a c := ⟨fun x hx => (k.1 x hx).trans (h.1 x hx), fun t ht => (k.2 t ht).trans (h.2 t ht)⟩

section
variable {P : Program} {ops : Array Oper} {RO : Nat → Bool} {eff : Nat → Bool} {ALL : List Nat} {R : St → Prop}

theorem DR.swap {k i : Nat} {rest : List Nat} {news : List (List Nat)} {s : St} (h : DR P ops RO eff ALL R (k :: i :: rest) news s) (hi : indepB ops eff k i = true) : DR P ops RO eff ALL R (i :: k :: rest) news s := by
  obtain ⟨ok, rk, hok, h⟩ := h
  unfold indepB at hi
  simp only [hok] at hi
  cases hoi : ops[i]? with
  | none => simp [hoi] at hi
  | some oi =>
    simp only [hoi, Bool.and_eq_true, Bool.not_eq_true', Bool.or_eq_true, bne_iff_ne, Option.isNone_iff_eq_none] at hi
    obtain ⟨⟨⟨hi1, hi2⟩, hi3⟩, hi4⟩ := hi
    cases hek : eff k with
    | false =>
      simp only [hek, Bool.false_eq_true, if_false] at h
      obtain ⟨hn, hf, oi', ri, hoi', h⟩ := h
      rw [hoi] at hoi'; cases hoi'
      have hfk : ∀ (O' : List Bk), (∀ n, RO n = true → olook n O' = olook n s.O) → Fl P ops RO ok ⟨sput oi.dst ri s.fr, O'⟩ rk := fun O' hO' s2 ha hO =>
        hf s2 ((agree_put hi2 s.fr ri s.O O').1.trans ha) fun n hn => (hO n hn).trans (hO' n hn)
      cases hei : eff i with
      | false =>
        simp only [hei, Bool.false_eq_true, if_false] at h
        obtain ⟨hn2, hf2, h⟩ := h
        refine ⟨oi, ri, hoi, ?_⟩
        simp only [hei, Bool.false_eq_true, if_false]
        refine ⟨hn2, fun s2 ha hO => hf2 s2 ((agree_put hi1 s.fr rk s.O s.O).2.trans ha) hO, ok, rk, hok, ?_⟩
        simp only [hek, Bool.false_eq_true, if_false]
        refine ⟨hn, hfk s.O fun _ _ => rfl, ?_⟩
        simp only [sput_comm s.fr hi3]
        exact h
      | true =>
        simp only [hei, if_true] at h
        obtain ⟨new, news', O', rfl, hn2, hro, hf2, h⟩ := h
        refine ⟨oi, ri, hoi, ?_⟩
        simp only [hei, if_true]
        refine ⟨new, news', O', rfl, hn2, hro, fun s2 ha hO hnew => hf2 s2 ((agree_put hi1 s.fr rk s.O s.O).2.trans ha) hO hnew, ok, rk, hok, ?_⟩
        simp only [hek, Bool.false_eq_true, if_false]
        refine ⟨hn, hfk O' hro, ?_⟩
        simp only [sput_comm s.fr hi3]
        exact h
    | true =>
      simp only [hek, if_true] at h
      obtain ⟨new, news', O', rfl, hn, hro, hf, oi', ri, hoi', h⟩ := h
      rw [hoi] at hoi'; cases hoi'
      cases hei : eff i with
      | true => simp [hek, hei] at hi4
      | false =>
        simp only [hei, Bool.false_eq_true, if_false] at h
        obtain ⟨hn2, hf2, h⟩ := h
        refine ⟨oi, ri, hoi, ?_⟩
        simp only [hei, Bool.false_eq_true, if_false]
        refine ⟨hn2, fun s2 ha hO => hf2 s2 ((agree_put hi1 s.fr rk s.O O').2.trans ha) fun n hn => (hO n hn).trans (hro n hn).symm, ok, rk, hok, ?_⟩
        simp only [hek, if_true]
        refine ⟨new, news', O', rfl, hn, hro, fun s2 ha hO hnew => hf s2 ((agree_put hi2 s.fr ri s.O s.O).1.trans ha) hO hnew, ?_⟩
        simp only [sput_comm s.fr hi3]
        exact h

theorem DR.tail_mono {i : Nat} {l l' : List Nat} {news s} (hl : ∀ news s, DR P ops RO eff ALL R l news s → DR P ops RO eff ALL R l' news s) (h : DR P ops RO eff ALL R (i :: l) news s) : DR P ops RO eff ALL R (i :: l') news s := by
  obtain ⟨o, r, ho, h⟩ := h
  refine ⟨o, r, ho, ?_⟩
  split
  · rename_i he
    rw [if_pos he] at h
    obtain ⟨new, news', O', h1, h2, h3, h4, h5⟩ := h
    exact ⟨new, news', O', h1, h2, h3, h4, hl _ _ h5⟩
  · rename_i he
    rw [if_neg he] at h
    exact ⟨h.1, h.2.1, hl _ _ h.2.2⟩

theorem DR.bubble {i : Nat} {L2 : List Nat} : ∀ (L1 : List Nat) {news s}, (∀ k ∈ L1, indepB ops eff k i = true) → DR P ops RO eff ALL R (L1 ++ i :: L2) news s → DR P ops RO eff ALL R (i :: (L1 ++ L2)) news s
  | [], _, _, _, h => h
  | k :: L1, news, s, hi, h => by
    have h1 : DR P ops RO eff ALL R (k :: i :: (L1 ++ L2)) news s := DR.tail_mono (fun news s h => DR.bubble L1 (fun k hk => hi k (by simp [hk])) h) h
    exact h1.swap (hi k (by simp))

/-- What has come up is closed under what waits. -/
def Down (ops : Array Oper) (listed : Array Bool) : Prop := ∀ (j : Nat) (o : Oper), ops[j]? = some o → listed.getD j true = true → ∀ e ∈ o.after, Region.binds .any e = true → listed.getD e.on false = true

theorem dep_listed {listed : Array Bool} (hd : Down ops listed) : ∀ (f i k : Nat) (o : Oper), ops[i]? = some o → (∀ e ∈ o.after, Region.binds .any e = true → listed.getD e.on false = true) → depB ops f i k = true → listed.getD k false = true
  | 0, _, _, _, _, _, h => by simp [depB] at h
  | f + 1, i, k, o, ho, hr, h => by
    simp only [depB, ho, Bool.or_eq_true, Array.any_eq_true', Bool.and_eq_true, beq_iff_eq] at h
    rcases h with ⟨e, he, hb, rfl⟩ | ⟨e, he, hb, h⟩
    · exact hr e he hb
    · have h1 := hr e he hb
      cases hoe : ops[e.on]? with
      | none => cases f <;> simp [depB, hoe] at h
      | some o' =>
        have h2 : listed.getD e.on true = true := by
          rw [Array.getD_eq_getD_getElem?] at h1 ⊢
          cases hq : listed[e.on]? with
          | none => simp
          | some b => simpa [hq] using h1
        exact dep_listed hd f e.on k o' hoe (hd e.on o' hoe h2) h

theorem draw_sound {Q : Exit → Act → World → Prop} {E : Env} {fuel : Nat} (hB : drawOk ops eff fuel = true) (hQ : ∀ s a w, R s → Rel E s a w → Q .normal a w) :
    ∀ (n : Nat) (listed : Array Bool) (idx : List Nat) (news : List (List Nat)) (s : St) (a : Act) (w : World), listed.size = ops.size → idx.length = n → idx.Pairwise (· < ·) → (∀ j, j ∈ idx ↔ j < ops.size ∧ listed.getD j true = false) → Down ops listed →
      (∀ m ∈ news.flatten, m ∈ ALL) → (∀ m ∈ news.flatten, m ∉ RV.namesL s.fr) → DR P ops RO eff ALL R idx news s → Rel E s a w → wpAny P .any ops Q n listed a w := by
  have hchk : ∀ i o, ops[i]? = some o → (∀ e ∈ o.after, Region.binds .any e = true → e.on < i) ∧ ∀ k, k < i → indepB ops eff k i = true ∨ depB ops fuel i k = true := by
    intro i o ho
    have hlt : i < ops.size := (Array.getElem?_eq_some_iff.1 ho).1
    have h1 := List.all_eq_true.1 hB i (List.mem_range.2 hlt)
    simp only [ho, Option.map_some, Option.getD_some, Bool.and_eq_true, Array.all_eq_true', Bool.or_eq_true, Bool.not_eq_true', decide_eq_true_eq, List.all_eq_true, List.mem_range] at h1
    refine ⟨fun e he hb => ?_, fun k hk => h1.2 k hk⟩
    rcases h1.1 e he with h2 | h2
    · rw [hb] at h2; cases h2
    · exact h2
  have hnm : ∀ (fr : List RV) (d : Option Tmp) (r : RV) (m : Nat), m ∉ RV.namesL fr → m ∉ r.names → m ∉ RV.namesL (sput d r fr) := by
    intro fr d r m h1 h2
    cases d with
    | none => exact h1
    | some d =>
      simp only [sput]
      induction fr generalizing d with
      | nil => exact h1
      | cons x xs ih =>
        simp only [RV.namesL, List.mem_append, not_or] at h1
        cases d with
        | zero => simp [lset, RV.namesL, h2, h1.2]
        | succ d => simp only [lset, RV.namesL, List.mem_append, not_or]; exact ⟨h1.1, ih h1.2 d⟩
  intro n
  induction n with
  | zero =>
    intro listed idx news s a w hsz hl _ hidx _ _ _ h hr
    have : idx = [] := List.eq_nil_of_length_eq_zero hl
    subst this
    refine ⟨?_, hQ s a w h hr⟩
    rw [List.eq_nil_iff_forall_not_mem]
    intro j hj
    obtain ⟨h1, o, ho, _⟩ := mem_ready.1 hj
    have : j ∈ ([] : List Nat) := (hidx j).2 ⟨(Array.getElem?_eq_some_iff.1 ho).1, h1⟩
    cases this
  | succ n ih =>
    intro listed idx news s a w hsz hl hsort hidx hdown hall hfresh h hr
    match idx, hl with
    | i0 :: rest0, hl =>
    refine ⟨fun hempty => ?_, ?_⟩
    · exfalso
      have hi0 := (hidx i0).1 (by simp)
      have hmem : i0 ∈ Region.ready .any ops listed := by
        refine mem_ready.2 ⟨hi0.2, ops[i0]'hi0.1, Array.getElem?_eq_getElem hi0.1, fun e he hb => ?_⟩
        have hlt := (hchk i0 _ (Array.getElem?_eq_getElem hi0.1)).1 e he hb
        cases hq : listed.getD e.on true with
        | true =>
          rw [Array.getD_eq_getD_getElem?] at hq ⊢
          have : e.on < listed.size := by omega
          rw [Array.getElem?_eq_getElem this] at hq ⊢
          simpa using hq
        | false =>
          have : e.on ∈ i0 :: rest0 := (hidx e.on).2 ⟨by omega, hq⟩
          rcases List.mem_cons.1 this with h5 | h5
          · omega
          · have := List.rel_of_pairwise_cons hsort h5; omega
      rw [hempty] at hmem
      cases hmem
    · intro i hi
      obtain ⟨hun, o, ho, hready⟩ := mem_ready.1 hi
      have hlt : i < ops.size := (Array.getElem?_eq_some_iff.1 ho).1
      have hmem : i ∈ i0 :: rest0 := (hidx i).2 ⟨hlt, hun⟩
      obtain ⟨L1, L2, hL⟩ := List.append_of_mem hmem
      rw [hL] at h hsort hl hidx
      have hind : ∀ k ∈ L1, indepB ops eff k i = true := by
        intro k hk
        have hki : k < i := (List.pairwise_append.1 hsort).2.2 k hk i (by simp)
        rcases (hchk i o ho).2 k hki with h5 | h5
        · exact h5
        · exfalso
          have h6 := dep_listed hdown fuel i k o ho hready h5
          have h7 := ((hidx k).1 (by simp [hk])).2
          rw [Array.getD_eq_getD_getElem?] at h6 h7
          cases hq : listed[k]? with
          | none => simp [hq] at h6
          | some b => simp [hq] at h6 h7; rw [h6] at h7; cases h7
      obtain ⟨o', r, ho', hstep⟩ := DR.bubble L1 hind h
      rw [ho] at ho'; cases ho'
      -- the rest, behind it
      have hsort' : (L1 ++ L2).Pairwise (· < ·) := by
        rw [List.pairwise_append] at hsort ⊢
        exact ⟨hsort.1, (List.pairwise_cons.1 hsort.2.1).2, fun x hx y hy => hsort.2.2 x hx y (by simp [hy])⟩
      have hnotin : i ∉ L1 ++ L2 := by
        intro hx
        rw [List.pairwise_append] at hsort
        rcases List.mem_append.1 hx with hx | hx
        · have := hsort.2.2 i hx i (by simp); omega
        · have := (List.pairwise_cons.1 hsort.2.1).1 i hx; omega
      have hidx' : ∀ j, j ∈ L1 ++ L2 ↔ j < ops.size ∧ (listed.setIfInBounds i true).getD j true = false := by
        intro j
        by_cases hji : j = i
        · subst hji
          constructor
          · intro hx; exact absurd hx hnotin
          · rintro ⟨_, hx⟩
            rw [Array.getD_eq_getD_getElem?, Array.getElem?_setIfInBounds] at hx
            simp at hx
            split at hx <;> simp at hx
        · have h8 : (listed.setIfInBounds i true).getD j true = listed.getD j true := by
            rw [Array.getD_eq_getD_getElem?, Array.getD_eq_getD_getElem?, Array.getElem?_setIfInBounds, if_neg (fun e => hji e.symm)]
          rw [h8, ← hidx j]
          simp [hji]
      have hdown' : Down ops (listed.setIfInBounds i true) := by
        intro j oj hoj hlj e he hb
        have hset : ∀ q, listed.getD q false = true → (listed.setIfInBounds i true).getD q false = true := by
          intro q hq
          rw [Array.getD_eq_getD_getElem?] at hq ⊢
          rw [Array.getElem?_setIfInBounds]
          split
          · split <;> simp_all
          · exact hq
        by_cases hji : j = i
        · subst hji
          rw [ho] at hoj; cases hoj
          exact hset _ (hready e he hb)
        · have h8 : (listed.setIfInBounds i true).getD j true = listed.getD j true := by
            rw [Array.getD_eq_getD_getElem?, Array.getD_eq_getD_getElem?, Array.getElem?_setIfInBounds, if_neg (fun e => hji e.symm)]
          rw [h8] at hlj
          exact hset _ (hdown j oj hoj hlj e he hb)
      have hlen' : (L1 ++ L2).length = n := by simp at hl ⊢; omega
      have hsz' : (listed.setIfInBounds i true).size = ops.size := by simpa using hsz
      have fin : ∀ (s' : St) (news' : List (List Nat)), OpG P ops o s s' → (∀ m ∈ news'.flatten, m ∈ ALL) → (∀ m ∈ news'.flatten, m ∉ RV.namesL s'.fr) → DR P ops RO eff ALL R (L1 ++ L2) news' s' → wpOp P ops Q i (wpAny P .any ops Q n (listed.setIfInBounds i true)) a w := by
        intro s' news' hop h10 h11 h12
        have := hop E a w hr (wpAny P .any ops Q n (listed.setIfInBounds i true)) Q fun a' w' hr' => ih _ _ _ s' a' w' hsz' hlen' hsort' hidx' hdown' h10 h11 h12 hr'
        unfold wpOp
        simp only [ho]
        split
        · rename_i hw; rw [if_pos hw] at this; exact .inl this
        · rename_i hw; rw [if_neg hw] at this; exact this
      split at hstep
      · obtain ⟨new, news', O', rfl, h13, h14, h15, h16⟩ := hstep
        refine fin _ news' (h15 s ⟨fun _ _ => rfl, fun _ _ => rfl⟩ rfl fun m hm => hfresh m (by simp [hm])) (fun m hm => hall m (by simp only [List.flatten_cons, List.mem_append]; exact .inr hm)) (fun m hm => ?_) h16
        exact hnm _ _ _ m (hfresh m (by simp only [List.flatten_cons, List.mem_append]; exact .inr hm)) fun hx => h13 m hx hm
      · obtain ⟨h13, h15, h16⟩ := hstep
        refine fin _ news (h15 s ⟨fun _ _ => rfl, fun _ _ => rfl⟩ fun _ _ => rfl) hall (fun m hm => ?_) h16
        exact hnm _ _ _ m (hfresh m hm) fun hx => h13 m hx (hall m hm)

end

/-- The rest of a region that draws, as walks take it. -/
structure D (P : Program) (ops : Array Oper) (RO : Nat → Bool) (eff : Nat → Bool) (ALL : List Nat) (news : List (List Nat)) (k : Nat) (l : List Oper) (R : St → Prop) (s : St) : Prop where
  out : (∀ j, l[j]? = ops[k + j]?) → DR P ops RO eff ALL R (List.range' k l.length) news s

theorem d_nil {P ops RO eff ALL news k R s} (h : R s) : D P ops RO eff ALL news k [] R s := ⟨fun _ => h⟩
theorem d_fl {P ops RO eff ALL news k o rest R fr O r fr'} (he : eff k = false) (h : Fl P ops RO o ⟨fr, O⟩ r) (e : sput o.dst r fr = fr') (hn : ∀ m ∈ r.names, m ∉ ALL) (hk : D P ops RO eff ALL news (k + 1) rest R ⟨fr', O⟩) : D P ops RO eff ALL news k (o :: rest) R ⟨fr, O⟩ := by
  subst e
  refine ⟨fun hl => ?_⟩
  rw [List.length_cons, List.range'_succ]
  refine ⟨o, r, by simpa using (hl 0).symm, ?_⟩
  rw [if_neg (by rw [he]; simp)]
  exact ⟨hn, h, hk.out fun j => by have := hl (j + 1); simpa [Nat.add_assoc, Nat.add_comm 1 j] using this⟩
theorem d_ef {P ops RO eff ALL new news k o rest R fr O r fr' O1 O'} (he : eff k = true) (h : Ef P ops new o ⟨fr, O⟩ r O1) (e1 : sput o.dst r fr = fr') (e2 : O1 = O') (hn : ∀ m ∈ r.names, m ∉ news.flatten) (hro : ∀ n, RO n = true → olook n O' = olook n O) (hk : D P ops RO eff ALL news (k + 1) rest R ⟨fr', O'⟩) : D P ops RO eff ALL (new :: news) k (o :: rest) R ⟨fr, O⟩ := by
  subst e1; subst e2
  refine ⟨fun hl => ?_⟩
  rw [List.length_cons, List.range'_succ]
  refine ⟨o, r, by simpa using (hl 0).symm, ?_⟩
  rw [if_pos he]
  exact ⟨new, news, O1, rfl, hn, hro, h, hk.out fun j => by have := hl (j + 1); simpa [Nat.add_assoc, Nat.add_comm 1 j] using this⟩

/-- A region that draws its order. -/
theorem w_draw {P id l R fr O} (RO eff : Nat → Bool) (news : List (List Nat)) (fuel : Nat) (hm : P.follows .mixedOrders = true) (hB : drawOk l.toArray eff fuel = true) (hf : ∀ m ∈ news.flatten, m ∉ RV.namesL fr) (h : D P l.toArray RO eff news.flatten news 0 l (R .normal) ⟨fr, O⟩) : W P (.region id l.toArray true) R ⟨fr, O⟩ := by
  refine ⟨fun E a w hr => ?_⟩
  refine wp_region_any hm ?_
  have hd := h.out (by simp)
  refine draw_sound (RO := RO) (eff := eff) (ALL := news.flatten) (R := R .normal) (E := E) hB (fun s' a' w' h1 h2 => ⟨s', h1, h2⟩) _ _ (List.range' 0 l.length) news ⟨fr, O⟩ a _ (by simp) (by simp) List.pairwise_lt_range' ?_ ?_ (fun _ h => h) hf hd hr.drew
  · intro j
    simp only [List.mem_range'_1, Nat.zero_le, true_and, Nat.zero_add, List.size_toArray]
    constructor
    · intro hj; refine ⟨hj, ?_⟩; simp [Array.getD_eq_getD_getElem?, Array.getElem?_replicate, hj]
    · exact fun h => h.1
  · intro j o ho hj
    have hlt : j < l.toArray.size := (Array.getElem?_eq_some_iff.1 ho).1
    simp only [List.size_toArray] at hlt
    simp [Array.getD_eq_getD_getElem?, Array.getElem?_replicate, hlt] at hj

end Eng
end Go.Proofs.Ytpbokegnbipbjaa
