/- Forms put into a book and laid out anew; what is reached. For all lists of nodes, in plain lists. -/
import Derived.Test.YtdignmbeiohhiaaFormQ
namespace Go.Proofs.Ytdignmbeiohhiaa
set_option linter.unusedSimpArgs false
set_option linter.unusedVariables false

/-- Marks. -/
def mkL : List Nat → List Bool → List Bool
  | [], is => is
  | k :: ks, is => mkL ks (is.set k true)
theorem mkL_len : ∀ (l : List Nat) (is : List Bool), (mkL l is).length = is.length
  | [], _ => rfl
  | k :: ks, is => by rw [mkL, mkL_len]; simp
theorem mkL_at : ∀ (l : List Nat) (is : List Bool) (k : Nat), (mkL l is).getD k false = true ↔ is.getD k false = true ∨ (k ∈ l ∧ k < is.length)
  | [], is, k => by simp [mkL]
  | x :: xs, is, k => by
    rw [mkL, mkL_at, List.length_set, List.mem_cons]
    have e : (is.set x true).getD k false = true ↔ is.getD k false = true ∨ (k = x ∧ k < is.length) := by
      simp only [List.getD_eq_getElem?_getD, List.getElem?_set]
      by_cases h : x = k
      · subst h
        rw [if_pos rfl]
        by_cases h2 : x < is.length
        · simp [h2]
        · simp [h2]
      · rw [if_neg h]
        constructor
        · exact .inl
        · rintro (h1 | ⟨h1, _⟩)
          · exact h1
          · exact absurd h1.symm h
    rw [e]
    constructor
    · rintro ((h | ⟨h, h2⟩) | ⟨h, h2⟩)
      · exact .inl h
      · exact .inr ⟨.inl h, h2⟩
      · exact .inr ⟨.inr h, h2⟩
    · rintro (h | ⟨h | h, h2⟩)
      · exact .inl (.inl h)
      · exact .inl (.inr ⟨h, h2⟩)
      · exact .inr ⟨h, h2⟩
theorem mkL_app : ∀ (l : List Nat) (is t : List Bool), (∀ x ∈ l, x < is.length) → mkL l (is ++ t) = mkL l is ++ t
  | [], _, _, _ => rfl
  | x :: xs, is, t, h => by
    rw [mkL, mkL, List.set_append_left _ _ (h x (by simp)), mkL_app xs _ _ fun y hy => by rw [List.length_set]; exact h y (by simp [hy])]
/-- What is reached: options of what is marked are marked, from a place downwards. -/
def usd (f : List Nd) : Nat → List Bool → List Bool
  | 0, is => is
  | i + 1, is => usd f i (if is.getD i false = true then mkL (nd f i).2 (mkL (nd f i).1 is) else is)
section
variable {f : List Nd}
theorem usd_len : ∀ (i : Nat) (is : List Bool), (usd f i is).length = is.length
  | 0, _ => rfl
  | i + 1, is => by rw [usd, usd_len]; split <;> simp [mkL_len]
theorem usd_mono : ∀ (i : Nat) (is : List Bool) (k : Nat), is.getD k false = true → (usd f i is).getD k false = true
  | 0, _, _, h => h
  | i + 1, is, k, h => by
    rw [usd]
    refine usd_mono i _ k ?_
    split
    · exact (mkL_at _ _ _).2 (.inl ((mkL_at _ _ _).2 (.inl h)))
    · exact h
theorem usd_high (ok : OkF f) : ∀ (i : Nat) (is : List Bool) (k : Nat), i ≤ k → (usd f i is).getD k false = is.getD k false
  | 0, _, _, _ => rfl
  | i + 1, is, k, h => by
    rw [usd, usd_high ok i _ k (by omega)]
    split
    · rw [Bool.eq_iff_iff, mkL_at, mkL_at]
      constructor
      · rintro ((h1 | ⟨h1, _⟩) | ⟨h1, _⟩)
        · exact h1
        · have := (ok i).1.2 k h1; omega
        · have := (ok i).2.2 k h1; omega
      · exact fun h1 => .inl (.inl h1)
    · rfl
theorem usd_closed (ok : OkF f) : ∀ (i : Nat) (is : List Bool), i ≤ is.length → Closed f (usd f i is) i
  | 0, _, _ => fun k h => absurd h (by omega)
  | i + 1, is, hl => by
    intro k hk hkt x hx
    rw [usd] at hkt ⊢
    by_cases hki : k < i
    · exact usd_closed ok i (if is.getD i false = true then mkL (nd f i).2 (mkL (nd f i).1 is) else is) (by split <;> (try rw [mkL_len, mkL_len]) <;> omega) k hki hkt x hx
    · obtain rfl : k = i := by omega
      rw [usd_high ok k _ k (Nat.le_refl _)] at hkt
      refine usd_mono k _ x ?_
      split
      · rename_i h
        rw [mkL_at, mkL_at, mkL_len]
        rcases hx with hx | hx
        · exact .inl (.inr ⟨hx, by have := (ok k).1.2 x hx; omega⟩)
        · exact .inr ⟨hx, by have := (ok k).2.2 x hx; omega⟩
      · rename_i h
        rw [if_neg h] at hkt
        exact absurd hkt h
theorem usd_app (ok : OkF f) : ∀ (i : Nat) (is t : List Bool), i ≤ is.length → usd f i (is ++ t) = usd f i is ++ t
  | 0, _, _, _ => rfl
  | i + 1, is, t, h => by
    have e : (is ++ t).getD i false = is.getD i false := by
      simp only [List.getD_eq_getElem?_getD]
      rw [List.getElem?_append_left (by omega)]
    rw [usd, usd, e]
    split
    · rw [mkL_app _ _ _ (fun x hx => by have := (ok i).1.2 x hx; omega), mkL_app _ _ _ (fun x hx => by rw [mkL_len]; have := (ok i).2.2 x hx; omega)]
      exact usd_app ok i _ _ (by simp [mkL_len]; omega)
    · exact usd_app ok i _ _ (by omega)
/-- What is reached from a place. -/
def usdF (f : List Nd) (at_ : Nat) : List Bool := usd f (at_ + 1) ((List.replicate (at_ + 1) false).set at_ true)
theorem usdF_len (at_ : Nat) : (usdF f at_).length = at_ + 1 := by unfold usdF; rw [usd_len]; simp
theorem usdF_root (at_ : Nat) : (usdF f at_).getD at_ false = true := usd_mono _ _ _ (by simp [List.getD_eq_getElem?_getD])
theorem usdF_closed (ok : OkF f) (at_ : Nat) : Closed f (usdF f at_) (at_ + 1) := usd_closed ok _ _ (by simp)
theorem usd_long (ok : OkF f) (at_ m : Nat) : usd f (at_ + 1) ((List.replicate (at_ + 1 + m) false).set at_ true) = usdF f at_ ++ List.replicate m false := by
  have e : (List.replicate (at_ + 1 + m) false).set at_ true = (List.replicate (at_ + 1) false).set at_ true ++ List.replicate m false := by
    rw [← List.set_append_left _ _ (by simp), List.replicate_append_replicate]
  rw [e, usd_app ok _ _ _ (by simp)]; rfl
end

/-- Where a node is in a book; behind its end, if it isn't there. -/
def fnB (x : Nd × Nat) : List (Nd × Nat) → Nat
  | [] => 0
  | e :: es => if e = x then 0 else fnB x es + 1
theorem fnB_le (x : Nd × Nat) : ∀ E, fnB x E ≤ E.length
  | [] => Nat.le_refl _
  | e :: es => by rw [fnB]; have := fnB_le x es; split <;> simp <;> omega
theorem fnB_at {x : Nd × Nat} : ∀ {E : List (Nd × Nat)} (h : fnB x E < E.length), E[fnB x E] = x
  | [], h => by simp [fnB] at h
  | e :: es, h => by
    by_cases he : e = x
    · have e0 : fnB x (e :: es) = 0 := by rw [fnB, if_pos he]
      simp only [e0, List.getElem_cons_zero]; exact he
    · have e0 : fnB x (e :: es) = fnB x es + 1 := by rw [fnB, if_neg he]
      rw [e0] at h
      simp only [e0, List.getElem_cons_succ]
      exact fnB_at (by simpa using h)
theorem fnB_out {x : Nd × Nat} : ∀ {E : List (Nd × Nat)}, ¬ fnB x E < E.length → x ∉ E
  | [], _ => by simp
  | e :: es, h => by
    rw [fnB] at h
    split at h
    · simp at h
    · rename_i he
      rw [List.mem_cons, not_or]
      exact ⟨fun e2 => he e2.symm, fnB_out (by simpa using h)⟩
def bkB (E : List (Nd × Nat)) : List Nat := E.map (·.2)
def bkN (E : List (Nd × Nat)) : List Nd := E.map (·.1)
/-- The node that some options make. -/
def mkN (E : List (Nd × Nat)) (l r : List Nat) : Nd × Nat := ((putNs l [], putNs r []), mxb (bkB E) r (mxb (bkB E) l 0))
/-- A node put into a book. -/
def putB (E : List (Nd × Nat)) (l r : List Nat) : List (Nd × Nat) × Nat := if fnB (mkN E l r) E < E.length then (E, fnB (mkN E l r) E) else (E ++ [mkN E l r], E.length)
def atM (at_ : List Nat) (l : List Nat) : List Nat := l.map fun i => at_.getD i 0
def addTo (f : List Nd) : Nat → List (Nd × Nat) × List Nat
  | 0 => ([], [])
  | k + 1 => ((putB (addTo f k).1 (atM (addTo f k).2 (nd f k).1) (atM (addTo f k).2 (nd f k).2)).1, (addTo f k).2 ++ [(putB (addTo f k).1 (atM (addTo f k).2 (nd f k).1) (atM (addTo f k).2 (nd f k).2)).2])
section
variable {f : List Nd}
theorem atM_range (l : List Nat) {k : Nat} (h : ∀ x ∈ l, x < k) : atM (List.range k) l = l := map_id_of fun x hx => by
  have := h x hx
  simp [List.getD_eq_getElem?_getD, this]
/-- What a book has of a form's first nodes. -/
structure BkI (f : List Nd) (k : Nat) (q : List (Nd × Nat) × List Nat) : Prop where
  le : q.1.length ≤ k
  atl : q.2.length = k
  atb : ∀ x ∈ q.2, x < q.1.length
  nod : q.1.Nodup
  okb : OkF (bkN q.1)
  bnb : ∀ e ∈ q.1, e.2 ≤ q.1.length
  full : q.1.length = k → (∀ i (h : i < q.1.length), q.1[i] = (nd f i, (bnF f).getD i 0)) ∧ q.2 = List.range k
theorem mkN_full (ok : OkF f) {k : Nat} (hk : k < f.length) {q : List (Nd × Nat) × List Nat} (h1 : q.1.length = k) (h2 : (∀ i (h : i < q.1.length), q.1[i] = (nd f i, (bnF f).getD i 0)) ∧ q.2 = List.range k) : mkN q.1 (atM q.2 (nd f k).1) (atM q.2 (nd f k).2) = (nd f k, (bnF f).getD k 0) := by
  unfold mkN
  rw [h2.2, atM_range _ (ok k).1.2, atM_range _ (ok k).2.2, putNs_id (ok k).1.1, putNs_id (ok k).2.1]
  have hb : ∀ i, i < k → (bkB q.1).getD i 0 = (bnF f).getD i 0 := fun i hi => by
    have hi' : i < q.1.length := by omega
    unfold bkB
    rw [gdp (by rw [List.length_map]; exact hi'), List.getElem_map, h2.1 i hi']
  rw [mxb_congr fun i hi => hb i ((ok k).2.2 i hi), mxb_congr (l := (nd f k).1) fun i hi => hb i ((ok k).1.2 i hi)]
  rw [← bn_eq ok hk]
theorem SN_putN {n : Nat} : ∀ {l : List Nat}, SN l → SN (putN n l) ∧ ∀ y ∈ putN n l, y = n ∨ y ∈ l
  | [], _ => by simp [putN]
  | x :: xs, h => by
    rw [SN, List.pairwise_cons] at h
    obtain ⟨i1, i2⟩ := SN_putN (n := n) h.2
    rw [putN]
    split
    · rename_i h1
      refine ⟨?_, fun y hy => ?_⟩
      · rw [SN, List.pairwise_cons]
        refine ⟨fun y hy => ?_, i1⟩
        rcases i2 y hy with e | hy
        · omega
        · exact h.1 y hy
      · rcases List.mem_cons.1 hy with rfl | hy
        · exact .inr (by simp)
        · rcases i2 y hy with e | hy
          · exact .inl e
          · exact .inr (by simp [hy])
    · split
      · exact ⟨by rw [SN, List.pairwise_cons]; exact h, fun y hy => .inr hy⟩
      · rename_i h1 h2
        refine ⟨?_, fun y hy => ?_⟩
        · rw [SN, List.pairwise_cons]
          refine ⟨fun y hy => ?_, by rw [List.pairwise_cons]; exact h⟩
          rcases List.mem_cons.1 hy with rfl | hy
          · omega
          · have := h.1 y hy; omega
        · rcases List.mem_cons.1 hy with rfl | hy
          · exact .inl rfl
          · exact .inr hy
theorem SN_putNs : ∀ (l : List Nat) {acc : List Nat}, SN acc → SN (putNs l acc) ∧ ∀ y ∈ putNs l acc, y ∈ l ∨ y ∈ acc
  | [], acc, h => ⟨h, fun y hy => .inr hy⟩
  | x :: xs, acc, h => by
    obtain ⟨a, b⟩ := SN_putN (n := x) h
    obtain ⟨c, d⟩ := SN_putNs xs a
    refine ⟨c, fun y hy => ?_⟩
    rcases d y hy with h1 | h1
    · exact .inl (by simp [h1])
    · rcases b y h1 with h2 | h2
      · exact .inl (by simp [h2])
      · exact .inr h2
theorem mkN_ok {E : List (Nd × Nat)} {l r : List Nat} (hb : ∀ e ∈ E, e.2 ≤ E.length) (hl : ∀ x ∈ l, x < E.length) (hr : ∀ x ∈ r, x < E.length) :
    (SN (mkN E l r).1.1 ∧ ∀ x ∈ (mkN E l r).1.1, x < E.length) ∧ (SN (mkN E l r).1.2 ∧ ∀ x ∈ (mkN E l r).1.2, x < E.length) ∧ (mkN E l r).2 ≤ E.length + 1 := by
  have hm : ∀ l : List Nat, (∀ x ∈ l, x < E.length) → SN (putNs l []) ∧ ∀ x ∈ putNs l [], x < E.length := fun l hl => by
    obtain ⟨a, b⟩ := SN_putNs l (acc := []) (by simp)
    exact ⟨a, fun x hx => by rcases b x hx with h | h; · exact hl x h
                             · cases h⟩
  have hbn : ∀ i, i < E.length → (bkB E).getD i 0 + 1 ≤ E.length + 1 := fun i hi => by
    rw [bkB, gdp (by rw [List.length_map]; exact hi), List.getElem_map]
    have := hb _ (List.getElem_mem hi); omega
  have hx : ∀ (l : List Nat) (m : Nat), m ≤ E.length + 1 → (∀ x ∈ l, x < E.length) → mxb (bkB E) l m ≤ E.length + 1 := by
    intro l
    induction l with
    | nil => exact fun m h _ => h
    | cons i is ih => exact fun m h h2 => ih _ (by have := hbn i (h2 i (by simp)); omega) fun x hx => h2 x (by simp [hx])
  exact ⟨hm l hl, hm r hr, hx _ _ (hx _ _ (by omega) hl) hr⟩
theorem okF_snoc {E : List (Nd × Nat)} {x : Nd × Nat} (h : OkF (bkN E)) (h1 : SN x.1.1 ∧ ∀ y ∈ x.1.1, y < E.length) (h2 : SN x.1.2 ∧ ∀ y ∈ x.1.2, y < E.length) : OkF (bkN (E ++ [x])) := by
  intro k
  have e : nd (bkN (E ++ [x])) k = if k < E.length then nd (bkN E) k else if k = E.length then x.1 else ([], []) := by
    unfold nd bkN
    rw [List.map_append]
    by_cases hk : k < E.length
    · rw [if_pos hk, gdp (by simp; omega), List.getElem_append_left (by simpa using hk), gdp (by simpa using hk)]
    · rw [if_neg hk]
      by_cases hk2 : k = E.length
      · rw [if_pos hk2, gdp (by simp; omega), List.getElem_append_right (by simp; omega)]
        simp [hk2]
      · rw [if_neg hk2, gdp_out (by simp; omega)]
  rw [e]
  split
  · exact h k
  · split
    · rename_i _ hk; rw [hk]; exact ⟨h1, h2⟩
    · simp
theorem addTo_ok (ok : OkF f) : ∀ k, k ≤ f.length → BkI f k (addTo f k)
  | 0, _ => ⟨Nat.le_refl _, rfl, (fun x hx => by cases hx), List.nodup_nil, (fun k => by simp [addTo, bkN, nd]), (fun e he => by cases he), fun _ => ⟨fun i h => by simp [addTo] at h, rfl⟩⟩
  | k + 1, hk => by
    have ih := addTo_ok ok k (by omega)
    rw [addTo]
    generalize addTo f k = q at *
    have hm := fun h1 => mkN_full ok (show k < f.length by omega) h1 (ih.full h1)
    have hat : ∀ l : List Nat, (∀ x ∈ l, x < k) → ∀ x ∈ atM q.2 l, x < q.1.length := fun l hl x hx => by
      obtain ⟨y, hy, rfl⟩ := List.mem_map.1 hx
      rw [gdp (by rw [ih.atl]; exact hl y hy)]
      exact ih.atb _ (List.getElem_mem _)
    have hmo := mkN_ok (E := q.1) (l := atM q.2 (nd f k).1) (r := atM q.2 (nd f k).2) ih.bnb (hat _ (ok k).1.2) (hat _ (ok k).2.2)
    unfold putB
    generalize mkN q.1 (atM q.2 (nd f k).1) (atM q.2 (nd f k).2) = x at *
    split
    · rename_i h
      have := ih.le
      refine ⟨by dsimp only; omega, by simp [ih.atl], fun y hy => ?_, ih.nod, ih.okb, ih.bnb, fun h1 => by dsimp only at h1; omega⟩
      dsimp only at hy ⊢
      rcases List.mem_append.1 hy with hy | hy
      · exact ih.atb y hy
      · rw [List.mem_singleton.1 hy]; exact h
    · rename_i h
      have := ih.le
      refine ⟨by simp; omega, by simp [ih.atl], fun y hy => ?_, ?_, okF_snoc ih.okb hmo.1 hmo.2.1, fun e he => ?_, fun h1 => ?_⟩
      · dsimp only at hy ⊢
        rw [List.length_append, List.length_singleton]
        rcases List.mem_append.1 hy with hy | hy
        · have := ih.atb y hy; omega
        · rw [List.mem_singleton.1 hy]; omega
      · dsimp only
        rw [List.nodup_append]
        exact ⟨ih.nod, by simp, fun a ha b hb e => fnB_out h (by rw [List.mem_singleton] at hb; rw [← hb, ← e]; exact ha)⟩
      · dsimp only at he ⊢
        rw [List.length_append, List.length_singleton]
        rcases List.mem_append.1 he with he | he
        · have := ih.bnb e he; omega
        · rw [List.mem_singleton.1 he]; exact hmo.2.2
      · dsimp only at h1 ⊢
        rw [List.length_append, List.length_singleton] at h1
        have h1 : q.1.length = k := by omega
        obtain ⟨f1, f2⟩ := ih.full h1
        refine ⟨fun i hi => ?_, ?_⟩
        · rcases Nat.lt_or_ge i q.1.length with h2 | h2
          · rw [List.getElem_append_left h2]; exact f1 i h2
          · have : i = k := by rw [List.length_append, List.length_singleton] at hi; omega
            rw [List.getElem_append_right h2]
            simp only [List.getElem_singleton]
            rw [hm h1, this]
        · rw [f2, h1, List.range_succ]
theorem addTo_full (ok : OkF f) (inj : ∀ i j, i < f.length → j < f.length → nd f i = nd f j → i = j) : ∀ k, k ≤ f.length → (addTo f k).1.length = k
  | 0, _ => rfl
  | k + 1, hk => by
    have h1 := addTo_full ok inj k (by omega)
    have ih := addTo_ok ok k (by omega)
    have hf := ih.full h1
    have hm := mkN_full ok (show k < f.length by omega) h1 hf
    rw [addTo]
    generalize addTo f k = q at *
    unfold putB
    rw [hm]
    split
    · rename_i h
      have h2 := fnB_at h
      rw [hf.1 _ h] at h2
      have h3 := inj _ _ (by omega) (by omega) (congrArg Prod.fst h2)
      omega
    · simp [h1]
/-- The form laid out anew out of a book. -/
def laid (f : List Nd) : List Nd :=
  let q := addTo f f.length
  let root := q.2.getD (f.length - 1) 0
  frm (bkN q.1) (bkB q.1) (usdF (bkN q.1) root) root
theorem book_full {q : List (Nd × Nat) × List Nat} (h : BkI f f.length q) (hl : q.1.length = f.length) : bkN q.1 = f ∧ bkB q.1 = bnF f ∧ q.2 = List.range f.length := by
  obtain ⟨h1, h2⟩ := h.full hl
  refine ⟨List.ext_getElem (by simp [bkN, hl]) fun i a b => ?_, List.ext_getElem (by simp [bkB, hl, brn_len]) fun i a b => ?_, h2⟩
  · have hi : i < q.1.length := by omega
    simp only [bkN, List.getElem_map, h1 i hi, nd]
    rw [gdp b]
  · have hi : i < q.1.length := by rw [bkB, List.length_map] at a; exact a
    simp only [bkB, List.getElem_map, h1 i hi]
    rw [gdp b]
theorem need_all {need : List Bool} {n : Nat} (h : n ≤ ((List.range n).filter fun k => need.getD k false).length) : ∀ k, k < n → need.getD k false = true := by
  have h2 := List.length_filter_le (fun k => need.getD k false) (List.range n)
  have h3 : ((List.range n).filter fun k => need.getD k false).length = (List.range n).length := by rw [List.length_range] at h2 ⊢; omega
  have h4 := List.length_filter_eq_length_iff.1 h3
  exact fun k hk => h4 k (List.mem_range.2 hk)
/-- The form is its own laid out form just where it is in order and all is reached. -/
theorem laid_iff (ok : OkF f) (hN : 0 < f.length) : laid f = f ↔ Srt f ∧ ∀ k, k < f.length → (usdF f (f.length - 1)).getD k false = true := by
  have hB := addTo_ok ok f.length (Nat.le_refl _)
  constructor
  · intro h
    unfold laid at h
    have hroot : (addTo f f.length).2.getD (f.length - 1) 0 < (addTo f f.length).1.length := by
      rw [gdp (by rw [hB.atl]; omega)]; exact hB.atb _ (List.getElem_mem _)
    dsimp only at h
    generalize hr : (addTo f f.length).2.getD (f.length - 1) 0 = root at *
    generalize hq : addTo f f.length = q at *
    have hlen := congrArg List.length h
    rw [frm, rndTo_len] at hlen
    have h1 := List.length_filter_le (fun k => (usdF (bkN q.1) root).getD k false && decide ((bkB q.1).getD k 0 < (bkB q.1).getD root 0 + 1)) (List.range (root + 1))
    rw [List.length_range] at h1
    have hle := hB.le
    have hfl : q.1.length = f.length := by omega
    have hroot' : root = f.length - 1 := by omega
    obtain ⟨e1, e2, e3⟩ := book_full hB hfl
    rw [e1, e2] at h hlen
    have hall : ∀ k, k < f.length → (usdF f root).getD k false = true := by
      have h2 : ((List.range (root + 1)).filter fun k => (usdF f root).getD k false && decide ((bnF f).getD k 0 < (bnF f).getD root 0 + 1)).length ≤ ((List.range (root + 1)).filter fun k => (usdF f root).getD k false).length := by
        rw [← List.filter_filter]
        refine Nat.le_trans ?_ (Nat.le_refl _)
        rw [List.filter_filter]
        have : ∀ l : List Nat, (l.filter fun k => (usdF f root).getD k false && decide ((bnF f).getD k 0 < (bnF f).getD root 0 + 1)).length ≤ (l.filter fun k => (usdF f root).getD k false).length := by
          intro l
          induction l with
          | nil => exact Nat.le_refl _
          | cons x xs ih =>
            rw [List.filter_cons, List.filter_cons]
            cases (usdF f root).getD x false with
            | false => simpa using ih
            | true =>
              rw [Bool.true_and, if_pos (show true = true from rfl)]
              split <;> simp only [List.length_cons] <;> omega
        exact this _
      have h3 := need_all (need := usdF f root) (n := root + 1) (by omega)
      exact fun k hk => h3 k (by omega)
    have inj : ∀ i j, i < f.length → j < f.length → nd f i = nd f j → i = j := by
      intro i j hi hj e
      obtain ⟨g1, _⟩ := hB.full hfl
      have e4 : q.1[i]'(by omega) = q.1[j]'(by omega) := by
        rw [g1 i (by omega), g1 j (by omega), e, show (bnF f).getD i 0 = (bnF f).getD j 0 from bn_same ok hi hj e]
      rcases Nat.lt_trichotomy i j with h5 | h5 | h5
      · exact absurd e4 (List.pairwise_iff_getElem.1 hB.nod i j (by omega) (by omega) h5)
      · exact h5
      · exact absurd e4.symm (List.pairwise_iff_getElem.1 hB.nod j i (by omega) (by omega) h5)
    refine ⟨frm_srt ok (by omega) inj hall h, ?_⟩
    rw [← hroot']; exact hall
  · rintro ⟨srt, hall⟩
    have hfl := addTo_full ok (fun i j hi hj e => srt_inj ok srt hi hj e) f.length (Nat.le_refl _)
    obtain ⟨e1, e2, e3⟩ := book_full hB hfl
    unfold laid
    dsimp only
    have hr : (addTo f f.length).2.getD (f.length - 1) 0 = f.length - 1 := by
      rw [e3, gdp (by rw [List.length_range]; omega), List.getElem_range]
    rw [hr, e1, e2, frm_of_srt ok srt (by omega) (usdF_closed ok _) (usdF_root _), show f.length - 1 + 1 = f.length by omega, partF]
    have hnd : ∀ n, n ≤ f.length → ned (usdF f (f.length - 1)) n = List.range n := fun n hn => by
      unfold ned
      rw [List.filter_eq_self]
      exact fun k hk => hall k (by have := List.mem_range.1 hk; omega)
    rw [hnd _ (Nat.le_refl _)]
    refine List.ext_getElem (by simp) fun i h1 h2 => ?_
    rw [List.getElem_map, List.getElem_range, nodeOf]
    have hrk : ∀ x, x < i → rk (usdF f (f.length - 1)) x = x := fun x hx => by unfold rk; rw [hnd x (by omega), List.length_range]
    rw [map_id_of fun x hx => hrk x ((ok i).1.2 x hx), map_id_of fun x hx => hrk x ((ok i).2.2 x hx), nd, gdp h2]
end
end Go.Proofs.Ytdignmbeiohhiaa
