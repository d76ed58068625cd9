/- The engine, part A: symbolic values, how they stand for the model's values in memory, and how that lasts. No condition. -/
import Derived.WalkKit
import Derived.WalkSpells
import Derived.WalkLawsBesides
namespace Go.Proofs.Ytpbokegnbipbjaa
namespace Eng

/-- A symbolic value: exact; unknown; a frozen slice by value; an owned slice by value; a slice of, a pointer into a named owned block (element, cell); a pointer to a frozen element; a struct; results; a function with what it caught. -/
inductive RV where
  | v (x : Value)
  | any
  | sh (els : List RV)
  | ow (k : Nat) (els : List RV)
  | ref (n off len : Nat)
  | ptr (n i j : Nat)
  | psh (e : RV)
  | agg (cs : List RV)
  | tup (vs : List RV)
  | fn (f : Fn) (caps : List RV)
  deriving Inhabited

/-- Cells at an address. -/
def CellsAt (w : World) (a : Addr) (cs : List Value) : Prop := ∀ j x, cs[j]? = some x → w.cell? (a.add j) = some x

/-- Frozen: elements of k cells each stand for these cells; what they lead to lies in blocks of F. -/
inductive FE (w : World) (F : Nat → Prop) : Nat → List RV → List Value → Prop
  | nil (k) : FE w F k [] []
  | v (x : Value) {es cs} (h1 : x.oneCell' = true) (h : FE w F 1 es cs) : FE w F 1 (.v x :: es) (x :: cs)
  | any (x : Value) {es cs} (h1 : x.oneCell' = true) (h : FE w F 1 es cs) : FE w F 1 (.any :: es) (x :: cs)
  | shnil (a cap) {es cs} (h : FE w F 1 es cs) : FE w F 1 (.sh [] :: es) (.slice a 0 cap :: cs)
  | sh (a cap k) {els cells es cs} (hk : 0 < k) (hF : F a.block) (hm : els.length ≤ maxLen) (hc : CellsAt w a cells) (he : FE w F k els cells) (h : FE w F 1 es cs) : FE w F 1 (.sh els :: es) (.slice (some a) els.length cap :: cs)
  | psh (a k) {e cells es cs} (hk : 0 < k) (hF : F a.block) (hc : CellsAt w a cells) (he : FE w F k [e] cells) (h : FE w F 1 es cs) : FE w F 1 (.psh e :: es) (.pointer (some a) :: cs)
  | agg {k l c1 es cs} (hl : FE w F 1 l c1) (hk : c1.length = k) (h : FE w F k es cs) : FE w F k (.agg l :: es) (c1 ++ cs)

theorem FE.length {w F k es cs} (h : FE w F k es cs) : cs.length = es.length * k := by
  induction h with
  | nil => simp
  | v _ _ _ ih => simp [ih]
  | any _ _ _ ih => simp [ih]
  | shnil _ _ _ ih => simp [ih]
  | sh _ _ _ _ _ _ _ _ _ _ ih => simp [ih]
  | psh _ _ _ _ _ _ _ _ ih => simp [ih]
  | agg _ hk _ _ ih => simp [ih, hk, Nat.add_mul]; omega

theorem CellsAt.mono {w w' : World} {a : Addr} {cs : List Value} (h : CellsAt w a cs) (hb : w'.heap[a.block]? = w.heap[a.block]?) : CellsAt w' a cs := by
  intro j x hj
  rw [← h j x hj]
  refine World.cell?_of_block ?_
  unfold Addr.add
  split <;> exact hb

theorem FE.mono {w w' : World} {F F' : Nat → Prop} {k es cs} (h : FE w F k es cs) (hF : ∀ b, F b → F' b ∧ w'.heap[b]? = w.heap[b]?) : FE w' F' k es cs := by
  induction h with
  | nil => exact .nil _
  | v x h1 _ ih => exact .v x h1 ih
  | any x h1 _ ih => exact .any x h1 ih
  | shnil a cap _ ih => exact .shnil a cap ih
  | sh a cap k hk hf hm hc _ _ ih1 ih2 => exact .sh a cap k hk (hF _ hf).1 hm (hc.mono (hF _ hf).2) ih1 ih2
  | psh a k hk hf hc _ _ ih1 ih2 => exact .psh a k hk (hF _ hf).1 (hc.mono (hF _ hf).2) ih1 ih2
  | agg _ hk _ ih1 ih2 => exact .agg ih1 hk ih2

/-- One element in front. -/
theorem FE.cons_inv {w F k e es cs} (h : FE w F k (e :: es) cs) : ∃ c1 c2, cs = c1 ++ c2 ∧ c1.length = k ∧ FE w F k [e] c1 ∧ FE w F k es c2 := by
  cases h with
  | v x h1 h => exact ⟨[_], _, rfl, rfl, .v x h1 (.nil _), h⟩
  | any x h1 h => exact ⟨[_], _, rfl, rfl, .any x h1 (.nil _), h⟩
  | shnil a cap h => exact ⟨[_], _, rfl, rfl, .shnil a cap (.nil _), h⟩
  | sh a cap k hk hf hm hc he h => exact ⟨[_], _, rfl, rfl, .sh a cap k hk hf hm hc he (.nil _), h⟩
  | psh a k hk hf hc he h => exact ⟨[_], _, rfl, rfl, .psh a k hk hf hc he (.nil _), h⟩
  | agg hl hk h => exact ⟨_, _, rfl, hk, by simpa using FE.agg hl hk (.nil _), h⟩

theorem FE.cons {w F k e es c1 c2} (h1 : FE w F k [e] c1) (h2 : FE w F k es c2) : FE w F k (e :: es) (c1 ++ c2) := by
  cases h1 with
  | v x h1 h => cases h; exact .v x h1 h2
  | any x h1 h => cases h; exact .any x h1 h2
  | shnil a cap h => cases h; exact .shnil a cap h2
  | sh a cap k hk hf hm hc he h => cases h; exact .sh a cap k hk hf hm hc he h2
  | psh a k hk hf hc he h => cases h; exact .psh a k hk hf hc he h2
  | agg hl hk h => cases h; simpa using FE.agg hl hk h2

theorem FE.append {w F k es1 c1 es2 c2} (h1 : FE w F k es1 c1) (h2 : FE w F k es2 c2) : FE w F k (es1 ++ es2) (c1 ++ c2) := by
  induction es1 generalizing c1 with
  | nil => cases h1; simpa using h2
  | cons e es ih =>
    obtain ⟨d1, d2, rfl, _, h3, h4⟩ := h1.cons_inv
    rw [List.append_assoc]
    exact FE.cons h3 (ih h4)

theorem FE.split {w F k es1 es2 cs} (h : FE w F k (es1 ++ es2) cs) : ∃ c1 c2, cs = c1 ++ c2 ∧ c1.length = es1.length * k ∧ FE w F k es1 c1 ∧ FE w F k es2 c2 := by
  induction es1 generalizing cs with
  | nil => exact ⟨[], cs, rfl, by simp, .nil _, h⟩
  | cons e es ih =>
    obtain ⟨d1, d2, rfl, hd, h3, h4⟩ := FE.cons_inv h
    obtain ⟨c1, c2, rfl, hc, h5, h6⟩ := ih h4
    exact ⟨d1 ++ c1, c2, by simp, by simp [hd, hc, Nat.add_mul]; omega, FE.cons h3 h5, h6⟩

theorem FE.take_drop {w F k es cs} (h : FE w F k es cs) (i : Nat) (hi : i ≤ es.length) : FE w F k (es.take i) (cs.take (i * k)) ∧ FE w F k (es.drop i) (cs.drop (i * k)) := by
  have h' := h
  rw [← List.take_append_drop i es] at h'
  obtain ⟨c1, c2, rfl, hc, h1, h2⟩ := h'.split
  rw [List.length_take, Nat.min_eq_left hi] at hc
  rw [← hc]
  simp [h1, h2]

theorem FE.at {w F k es cs} (h : FE w F k es cs) (i : Nat) (hi : i < es.length) : FE w F k [es[i]] ((cs.drop (i * k)).take k) := by
  have h1 := (h.take_drop i (by omega)).2
  rw [List.drop_eq_getElem_cons hi] at h1
  obtain ⟨c1, c2, e, hc, h2, _⟩ := h1.cons_inv
  rw [e, List.take_append_of_le_length (by omega), List.take_of_length_le (by omega)]
  exact h2

mutual
/-- The names that a symbolic value bears (an owned slice by value bears none). -/
def RV.names : RV → List Nat
  | .ref n _ _ => [n]
  | .ptr n _ _ => [n]
  | .agg l => RV.namesL l
  | .fn _ l => RV.namesL l
  | .tup l => RV.namesL l
  | _ => []
def RV.namesL : List RV → List Nat
  | [] => []
  | e :: es => e.names ++ RV.namesL es
end

theorem FE.names {w F k es cs} (h : FE w F k es cs) : RV.namesL es = [] := by
  induction h with
  | nil => simp [RV.namesL]
  | v _ _ _ ih => simp [RV.namesL, RV.names, ih]
  | any _ _ _ ih => simp [RV.namesL, RV.names, ih]
  | shnil _ _ _ ih => simp [RV.namesL, RV.names, ih]
  | sh _ _ _ _ _ _ _ _ _ _ ih => simp [RV.namesL, RV.names, ih]
  | psh _ _ _ _ _ _ _ _ ih => simp [RV.namesL, RV.names, ih]
  | agg _ _ _ ih1 ih2 => simp [RV.namesL, RV.names, ih1, ih2]

/-- Where a name's block lies: its number (none: a nil slice), its elements' size, its capacity in elements. -/
abbrev Places := Nat → Option Nat × Nat × Nat

/-- Owned: elements of k cells stand for these cells; fp: the blocks that they own. -/
inductive OE (w : World) (F : Nat → Prop) : Places → Nat → List RV → List Value → List Nat → Prop
  | nil (ρ k) : OE w F ρ k [] [] []
  | fz {ρ k e c es cs fp} (h1 : FE w F k [e] c) (h : OE w F ρ k es cs fp) : OE w F ρ k (e :: es) (c ++ cs) fp
  | ow {ρ} (b cap ty c) {k els cells es cs fp1 fp2} (hk : 0 < k) (hb : w.heap[b]? = some (.cells c ty (0, 0))) (hs : c.size = cap * k) (hl : els.length ≤ cap) (hm : cap ≤ maxLen)
      (hc : c.toList.take (els.length * k) = cells) (hnn : RV.namesL els = []) (he : OE w F (fun _ => (none, 0, 0)) k els cells fp1) (h : OE w F ρ 1 es cs fp2) : OE w F ρ 1 (.ow k els :: es) (.slice (some ⟨b, 0, none⟩) els.length cap :: cs) (b :: (fp1 ++ fp2))
  | ownil {ρ} (k) {es cs fp} (hk : 0 < k) (h : OE w F ρ 1 es cs fp) : OE w F ρ 1 (.ow k [] :: es) (.slice none 0 0 :: cs) fp
  | ref {ρ} (n off len) {es cs fp} (h : OE w F ρ 1 es cs fp) : OE w F ρ 1 (.ref n off len :: es) (.slice ((ρ n).1.map fun b => ⟨b, off * (ρ n).2.1, none⟩) len ((ρ n).2.2 - off) :: cs) fp
  | ptr {ρ} (n i j) {es cs fp} (h : OE w F ρ 1 es cs fp) : OE w F ρ 1 (.ptr n i j :: es) (.pointer ((ρ n).1.map fun b => ⟨b, i * (ρ n).2.1 + j, none⟩) :: cs) fp
  | agg {ρ k l c1 es cs fp1 fp2} (hl : OE w F ρ 1 l c1 fp1) (hk : c1.length = k) (h : OE w F ρ k es cs fp2) : OE w F ρ k (.agg l :: es) (c1 ++ cs) (fp1 ++ fp2)

theorem OE.length {w F ρ k es cs fp} (h : OE w F ρ k es cs fp) : cs.length = es.length * k := by
  induction h with
  | nil => simp
  | fz h1 _ ih => have := h1.length; simp at this; simp [ih, this, Nat.add_mul]; omega
  | ow _ _ _ _ _ _ _ _ _ _ _ _ _ _ ih => simp [ih]
  | ownil _ _ _ ih => simp [ih]
  | ref _ _ _ _ ih => simp [ih]
  | ptr _ _ _ _ ih => simp [ih]
  | agg _ hk _ _ ih => simp [ih, hk, Nat.add_mul]; omega

theorem OE.mono {w w' : World} {F F' : Nat → Prop} {ρ k es cs fp} (h : OE w F ρ k es cs fp) (hF : ∀ b, F b → F' b ∧ w'.heap[b]? = w.heap[b]?) (hfp : ∀ b ∈ fp, w'.heap[b]? = w.heap[b]?) : OE w' F' ρ k es cs fp := by
  induction h with
  | nil => exact .nil _ _
  | fz h1 _ ih => exact .fz (h1.mono hF) (ih hfp)
  | ow b cap ty c hk hb hs hl hm hc hnn _ _ ih1 ih2 =>
    exact .ow b cap ty c hk (by rw [hfp b (by simp)]; exact hb) hs hl hm hc hnn (ih1 fun x hx => hfp x (by simp [hx])) (ih2 fun x hx => hfp x (by simp [hx]))
  | ownil k hk _ ih => exact .ownil k hk (ih hfp)
  | ref n off len _ ih => exact .ref n off len (ih hfp)
  | ptr n i j _ ih => exact .ptr n i j (ih hfp)
  | agg _ hk _ ih1 ih2 => exact .agg (ih1 fun x hx => hfp x (by simp [hx])) hk (ih2 fun x hx => hfp x (by simp [hx]))

/-- Other places for names that do not occur. -/
theorem OE.places {w F ρ ρ' k es cs fp} (h : OE w F ρ k es cs fp) (hn : ∀ n ∈ RV.namesL es, ρ' n = ρ n) : OE w F ρ' k es cs fp := by
  induction h with
  | nil => exact .nil _ _
  | fz h1 _ ih => exact .fz h1 (ih fun n hx => hn n (by simp [RV.namesL, hx]))
  | ow b cap ty c hk hb hs hl hm hc hnn h1 _ _ ih2 => exact .ow b cap ty c hk hb hs hl hm hc hnn h1 (ih2 fun n hx => hn n (by simp [RV.namesL, hx]))
  | ownil k hk _ ih => exact .ownil k hk (ih fun n hx => hn n (by simp [RV.namesL, hx]))
  | ref n off len _ ih =>
    have e := hn n (by simp [RV.namesL, RV.names])
    rw [← e]
    exact .ref n off len (ih fun n hx => hn n (by simp [RV.namesL, hx]))
  | ptr n i j _ ih =>
    have e := hn n (by simp [RV.namesL, RV.names])
    rw [← e]
    exact .ptr n i j (ih fun n hx => hn n (by simp [RV.namesL, hx]))
  | agg _ hk _ ih1 ih2 => exact .agg (ih1 fun n hx => hn n (by simp [RV.namesL, RV.names, hx])) hk (ih2 fun n hx => hn n (by simp [RV.namesL, hx]))

theorem OE.cons_inv {w F ρ k e es cs fp} (h : OE w F ρ k (e :: es) cs fp) : ∃ c1 c2 fp1 fp2, cs = c1 ++ c2 ∧ fp = fp1 ++ fp2 ∧ c1.length = k ∧ OE w F ρ k [e] c1 fp1 ∧ OE w F ρ k es c2 fp2 := by
  cases h with
  | fz h1 h => have := h1.length; exact ⟨_, _, [], _, rfl, rfl, by simpa using this, by simpa using OE.fz h1 (.nil _ _), h⟩
  | ow b cap ty c hk hb hs hl hm hc hnn h1 h => exact ⟨[_], _, _ :: _, _, rfl, rfl, rfl, by simpa using OE.ow b cap ty c hk hb hs hl hm hc hnn h1 (.nil _ _), h⟩
  | ownil k hk h => exact ⟨[_], _, [], _, rfl, rfl, rfl, .ownil k hk (.nil _ _), h⟩
  | ref n off len h => exact ⟨[_], _, [], _, rfl, rfl, rfl, .ref n off len (.nil _ _), h⟩
  | ptr n i j h => exact ⟨[_], _, [], _, rfl, rfl, rfl, .ptr n i j (.nil _ _), h⟩
  | agg hl hk h => exact ⟨_, _, _, _, rfl, rfl, hk, by simpa using OE.agg hl hk (.nil _ _), h⟩

theorem OE.cons {w F ρ k e es c1 c2 fp1 fp2} (h1 : OE w F ρ k [e] c1 fp1) (h2 : OE w F ρ k es c2 fp2) : OE w F ρ k (e :: es) (c1 ++ c2) (fp1 ++ fp2) := by
  cases h1 with
  | fz h1 h => cases h; simpa using OE.fz h1 h2
  | ow b cap ty c hk hb hs hl hm hc hnn h1 h => cases h; simpa using OE.ow b cap ty c hk hb hs hl hm hc hnn h1 h2
  | ownil k hk h => cases h; exact .ownil k hk h2
  | ref n off len h => cases h; exact .ref n off len h2
  | ptr n i j h => cases h; exact .ptr n i j h2
  | agg hl hk h => cases h; simpa using OE.agg hl hk h2

theorem OE.append {w F ρ k es1 c1 es2 c2 fp1 fp2} (h1 : OE w F ρ k es1 c1 fp1) (h2 : OE w F ρ k es2 c2 fp2) : OE w F ρ k (es1 ++ es2) (c1 ++ c2) (fp1 ++ fp2) := by
  induction es1 generalizing c1 fp1 with
  | nil => cases h1; simpa using h2
  | cons e es ih =>
    obtain ⟨d1, d2, f1, f2, rfl, rfl, _, h3, h4⟩ := h1.cons_inv
    rw [List.append_assoc, List.append_assoc]
    exact OE.cons h3 (ih h4)

theorem OE.split {w F ρ k es1 es2 cs fp} (h : OE w F ρ k (es1 ++ es2) cs fp) : ∃ c1 c2 fp1 fp2, cs = c1 ++ c2 ∧ fp = fp1 ++ fp2 ∧ c1.length = es1.length * k ∧ OE w F ρ k es1 c1 fp1 ∧ OE w F ρ k es2 c2 fp2 := by
  induction es1 generalizing cs fp with
  | nil => exact ⟨[], cs, [], fp, rfl, rfl, by simp, .nil _ _, h⟩
  | cons e es ih =>
    obtain ⟨d1, d2, f1, f2, rfl, rfl, hd, h3, h4⟩ := OE.cons_inv h
    obtain ⟨c1, c2, g1, g2, rfl, rfl, hc, h5, h6⟩ := ih h4
    exact ⟨d1 ++ c1, c2, f1 ++ g1, g2, by simp, by simp, by simp [hd, hc, Nat.add_mul]; omega, OE.cons h3 h5, h6⟩

theorem OE.of_FE {w F ρ k es cs} (h : FE w F k es cs) : OE w F ρ k es cs [] := by
  induction es generalizing cs with
  | nil => cases h; exact .nil _ _
  | cons e es ih =>
    obtain ⟨c1, c2, rfl, _, h1, h2⟩ := h.cons_inv
    exact .fz h1 (ih h2)

/-- The blocks of a footprint are there. -/
theorem OE.lt {w F ρ k es cs fp} (h : OE w F ρ k es cs fp) : ∀ b ∈ fp, b < w.heap.size := by
  induction h with
  | nil => simp
  | fz _ _ ih => exact ih
  | ow b cap ty c hk hb hs hl hm hc hnn _ _ ih1 ih2 =>
    intro x hx
    simp at hx
    rcases hx with rfl | hx | hx
    · exact (Array.getElem?_eq_some_iff.1 hb).1
    · exact ih1 x hx
    · exact ih2 x hx
  | ownil k _ _ ih => exact ih
  | ref n off len _ ih => exact ih
  | ptr n i j _ ih => exact ih
  | agg _ hk _ ih1 ih2 =>
    intro x hx
    simp at hx
    rcases hx with hx | hx
    · exact ih1 x hx
    · exact ih2 x hx

theorem FE.one {w F k es cs} (h : FE w F k es cs) : ∀ y ∈ cs, y.oneCell' = true := by
  induction h with
  | nil => simp
  | v x h1 _ ih => intro y hy; rcases List.mem_cons.1 hy with rfl | hy <;> first | exact h1 | exact ih y hy
  | any x h1 _ ih => intro y hy; rcases List.mem_cons.1 hy with rfl | hy <;> first | exact h1 | exact ih y hy
  | shnil _ _ _ ih => intro y hy; rcases List.mem_cons.1 hy with rfl | hy <;> first | exact rfl | exact ih y hy
  | sh _ _ _ _ _ _ _ _ _ _ ih => intro y hy; rcases List.mem_cons.1 hy with rfl | hy <;> first | exact rfl | exact ih y hy
  | psh _ _ _ _ _ _ _ _ ih => intro y hy; rcases List.mem_cons.1 hy with rfl | hy <;> first | exact rfl | exact ih y hy
  | agg _ _ _ ih1 ih2 => intro y hy; rcases List.mem_append.1 hy with hy | hy <;> first | exact ih1 y hy | exact ih2 y hy
theorem OE.one {w F ρ k es cs fp} (h : OE w F ρ k es cs fp) : ∀ y ∈ cs, y.oneCell' = true := by
  induction h with
  | nil => simp
  | fz h1 _ ih => intro y hy; rcases List.mem_append.1 hy with hy | hy <;> first | exact h1.one y hy | exact ih y hy
  | ow _ _ _ _ _ _ _ _ _ _ _ _ _ _ ih => intro y hy; rcases List.mem_cons.1 hy with rfl | hy <;> first | exact rfl | exact ih y hy
  | ownil _ _ _ ih => intro y hy; rcases List.mem_cons.1 hy with rfl | hy <;> first | exact rfl | exact ih y hy
  | ref _ _ _ _ ih => intro y hy; rcases List.mem_cons.1 hy with rfl | hy <;> first | exact rfl | exact ih y hy
  | ptr _ _ _ _ ih => intro y hy; rcases List.mem_cons.1 hy with rfl | hy <;> first | exact rfl | exact ih y hy
  | agg _ _ _ ih1 ih2 => intro y hy; rcases List.mem_append.1 hy with hy | hy <;> first | exact ih1 y hy | exact ih2 y hy

mutual
/-- Names that are forgotten. -/
def RV.kill (n : Nat) : RV → RV
  | .ref m a b => if m = n then .any else .ref m a b
  | .ptr m a b => if m = n then .any else .ptr m a b
  | .agg l => .agg (RV.killL n l)
  | .fn f l => .fn f (RV.killL n l)
  | .tup l => .tup (RV.killL n l)
  | .v x => .v x
  | .any => .any
  | .sh l => .sh l
  | .ow k l => .ow k l
  | .psh e => .psh e
def RV.killL (n : Nat) : List RV → List RV
  | [] => []
  | e :: es => e.kill n :: RV.killL n es
end

theorem FE.killL {w F k es cs} (n : Nat) (h : FE w F k es cs) : RV.killL n es = es := by
  induction h with
  | nil => simp [RV.killL]
  | v _ _ _ ih => simp [RV.killL, RV.kill, ih]
  | any _ _ _ ih => simp [RV.killL, RV.kill, ih]
  | shnil _ _ _ ih => simp [RV.killL, RV.kill, ih]
  | sh _ _ _ _ _ _ _ _ _ _ ih => simp [RV.killL, RV.kill, ih]
  | psh _ _ _ _ _ _ _ _ ih => simp [RV.killL, RV.kill, ih]
  | agg _ _ _ ih1 ih2 => simp [RV.killL, RV.kill, ih1, ih2]

/-- A forgotten name may lie elsewhere. -/
theorem OE.kill {w F ρ ρ' k es cs fp} (n : Nat) (h : OE w F ρ k es cs fp) (hn : ∀ m, m ≠ n → ρ' m = ρ m) : OE w F ρ' k (RV.killL n es) cs fp := by
  induction h with
  | nil => exact .nil _ _
  | fz h1 _ ih =>
    have e := h1.killL n
    simp only [RV.killL, List.cons.injEq, and_true] at e ⊢
    rw [e]
    exact .fz h1 (ih hn)
  | ow b cap ty c hk hb hs hl hm hc hnn h1 _ _ ih2 => simp only [RV.killL, RV.kill]; exact .ow b cap ty c hk hb hs hl hm hc hnn h1 (ih2 hn)
  | ownil k hk _ ih => simp only [RV.killL, RV.kill]; exact .ownil k hk (ih hn)
  | ref m off len _ ih =>
    simp only [RV.killL, RV.kill]
    split
    · exact OE.fz (c := [_]) (.any _ rfl (.nil _)) (ih hn)
    · rename_i hne; rw [← hn m hne]; exact .ref m off len (ih hn)
  | ptr m i j _ ih =>
    simp only [RV.killL, RV.kill]
    split
    · exact OE.fz (c := [_]) (.any _ rfl (.nil _)) (ih hn)
    · rename_i hne; rw [← hn m hne]; exact .ptr m i j (ih hn)
  | agg _ hk _ ih1 ih2 => simp only [RV.killL, RV.kill]; exact .agg (ih1 hn) hk (ih2 hn)

end Eng
end Go.Proofs.Ytpbokegnbipbjaa
