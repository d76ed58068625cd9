/- The engine: a program logic over symbolic values. Part Ea. No condition. -/
import Derived.WalkKit
import Derived.WalkSpells
import Derived.WalkLawsBesides
import Derived.DataElems

/- The engine, part A: symbolic values, how they stand for the model's values in memory, and how that lasts. No condition. -/
namespace Go.Proofs.YtmfbcipjknjicaaGreatDoor
set_option linter.unusedSectionVars false
variable [One Bool]
namespace Eng

inductive BF where
  | c (f : Fn)
  | b (f : Fn)
  deriving Inhabited
def mkF : BF → List Value → Value
  | .c f, l => .func f #[] l.toArray
  | .b f, l => .func f #[.agg l.toArray] #[]
theorem mkF_one (f : BF) (l : List Value) : (mkF f l).oneCell' = true := by cases f <;> rfl

inductive RV where
  | v (x : Value)
  | any
  | sh (els : List RV)
  | ow (k : Nat) (els : List RV)
  | ref (n off len : Nat)
  | ptr (n i j : Nat)
  | psh (e : RV)
  | agg (cs : List RV)
  | tup (vs : List RV)
  | fn (f : BF) (caps : List RV)
  deriving Inhabited

def CellsAt (w : World) (a : Addr) (cs : List Value) : Prop := ∀ j x, cs[j]? = some x → w.cell? (a.add j) = some x

inductive FE (w : World) (F : Nat → Prop) : Nat → List RV → List Value → Prop
  | nil (k) : FE w F k [] []
  | v (x : Value) {es cs} (h1 : x.oneCell' = true) (h : FE w F 1 es cs) : FE w F 1 (.v x :: es) (x :: cs)
  | any (x : Value) {es cs} (h1 : x.oneCell' = true) (h : FE w F 1 es cs) : FE w F 1 (.any :: es) (x :: cs)
  | shnil (a cap) {es cs} (h : FE w F 1 es cs) : FE w F 1 (.sh [] :: es) (.slice a 0 cap :: cs)
  | sh (a cap k) {els cells es cs} (hk : 0 < k) (hF : F a.block) (hm : els.length ≤ maxLen ∧ els.length ≤ cap) (hc : CellsAt w a cells) (he : FE w F k els cells) (h : FE w F 1 es cs) : FE w F 1 (.sh els :: es) (.slice (some a) els.length cap :: cs)
  | psh (a k) {e cells es cs} (hk : 0 < k) (hF : F a.block) (hc : CellsAt w a cells) (he : FE w F k [e] cells) (h : FE w F 1 es cs) : FE w F 1 (.psh e :: es) (.pointer (some a) :: cs)
  | agg {k l c1 es cs} (hl : FE w F 1 l c1) (hk : c1.length = k) (h : FE w F k es cs) : FE w F k (.agg l :: es) (c1 ++ cs)

theorem FE.length {w F k es cs} (h : FE w F k es cs) : cs.length = es.length * k := by
  induction h with
  | nil => simp
  | v _ _ _ ih => simp [ih]
  | any _ _ _ ih => simp [ih]
  | shnil _ _ _ ih => simp [ih]
  | sh _ _ _ _ _ _ _ _ _ _ ih => simp [ih]
  | psh _ _ _ _ _ _ _ _ ih => simp [ih]
  | agg _ hk _ _ ih => simp [ih, hk, Nat.add_mul]; omega

theorem CellsAt.mono {w w' : World} {a : Addr} {cs : List Value} (h : CellsAt w a cs) (hb : w'.heap[a.block]? = w.heap[a.block]?) : CellsAt w' a cs := by
  intro j x hj
  rw [← h j x hj]
  refine World.cell?_of_block ?_
  unfold Addr.add
  split <;> exact hb

theorem FE.mono {w w' : World} {F F' : Nat → Prop} {k es cs} (h : FE w F k es cs) (hF : ∀ b, F b → F' b ∧ w'.heap[b]? = w.heap[b]?) : FE w' F' k es cs := by
  induction h with
  | nil => exact .nil _
  | v x h1 _ ih => exact .v x h1 ih
  | any x h1 _ ih => exact .any x h1 ih
  | shnil a cap _ ih => exact .shnil a cap ih
  | sh a cap k hk hf hm hc _ _ ih1 ih2 => exact .sh a cap k hk (hF _ hf).1 hm (hc.mono (hF _ hf).2) ih1 ih2
  | psh a k hk hf hc _ _ ih1 ih2 => exact .psh a k hk (hF _ hf).1 (hc.mono (hF _ hf).2) ih1 ih2
  | agg _ hk _ ih1 ih2 => exact .agg ih1 hk ih2

theorem FE.cons_inv {w F k e es cs} (h : FE w F k (e :: es) cs) : ∃ c1 c2, cs = c1 ++ c2 ∧ c1.length = k ∧ FE w F k [e] c1 ∧ FE w F k es c2 := by
  cases h with
  | v x h1 h => exact ⟨[_], _, rfl, rfl, .v x h1 (.nil _), h⟩
  | any x h1 h => exact ⟨[_], _, rfl, rfl, .any x h1 (.nil _), h⟩
  | shnil a cap h => exact ⟨[_], _, rfl, rfl, .shnil a cap (.nil _), h⟩
  | sh a cap k hk hf hm hc he h => exact ⟨[_], _, rfl, rfl, .sh a cap k hk hf hm hc he (.nil _), h⟩
  | psh a k hk hf hc he h => exact ⟨[_], _, rfl, rfl, .psh a k hk hf hc he (.nil _), h⟩
  | agg hl hk h => exact ⟨_, _, rfl, hk, by simpa using FE.agg hl hk (.nil _), h⟩

theorem FE.cons {w F k e es c1 c2} (h1 : FE w F k [e] c1) (h2 : FE w F k es c2) : FE w F k (e :: es) (c1 ++ c2) := by
  cases h1 with
  | v x h1 h => cases h; exact .v x h1 h2
  | any x h1 h => cases h; exact .any x h1 h2
  | shnil a cap h => cases h; exact .shnil a cap h2
  | sh a cap k hk hf hm hc he h => cases h; exact .sh a cap k hk hf hm hc he h2
  | psh a k hk hf hc he h => cases h; exact .psh a k hk hf hc he h2
  | agg hl hk h => cases h; simpa using FE.agg hl hk h2

theorem FE.append {w F k es1 c1 es2 c2} (h1 : FE w F k es1 c1) (h2 : FE w F k es2 c2) : FE w F k (es1 ++ es2) (c1 ++ c2) := by
  induction es1 generalizing c1 with
  | nil => cases h1; simpa using h2
  | cons e es ih =>
    obtain ⟨d1, d2, rfl, _, h3, h4⟩ := h1.cons_inv
    rw [List.append_assoc]
    exact FE.cons h3 (ih h4)

theorem FE.split {w F k es1 es2 cs} (h : FE w F k (es1 ++ es2) cs) : ∃ c1 c2, cs = c1 ++ c2 ∧ c1.length = es1.length * k ∧ FE w F k es1 c1 ∧ FE w F k es2 c2 := by
  induction es1 generalizing cs with
  | nil => exact ⟨[], cs, rfl, by simp, .nil _, h⟩
  | cons e es ih =>
    obtain ⟨d1, d2, rfl, hd, h3, h4⟩ := FE.cons_inv h
    obtain ⟨c1, c2, rfl, hc, h5, h6⟩ := ih h4
    exact ⟨d1 ++ c1, c2, by simp, by simp [hd, hc, Nat.add_mul]; omega, FE.cons h3 h5, h6⟩

theorem FE.take_drop {w F k es cs} (h : FE w F k es cs) (i : Nat) (hi : i ≤ es.length) : FE w F k (es.take i) (cs.take (i * k)) ∧ FE w F k (es.drop i) (cs.drop (i * k)) := by
  have h' := h
  rw [← List.take_append_drop i es] at h'
  obtain ⟨c1, c2, rfl, hc, h1, h2⟩ := h'.split
  rw [List.length_take, Nat.min_eq_left hi] at hc
  rw [← hc]
  simp [h1, h2]

theorem FE.at {w F k es cs} (h : FE w F k es cs) (i : Nat) (hi : i < es.length) : FE w F k [es[i]] ((cs.drop (i * k)).take k) := by
  have h1 := (h.take_drop i (by omega)).2
  rw [List.drop_eq_getElem_cons hi] at h1
  obtain ⟨c1, c2, e, hc, h2, _⟩ := h1.cons_inv
  rw [e, List.take_append_of_le_length (by omega), List.take_of_length_le (by omega)]
  exact h2

mutual
def RV.names : RV → List Nat
  | .ref n _ _ => [n]
  | .ptr n _ _ => [n]
  | .agg l => RV.namesL l
  | .fn _ l => RV.namesL l
  | .tup l => RV.namesL l
  | _ => []
def RV.namesL : List RV → List Nat
  | [] => []
  | e :: es => e.names ++ RV.namesL es
end

theorem FE.names {w F k es cs} (h : FE w F k es cs) : RV.namesL es = [] := by
  induction h with
  | nil => simp [RV.namesL]
  | v _ _ _ ih => simp [RV.namesL, RV.names, ih]
  | any _ _ _ ih => simp [RV.namesL, RV.names, ih]
  | shnil _ _ _ ih => simp [RV.namesL, RV.names, ih]
  | sh _ _ _ _ _ _ _ _ _ _ ih => simp [RV.namesL, RV.names, ih]
  | psh _ _ _ _ _ _ _ _ ih => simp [RV.namesL, RV.names, ih]
  | agg _ _ _ ih1 ih2 => simp [RV.namesL, RV.names, ih1, ih2]

abbrev Places := Nat → Option Nat × Nat × Nat

inductive OE (w : World) (F : Nat → Prop) : Places → Nat → List RV → List Value → List Nat → Prop
  | nil (ρ k) : OE w F ρ k [] [] []
  | fz {ρ k e c es cs fp} (h1 : FE w F k [e] c) (h : OE w F ρ k es cs fp) : OE w F ρ k (e :: es) (c ++ cs) fp
  | ow {ρ} (b cap ty c) {k els cells es cs fp1 fp2} (hk : 0 < k) (hb : w.heap[b]? = some (.cells c ty (0, 0))) (hs : c.size = cap * k) (hl : els.length ≤ cap) (hm : cap ≤ maxLen)
      (hc : c.toList.take (els.length * k) = cells) (hnn : RV.namesL els = []) (he : OE w F (fun _ => (none, 0, 0)) k els cells fp1) (h : OE w F ρ 1 es cs fp2) : OE w F ρ 1 (.ow k els :: es) (.slice (some ⟨b, 0, none⟩) els.length cap :: cs) (b :: (fp1 ++ fp2))
  | ownil {ρ} (k) {es cs fp} (hk : 0 < k) (h : OE w F ρ 1 es cs fp) : OE w F ρ 1 (.ow k [] :: es) (.slice none 0 0 :: cs) fp
  | ref {ρ} (n off len) {es cs fp} (hr : (ρ n).2.1 ≠ 0) (h : OE w F ρ 1 es cs fp) : OE w F ρ 1 (.ref n off len :: es) (.slice ((ρ n).1.map fun b => ⟨b, off * (ρ n).2.1, none⟩) len ((ρ n).2.2 - off) :: cs) fp
  | ptr {ρ} (n i j) {es cs fp} (hr : (ρ n).2.1 ≠ 0) (h : OE w F ρ 1 es cs fp) : OE w F ρ 1 (.ptr n i j :: es) (.pointer ((ρ n).1.map fun b => ⟨b, i * (ρ n).2.1 + j, none⟩) :: cs) fp
  | agg {ρ k l c1 es cs fp1 fp2} (hl : OE w F ρ 1 l c1 fp1) (hk : c1.length = k) (h : OE w F ρ k es cs fp2) : OE w F ρ k (.agg l :: es) (c1 ++ cs) (fp1 ++ fp2)
  | fn {ρ} (f) {l c1 es cs fp} (hl : OE w F ρ 1 l c1 []) (h : OE w F ρ 1 es cs fp) : OE w F ρ 1 (.fn f l :: es) (mkF f c1 :: cs) fp

theorem OE.length {w F ρ k es cs fp} (h : OE w F ρ k es cs fp) : cs.length = es.length * k := by
  induction h with
  | nil => simp
  | fz h1 _ ih => have := h1.length; simp at this; simp [ih, this, Nat.add_mul]; omega
  | ow _ _ _ _ _ _ _ _ _ _ _ _ _ _ ih => simp [ih]
  | ownil _ _ _ ih => simp [ih]
  | ref _ _ _ _ _ ih => simp [ih]
  | ptr _ _ _ _ _ ih => simp [ih]
  | agg _ hk _ _ ih => simp [ih, hk, Nat.add_mul]; omega
  | fn _ _ _ _ ih => simp [ih]

theorem OE.mono {w w' : World} {F F' : Nat → Prop} {ρ k es cs fp} (h : OE w F ρ k es cs fp) (hF : ∀ b, F b → F' b ∧ w'.heap[b]? = w.heap[b]?) (hfp : ∀ b ∈ fp, w'.heap[b]? = w.heap[b]?) : OE w' F' ρ k es cs fp := by
  induction h with
  | nil => exact .nil _ _
  | fz h1 _ ih => exact .fz (h1.mono hF) (ih hfp)
  | ow b cap ty c hk hb hs hl hm hc hnn _ _ ih1 ih2 =>
    exact .ow b cap ty c hk (by rw [hfp b (by simp)]; exact hb) hs hl hm hc hnn (ih1 fun x hx => hfp x (by simp [hx])) (ih2 fun x hx => hfp x (by simp [hx]))
  | ownil k hk _ ih => exact .ownil k hk (ih hfp)
  | ref n off len hr _ ih => exact .ref n off len hr (ih hfp)
  | ptr n i j hr _ ih => exact .ptr n i j hr (ih hfp)
  | agg _ hk _ ih1 ih2 => exact .agg (ih1 fun x hx => hfp x (by simp [hx])) hk (ih2 fun x hx => hfp x (by simp [hx]))
  | fn f _ _ ih1 ih2 => exact .fn f (ih1 fun x hx => nomatch hx) (ih2 hfp)

theorem OE.places {w F ρ ρ' k es cs fp} (h : OE w F ρ k es cs fp) (hn : ∀ n ∈ RV.namesL es, ρ' n = ρ n) : OE w F ρ' k es cs fp := by
  induction h with
  | nil => exact .nil _ _
  | fz h1 _ ih => exact .fz h1 (ih fun n hx => hn n (by simp [RV.namesL, hx]))
  | ow b cap ty c hk hb hs hl hm hc hnn h1 _ _ ih2 => exact .ow b cap ty c hk hb hs hl hm hc hnn h1 (ih2 fun n hx => hn n (by simp [RV.namesL, hx]))
  | ownil k hk _ ih => exact .ownil k hk (ih fun n hx => hn n (by simp [RV.namesL, hx]))
  | ref n off len hr _ ih =>
    have e := hn n (by simp [RV.namesL, RV.names])
    rw [← e]
    exact .ref n off len (by rw [e]; exact hr) (ih fun n hx => hn n (by simp [RV.namesL, hx]))
  | ptr n i j hr _ ih =>
    have e := hn n (by simp [RV.namesL, RV.names])
    rw [← e]
    exact .ptr n i j (by rw [e]; exact hr) (ih fun n hx => hn n (by simp [RV.namesL, hx]))
  | agg _ hk _ ih1 ih2 => exact .agg (ih1 fun n hx => hn n (by simp [RV.namesL, RV.names, hx])) hk (ih2 fun n hx => hn n (by simp [RV.namesL, hx]))
  | fn f _ _ ih1 ih2 => exact .fn f (ih1 fun n hx => hn n (by simp [RV.namesL, RV.names, hx])) (ih2 fun n hx => hn n (by simp [RV.namesL, hx]))

theorem OE.cons_inv {w F ρ k e es cs fp} (h : OE w F ρ k (e :: es) cs fp) : ∃ c1 c2 fp1 fp2, cs = c1 ++ c2 ∧ fp = fp1 ++ fp2 ∧ c1.length = k ∧ OE w F ρ k [e] c1 fp1 ∧ OE w F ρ k es c2 fp2 := by
  cases h with
  | fz h1 h => have := h1.length; exact ⟨_, _, [], _, rfl, rfl, by simpa using this, by simpa using OE.fz h1 (.nil _ _), h⟩
  | ow b cap ty c hk hb hs hl hm hc hnn h1 h => exact ⟨[_], _, _ :: _, _, rfl, rfl, rfl, by simpa using OE.ow b cap ty c hk hb hs hl hm hc hnn h1 (.nil _ _), h⟩
  | ownil k hk h => exact ⟨[_], _, [], _, rfl, rfl, rfl, .ownil k hk (.nil _ _), h⟩
  | ref n off len hr h => exact ⟨[_], _, [], _, rfl, rfl, rfl, .ref n off len hr (.nil _ _), h⟩
  | ptr n i j hr h => exact ⟨[_], _, [], _, rfl, rfl, rfl, .ptr n i j hr (.nil _ _), h⟩
  | agg hl hk h => exact ⟨_, _, _, _, rfl, rfl, hk, by simpa using OE.agg hl hk (.nil _ _), h⟩
  | fn f hl h => exact ⟨[_], _, [], _, rfl, rfl, rfl, OE.fn f hl (.nil _ _), h⟩

theorem OE.cons {w F ρ k e es c1 c2 fp1 fp2} (h1 : OE w F ρ k [e] c1 fp1) (h2 : OE w F ρ k es c2 fp2) : OE w F ρ k (e :: es) (c1 ++ c2) (fp1 ++ fp2) := by
  cases h1 with
  | fz h1 h => cases h; simpa using OE.fz h1 h2
  | ow b cap ty c hk hb hs hl hm hc hnn h1 h => cases h; simpa using OE.ow b cap ty c hk hb hs hl hm hc hnn h1 h2
  | ownil k hk h => cases h; exact .ownil k hk h2
  | ref n off len hr h => cases h; exact .ref n off len hr h2
  | ptr n i j hr h => cases h; exact .ptr n i j hr h2
  | agg hl hk h => cases h; simpa using OE.agg hl hk h2
  | fn f hl h => cases h; exact OE.fn f hl h2

theorem OE.append {w F ρ k es1 c1 es2 c2 fp1 fp2} (h1 : OE w F ρ k es1 c1 fp1) (h2 : OE w F ρ k es2 c2 fp2) : OE w F ρ k (es1 ++ es2) (c1 ++ c2) (fp1 ++ fp2) := by
  induction es1 generalizing c1 fp1 with
  | nil => cases h1; simpa using h2
  | cons e es ih =>
    obtain ⟨d1, d2, f1, f2, rfl, rfl, _, h3, h4⟩ := h1.cons_inv
    rw [List.append_assoc, List.append_assoc]
    exact OE.cons h3 (ih h4)

theorem OE.split {w F ρ k es1 es2 cs fp} (h : OE w F ρ k (es1 ++ es2) cs fp) : ∃ c1 c2 fp1 fp2, cs = c1 ++ c2 ∧ fp = fp1 ++ fp2 ∧ c1.length = es1.length * k ∧ OE w F ρ k es1 c1 fp1 ∧ OE w F ρ k es2 c2 fp2 := by
  induction es1 generalizing cs fp with
  | nil => exact ⟨[], cs, [], fp, rfl, rfl, by simp, .nil _ _, h⟩
  | cons e es ih =>
    obtain ⟨d1, d2, f1, f2, rfl, rfl, hd, h3, h4⟩ := OE.cons_inv h
    obtain ⟨c1, c2, g1, g2, rfl, rfl, hc, h5, h6⟩ := ih h4
    exact ⟨d1 ++ c1, c2, f1 ++ g1, g2, by simp, by simp, by simp [hd, hc, Nat.add_mul]; omega, OE.cons h3 h5, h6⟩

theorem OE.of_FE {w F ρ k es cs} (h : FE w F k es cs) : OE w F ρ k es cs [] := by
  induction es generalizing cs with
  | nil => cases h; exact .nil _ _
  | cons e es ih =>
    obtain ⟨c1, c2, rfl, _, h1, h2⟩ := h.cons_inv
    exact .fz h1 (ih h2)

theorem OE.lt {w F ρ k es cs fp} (h : OE w F ρ k es cs fp) : ∀ b ∈ fp, b < w.heap.size := by
  induction h with
  | nil => simp
  | fz _ _ ih => exact ih
  | ow b cap ty c hk hb hs hl hm hc hnn _ _ ih1 ih2 =>
    intro x hx
    simp at hx
    rcases hx with rfl | hx | hx
    · exact (Array.getElem?_eq_some_iff.1 hb).1
    · exact ih1 x hx
    · exact ih2 x hx
  | ownil k _ _ ih => exact ih
  | ref n off len _ _ ih => exact ih
  | ptr n i j _ _ ih => exact ih
  | agg _ hk _ ih1 ih2 =>
    intro x hx
    simp at hx
    rcases hx with hx | hx
    · exact ih1 x hx
    · exact ih2 x hx
  | fn f _ _ _ ih2 => exact ih2

theorem FE.one {w F k es cs} (h : FE w F k es cs) : ∀ y ∈ cs, y.oneCell' = true := by
  induction h with
  | nil => simp
  | v x h1 _ ih => intro y hy; rcases List.mem_cons.1 hy with rfl | hy <;> first | exact h1 | exact ih y hy
  | any x h1 _ ih => intro y hy; rcases List.mem_cons.1 hy with rfl | hy <;> first | exact h1 | exact ih y hy
  | shnil _ _ _ ih => intro y hy; rcases List.mem_cons.1 hy with rfl | hy <;> first | exact rfl | exact ih y hy
  | sh _ _ _ _ _ _ _ _ _ _ ih => intro y hy; rcases List.mem_cons.1 hy with rfl | hy <;> first | exact rfl | exact ih y hy
  | psh _ _ _ _ _ _ _ _ ih => intro y hy; rcases List.mem_cons.1 hy with rfl | hy <;> first | exact rfl | exact ih y hy
  | agg _ _ _ ih1 ih2 => intro y hy; rcases List.mem_append.1 hy with hy | hy <;> first | exact ih1 y hy | exact ih2 y hy
theorem OE.one {w F ρ k es cs fp} (h : OE w F ρ k es cs fp) : ∀ y ∈ cs, y.oneCell' = true := by
  induction h with
  | nil => simp
  | fz h1 _ ih => intro y hy; rcases List.mem_append.1 hy with hy | hy <;> first | exact h1.one y hy | exact ih y hy
  | ow _ _ _ _ _ _ _ _ _ _ _ _ _ _ ih => intro y hy; rcases List.mem_cons.1 hy with rfl | hy <;> first | exact rfl | exact ih y hy
  | ownil _ _ _ ih => intro y hy; rcases List.mem_cons.1 hy with rfl | hy <;> first | exact rfl | exact ih y hy
  | ref _ _ _ _ _ ih => intro y hy; rcases List.mem_cons.1 hy with rfl | hy <;> first | exact rfl | exact ih y hy
  | ptr _ _ _ _ _ ih => intro y hy; rcases List.mem_cons.1 hy with rfl | hy <;> first | exact rfl | exact ih y hy
  | agg _ _ _ ih1 ih2 => intro y hy; rcases List.mem_append.1 hy with hy | hy <;> first | exact ih1 y hy | exact ih2 y hy
  | fn _ _ _ _ ih => intro y hy; rcases List.mem_cons.1 hy with rfl | hy <;> first | exact mkF_one _ _ | exact ih y hy

mutual
def RV.kill (n : Nat) : RV → RV
  | .ref m a b => if m = n then .any else .ref m a b
  | .ptr m a b => if m = n then .any else .ptr m a b
  | .agg l => .agg (RV.killL n l)
  | .fn f l => .fn f (RV.killL n l)
  | .tup l => .tup (RV.killL n l)
  | .v x => .v x
  | .any => .any
  | .sh l => .sh l
  | .ow k l => .ow k l
  | .psh e => .psh e
def RV.killL (n : Nat) : List RV → List RV
  | [] => []
  | e :: es => e.kill n :: RV.killL n es
end

theorem FE.killL {w F k es cs} (n : Nat) (h : FE w F k es cs) : RV.killL n es = es := by
  induction h with
  | nil => simp [RV.killL]
  | v _ _ _ ih => simp [RV.killL, RV.kill, ih]
  | any _ _ _ ih => simp [RV.killL, RV.kill, ih]
  | shnil _ _ _ ih => simp [RV.killL, RV.kill, ih]
  | sh _ _ _ _ _ _ _ _ _ _ ih => simp [RV.killL, RV.kill, ih]
  | psh _ _ _ _ _ _ _ _ ih => simp [RV.killL, RV.kill, ih]
  | agg _ _ _ ih1 ih2 => simp [RV.killL, RV.kill, ih1, ih2]

theorem OE.kill {w F ρ ρ' k es cs fp} (n : Nat) (h : OE w F ρ k es cs fp) (hn : ∀ m, m ≠ n → ρ' m = ρ m) : OE w F ρ' k (RV.killL n es) cs fp := by
  induction h with
  | nil => exact .nil _ _
  | fz h1 _ ih =>
    have e := h1.killL n
    simp only [RV.killL, List.cons.injEq, and_true] at e ⊢
    rw [e]
    exact .fz h1 (ih hn)
  | ow b cap ty c hk hb hs hl hm hc hnn h1 _ _ ih2 => simp only [RV.killL, RV.kill]; exact .ow b cap ty c hk hb hs hl hm hc hnn h1 (ih2 hn)
  | ownil k hk _ ih => simp only [RV.killL, RV.kill]; exact .ownil k hk (ih hn)
  | ref m off len hr _ ih =>
    simp only [RV.killL, RV.kill]
    split
    · exact OE.fz (c := [_]) (.any _ rfl (.nil _)) (ih hn)
    · rename_i hne; rw [← hn m hne]; exact .ref m off len (by rw [hn m hne]; exact hr) (ih hn)
  | ptr m i j hr _ ih =>
    simp only [RV.killL, RV.kill]
    split
    · exact OE.fz (c := [_]) (.any _ rfl (.nil _)) (ih hn)
    · rename_i hne; rw [← hn m hne]; exact .ptr m i j (by rw [hn m hne]; exact hr) (ih hn)
  | agg _ hk _ ih1 ih2 => simp only [RV.killL, RV.kill]; exact .agg (ih1 hn) hk (ih2 hn)
  | fn f _ _ ih1 ih2 => simp only [RV.killL, RV.kill]; exact .fn f (ih1 hn) (ih2 hn)

end Eng
end Go.Proofs.YtmfbcipjknjicaaGreatDoor

/- The engine, part B: frames, named blocks, the relation of a symbolic state to a frame and a world; code over symbolic states. No condition. -/
namespace Go.Proofs.YtmfbcipjknjicaaGreatDoor
set_option linter.unusedSectionVars false
variable [One Bool]
namespace Eng

def RV.isAgg : RV → Bool | .agg _ => true | _ => false
def RV.lone : RV → Bool | .agg _ => false | .fn _ _ => false | _ => true

inductive S1 (w : World) (F : Nat → Prop) (ρ : Places) : RV → Value → List Nat → Prop
  | any (y) : S1 w F ρ .any y []
  | v (x) : S1 w F ρ (.v x) x []
  | cell {e y fp} (ha : e.isAgg = false) (h : OE w F ρ 1 [e] [y] fp) : S1 w F ρ e y fp
  | agg {l c fp} (h : OE w F ρ 1 l c.toList fp) : S1 w F ρ (.agg l) (.agg c) fp
  | fn {f l c fp} (h : OE w F ρ 1 l c fp) : S1 w F ρ (.fn f l) (mkF f c) fp

inductive SL (w : World) (F : Nat → Prop) (ρ : Places) : List RV → List Value → List Nat → Prop
  | nil : SL w F ρ [] [] []
  | cons {e y es ys fp1 fp2} (h1 : S1 w F ρ e y fp1) (h : SL w F ρ es ys fp2) : SL w F ρ (e :: es) (y :: ys) (fp1 ++ fp2)

inductive SV (w : World) (F : Nat → Prop) (ρ : Places) : RV → Value → List Nat → Prop
  | one {e y fp} (h : S1 w F ρ e y fp) : SV w F ρ e y fp
  | tup {l c fp} (h : SL w F ρ l c.toList fp) : SV w F ρ (.tup l) (.tuple c) fp

theorem S1.mono {w w' : World} {F F' : Nat → Prop} {ρ e y fp} (h : S1 w F ρ e y fp) (hF : ∀ b, F b → F' b ∧ w'.heap[b]? = w.heap[b]?) (hfp : ∀ b ∈ fp, w'.heap[b]? = w.heap[b]?) : S1 w' F' ρ e y fp := by
  cases h with
  | any => exact .any _
  | v => exact .v _
  | cell ha h => exact .cell ha (h.mono hF hfp)
  | agg h => exact .agg (h.mono hF hfp)
  | fn h => exact .fn (h.mono hF hfp)
theorem SL.mono {w w' : World} {F F' : Nat → Prop} {ρ es ys fp} (h : SL w F ρ es ys fp) (hF : ∀ b, F b → F' b ∧ w'.heap[b]? = w.heap[b]?) (hfp : ∀ b ∈ fp, w'.heap[b]? = w.heap[b]?) : SL w' F' ρ es ys fp := by
  induction h with
  | nil => exact .nil
  | cons h1 _ ih => exact .cons (h1.mono hF fun b hb => hfp b (by simp [hb])) (ih fun b hb => hfp b (by simp [hb]))
theorem SV.mono {w w' : World} {F F' : Nat → Prop} {ρ e y fp} (h : SV w F ρ e y fp) (hF : ∀ b, F b → F' b ∧ w'.heap[b]? = w.heap[b]?) (hfp : ∀ b ∈ fp, w'.heap[b]? = w.heap[b]?) : SV w' F' ρ e y fp := by
  cases h with
  | one h => exact .one (h.mono hF hfp)
  | tup h => exact .tup (h.mono hF hfp)

theorem S1.kill {w F ρ ρ' e y fp} (n : Nat) (h : S1 w F ρ e y fp) (hn : ∀ m, m ≠ n → ρ' m = ρ m) : S1 w F ρ' (e.kill n) y fp := by
  cases h with
  | any => simp only [RV.kill]; exact .any _
  | v => simp only [RV.kill]; exact .v _
  | cell ha h =>
    have := h.kill n hn
    simp only [RV.killL] at this
    refine .cell ?_ this
    cases e with
    | ref m _ _ => by_cases hm : m = n <;> simp [RV.kill, hm, RV.isAgg]
    | ptr m _ _ => by_cases hm : m = n <;> simp [RV.kill, hm, RV.isAgg]
    | agg l => simp [RV.isAgg] at ha
    | _ => simp [RV.kill, RV.isAgg]
  | agg h => simp only [RV.kill]; exact .agg (h.kill n hn)
  | fn h => simp only [RV.kill]; exact .fn (h.kill n hn)
theorem SL.kill {w F ρ ρ' es ys fp} (n : Nat) (h : SL w F ρ es ys fp) (hn : ∀ m, m ≠ n → ρ' m = ρ m) : SL w F ρ' (RV.killL n es) ys fp := by
  induction h with
  | nil => simp only [RV.killL]; exact .nil
  | cons h1 _ ih => simp only [RV.killL]; exact .cons (h1.kill n hn) ih
theorem SV.kill {w F ρ ρ' e y fp} (n : Nat) (h : SV w F ρ e y fp) (hn : ∀ m, m ≠ n → ρ' m = ρ m) : SV w F ρ' (e.kill n) y fp := by
  cases h with
  | one h => exact .one (h.kill n hn)
  | tup h => simp only [RV.kill]; exact .tup (h.kill n hn)

def lget : List RV → Nat → RV
  | [], _ => .any
  | x :: _, 0 => x
  | _ :: xs, n + 1 => lget xs n
def lset : List RV → Nat → RV → List RV
  | [], _, _ => []
  | _ :: xs, 0, y => y :: xs
  | x :: xs, n + 1, y => x :: lset xs n y

@[simp] theorem length_lset (l : List RV) (n : Nat) (y : RV) : (lset l n y).length = l.length := by
  induction l generalizing n with
  | nil => rfl
  | cons x xs ih => cases n <;> simp [lset, ih]
theorem lget_lset (l : List RV) (n m : Nat) (y : RV) : lget (lset l n y) m = if m = n ∧ n < l.length then y else lget l m := by
  induction l generalizing n m with
  | nil => simp [lset]
  | cons x xs ih =>
    cases n with
    | zero => cases m <;> simp [lset, lget]
    | succ n => cases m <;> simp [lset, lget, ih]
theorem lget_out (l : List RV) (n : Nat) (h : l.length ≤ n) : lget l n = .any := by
  induction l generalizing n with
  | nil => rfl
  | cons x xs ih => cases n with
    | zero => simp at h
    | succ n => simp [lget, ih n (by simpa using h)]
theorem lget_killL (l : List RV) (n m : Nat) : lget (RV.killL n l) m = (lget l m).kill n := by
  induction l generalizing m with
  | nil => simp [RV.killL, lget, RV.kill]
  | cons x xs ih => cases m <;> simp [RV.killL, lget, ih]
@[simp] theorem length_killL (l : List RV) (n : Nat) : (RV.killL n l).length = l.length := by
  induction l with
  | nil => simp [RV.killL]
  | cons x xs ih => simp [RV.killL, ih]

abbrev Bk := Nat × Nat × List RV

def olook (n : Nat) : List Bk → Option (Nat × List RV)
  | [] => none
  | (m, k, els) :: O => if m = n then some (k, els) else olook n O
def oset (n : Nat) (els : List RV) : List Bk → List Bk
  | [] => []
  | (m, k, e) :: O => if m = n then (m, k, els) :: O else (m, k, e) :: oset n els O
def oerase (n : Nat) : List Bk → List Bk
  | [] => []
  | (m, k, e) :: O => if m = n then O else (m, k, e) :: oerase n O
def onames : List Bk → List Nat
  | [] => []
  | (m, _, e) :: O => m :: (RV.namesL e ++ onames O)

def GLs : List Nat := [] -- GLS
def GOK (w : World) (F : Nat → Prop) : Prop := ∀ g ∈ GLs, F g ∧ ∃ ev, w.cell? ⟨g, 0, none⟩ = some ev ∧ (ev = .nilIface ∨ ∃ te pe, ev = .iface te pe)
theorem GOK.mono {w w' : World} {F F' : Nat → Prop} (h : GOK w F) (hF : ∀ b, F b → F' b ∧ w'.heap[b]? = w.heap[b]?) : GOK w' F' := fun g hg => by
  obtain ⟨h1, ev, h2, h3⟩ := h g hg
  exact ⟨(hF g h1).1, ev, by rw [← h2]; exact World.cell?_of_block (hF g h1).2, h3⟩
def mapEls (b : Nat) (m : List (Value × Value)) : List RV := .v (.map (some b)) :: m.map fun p => .agg [.v p.1, .v p.2]
theorem mapEls_names (b : Nat) (m : List (Value × Value)) : RV.namesL (mapEls b m) = [] := by
  unfold mapEls
  simp only [RV.namesL, RV.names, List.nil_append]
  induction m with
  | nil => rfl
  | cons x xs ih => simp [RV.namesL, RV.names, ih]
def itEls (b : Nat) (s : ByteArray) (pos : Nat) : List RV := [.v (.pointer (some ⟨b, 0, none⟩)), .v (.string s), .v (.int .i64 (pos : Nat))]
inductive KObj (w : World) : Nat → List RV → Prop
  | map {b es clock m} (hb : w.heap[b]? = some (.map es clock)) (hs : MapKept.Stamped es clock) (hm : es.toList.map (fun x => (x.key, x.val)) = m) : KObj w b (mapEls b m)
  | iter {b s pos} (hb : w.heap[b]? = some (.stringIter s pos)) : KObj w b (itEls b s pos)
theorem KObj.mono {w w' : World} {b els} (h : KObj w b els) (e : w'.heap[b]? = w.heap[b]?) : KObj w' b els := by
  cases h with
  | map hb hs hm => exact .map (by rw [e]; exact hb) hs hm
  | iter hb => exact .iter (by rw [e]; exact hb)
theorem KObj.lt {w : World} {b els} (h : KObj w b els) : b < w.heap.size := by
  cases h with
  | map hb _ _ => exact (Array.getElem?_eq_some_iff.1 hb).1
  | iter hb => exact (Array.getElem?_eq_some_iff.1 hb).1
inductive OL (w : World) (F : Nat → Prop) (ρ : Places) : List Bk → List Nat → Prop
  | nil (hg : GOK w F) : OL w F ρ [] []
  | nilb {n k O fp} (hk : 0 < k) (hρ : ρ n = (none, k, 0)) (h : OL w F ρ O fp) : OL w F ρ ((n, k, []) :: O) fp
  | cons {n b k els ty c cells O fp1 fp2} (hk : 0 < k) (hρ : (ρ n).2.1 = k) (hρb : (ρ n).1 = some b) (hb : w.heap[b]? = some (.cells c ty (0, 0))) (hs : c.size = (ρ n).2.2 * k) (hl : els.length ≤ (ρ n).2.2) (hm : (ρ n).2.2 ≤ maxLen)
      (hc : c.toList.take (els.length * k) = cells) (he : OE w F ρ k els cells fp1) (h : OL w F ρ O fp2) : OL w F ρ ((n, k, els) :: O) (b :: (fp1 ++ fp2))
  | map {n b els O fp} (hρ : (ρ n).2.1 = 0) (hb : KObj w b els) (h : OL w F ρ O fp) : OL w F ρ ((n, 0, els) :: O) (b :: fp)

theorem OL.gok {w F ρ O fp} (h : OL w F ρ O fp) : GOK w F := by
  induction h with
  | nil hg => exact hg
  | nilb _ _ _ ih => exact ih
  | cons _ _ _ _ _ _ _ _ _ _ ih => exact ih
  | map _ _ _ ih => exact ih
theorem GOK.le {w : World} {F F' : Nat → Prop} (h : GOK w F) (hF : ∀ b, F b → F' b) : GOK w F' := h.mono fun b hb => ⟨hF b hb, rfl⟩
theorem OL.mono {w w' : World} {F F' : Nat → Prop} {ρ O fp} (h : OL w F ρ O fp) (hF : ∀ b, F b → F' b ∧ w'.heap[b]? = w.heap[b]?) (hfp : ∀ b ∈ fp, w'.heap[b]? = w.heap[b]?) : OL w' F' ρ O fp := by
  induction h with
  | nil hg => exact .nil (hg.mono hF)
  | nilb hk hρ _ ih => exact .nilb hk hρ (ih hfp)
  | cons hk hρ hρb hb hs hl hm hc he _ ih =>
    exact .cons hk hρ hρb (by rw [hfp _ (by simp)]; exact hb) hs hl hm hc (he.mono hF fun b hx => hfp b (by simp [hx])) (ih fun b hx => hfp b (by simp [hx]))
  | map hρ hb _ ih => exact .map hρ (hb.mono (hfp _ (by simp))) (ih fun b hx => hfp b (by simp [hx]))

theorem OL.places {w F ρ ρ' O fp} (h : OL w F ρ O fp) (hn : ∀ n ∈ onames O, ρ' n = ρ n) : OL w F ρ' O fp := by
  induction h with
  | nil hg => exact .nil hg
  | @nilb n k O fp hk hρ _ ih => exact .nilb hk ((hn n (by simp [onames])).trans hρ) (ih fun m hx => hn m (by simp [onames, hx]))
  | @cons n b k els ty c cells O fp1 fp2 hk hρ hρb hb hs hl hm hc he _ ih =>
    have e := hn n (by simp [onames])
    rw [← e] at hρ hρb hs hl hm
    exact .cons hk hρ hρb hb hs hl hm hc (he.places fun m hx => hn m (by simp [onames, hx])) (ih fun m hx => hn m (by simp [onames, hx]))
  | @map n b els O fp hρ hb _ ih => exact .map (by rw [hn n (by simp [onames])]; exact hρ) hb (ih fun m hx => hn m (by simp [onames, hx]))

theorem OL.lt {w F ρ O fp} (h : OL w F ρ O fp) : ∀ b ∈ fp, b < w.heap.size := by
  induction h with
  | nil => simp
  | nilb _ _ _ ih => exact ih
  | cons hk hρ hρb hb hs hl hm hc he _ ih =>
    intro x hx
    simp at hx
    rcases hx with rfl | hx | hx
    · exact (Array.getElem?_eq_some_iff.1 hb).1
    · exact he.lt x hx
    · exact ih x hx
  | map hρ hb _ ih =>
    intro x hx
    simp at hx
    rcases hx with rfl | hx
    · exact hb.lt
    · exact ih x hx

theorem OL.swap {w F ρ x y O fp} (h : OL w F ρ (x :: y :: O) fp) : ∃ fp', OL w F ρ (y :: x :: O) fp' ∧ fp.Perm fp' := by
  have perm : ∀ (A B C : List Nat) (b b' : Nat), (b :: (A ++ b' :: (B ++ C))).Perm (b' :: (B ++ b :: (A ++ C))) := by
    intro A B C b b'
    have e1 : (b :: (A ++ b' :: (B ++ C))) = ([b] ++ A) ++ (([b'] ++ B) ++ C) := by simp
    have e2 : (b' :: (B ++ b :: (A ++ C))) = ([b'] ++ B) ++ (([b] ++ A) ++ C) := by simp
    rw [e1, e2]
    exact List.perm_append_comm_assoc _ _ _
  cases h with
  | nilb hk hρ h => cases h with
    | nilb hk2 hρ2 h2 => exact ⟨_, .nilb hk2 hρ2 (.nilb hk hρ h2), .refl _⟩
    | cons hk2 hρ2 hρb2 hb2 hs2 hl2 hm2 hc2 he2 h2 => exact ⟨_, .cons hk2 hρ2 hρb2 hb2 hs2 hl2 hm2 hc2 he2 (.nilb hk hρ h2), .refl _⟩
    | map a1 a2 h2 => exact ⟨_, .map a1 a2 (.nilb hk hρ h2), .refl _⟩
  | cons hk hρ hρb hb hs hl hm hc he h => cases h with
    | nilb hk2 hρ2 h2 => exact ⟨_, .nilb hk2 hρ2 (.cons hk hρ hρb hb hs hl hm hc he h2), .refl _⟩
    | cons hk2 hρ2 hρb2 hb2 hs2 hl2 hm2 hc2 he2 h2 => exact ⟨_, .cons hk2 hρ2 hρb2 hb2 hs2 hl2 hm2 hc2 he2 (.cons hk hρ hρb hb hs hl hm hc he h2), perm _ _ _ _ _⟩
    | map a1 a2 h2 => exact ⟨_, .map a1 a2 (.cons hk hρ hρb hb hs hl hm hc he h2), by simpa using perm _ [] _ _ _⟩
  | map c1 c2 h => cases h with
    | nilb hk2 hρ2 h2 => exact ⟨_, .nilb hk2 hρ2 (.map c1 c2 h2), .refl _⟩
    | cons hk2 hρ2 hρb2 hb2 hs2 hl2 hm2 hc2 he2 h2 => exact ⟨_, .cons hk2 hρ2 hρb2 hb2 hs2 hl2 hm2 hc2 he2 (.map c1 c2 h2), by simpa using perm [] _ _ _ _⟩
    | map a1 a2 h2 => exact ⟨_, .map a1 a2 (.map c1 c2 h2), .swap _ _ _⟩

theorem OL.tail {w F ρ x O fp} (h : OL w F ρ (x :: O) fp) : ∃ fp1 fp2, fp = fp1 ++ fp2 ∧ OL w F ρ O fp2 ∧ ∀ O' fp', OL w F ρ O' fp' → OL w F ρ (x :: O') (fp1 ++ fp') := by
  cases h with
  | nilb hk hρ h => exact ⟨[], _, rfl, h, fun O' fp' h' => .nilb hk hρ h'⟩
  | @cons _ b _ _ _ _ _ _ f1 f2 hk hρ hρb hb hs hl hm hc he h => exact ⟨b :: f1, f2, by simp, h, fun O' fp' h' => by simpa using OL.cons hk hρ hρb hb hs hl hm hc he h'⟩
  | @map _ b _ _ _ a1 a2 h => exact ⟨[b], _, rfl, h, fun O' fp' h' => .map a1 a2 h'⟩

theorem OL.pull {w F ρ O fp n k els} (h : OL w F ρ O fp) (hl : olook n O = some (k, els)) : ∃ fp', OL w F ρ ((n, k, els) :: oerase n O) fp' ∧ fp.Perm fp' := by
  induction O generalizing fp with
  | nil => simp [olook] at hl
  | cons x O ih =>
    obtain ⟨m, k', els'⟩ := x
    simp only [olook] at hl
    split at hl
    · rename_i hmn
      subst hmn
      simp only [Option.some.injEq, Prod.mk.injEq] at hl
      obtain ⟨rfl, rfl⟩ := hl
      simp only [oerase, if_true]
      exact ⟨_, h, .refl _⟩
    · rename_i hmn
      obtain ⟨f1, f2, rfl, h2, hcons⟩ := h.tail
      obtain ⟨fp', h', hp⟩ := ih h2 hl
      obtain ⟨fp'', h'', hp'⟩ := (hcons _ _ h').swap
      simp only [oerase, if_neg hmn]
      exact ⟨_, h'', ((List.Perm.refl f1).append hp).trans hp'⟩

theorem OL.push {w F ρ O fp n k els} (h : OL w F ρ ((n, k, els) :: oerase n O) fp) (hl : olook n O = some (k, els)) : ∃ fp', OL w F ρ O fp' ∧ fp.Perm fp' := by
  induction O generalizing fp with
  | nil => simp [olook] at hl
  | cons x O ih =>
    obtain ⟨m, k', els'⟩ := x
    simp only [olook] at hl
    split at hl
    · rename_i hmn
      subst hmn
      simp only [Option.some.injEq, Prod.mk.injEq] at hl
      obtain ⟨rfl, rfl⟩ := hl
      simp only [oerase, if_true] at h
      exact ⟨_, h, .refl _⟩
    · rename_i hmn
      simp only [oerase, if_neg hmn] at h
      obtain ⟨fp', h', hp⟩ := h.swap
      obtain ⟨f1, f2, rfl, h2, hcons⟩ := h'.tail
      obtain ⟨fp3, h3, hp3⟩ := ih h2 hl
      exact ⟨_, hcons _ _ h3, hp.trans ((List.Perm.refl f1).append hp3)⟩

theorem olook_oset {n k els els' O} (h : olook n O = some (k, els)) : olook n (oset n els' O) = some (k, els') := by
  induction O with
  | nil => simp [olook] at h
  | cons x O ih =>
    obtain ⟨m, k', e⟩ := x
    simp only [olook] at h
    simp only [oset]
    split at h
    · rename_i hmn; simp at h; simp [hmn, olook, h]
    · rename_i hmn; simp [hmn, olook, ih h]
theorem oerase_oset (n : Nat) (els' : List RV) (O : List Bk) : oerase n (oset n els' O) = oerase n O := by
  induction O with
  | nil => rfl
  | cons x O ih =>
    obtain ⟨m, k', e⟩ := x
    simp only [oset, oerase]
    split
    · rename_i hmn; simp [oerase, hmn]
    · rename_i hmn; simp [oerase, hmn, ih]
theorem onames_oerase {n m : Nat} {O : List Bk} (h : m ∈ onames (oerase n O)) : m ∈ onames O := by
  induction O with
  | nil => simpa [oerase] using h
  | cons x O ih =>
    obtain ⟨q, k', e⟩ := x
    simp only [oerase] at h
    split at h
    · simp [onames, h]
    · simp only [onames, List.mem_cons, List.mem_append] at h ⊢
      rcases h with h | h | h
      · exact .inl h
      · exact .inr (.inl h)
      · exact .inr (.inr (ih h))
theorem onames_olook {n k els m} {O : List Bk} (h : olook n O = some (k, els)) (hm : m = n ∨ m ∈ RV.namesL els) : m ∈ onames O := by
  induction O with
  | nil => simp [olook] at h
  | cons x O ih =>
    obtain ⟨q, k', e⟩ := x
    simp only [olook] at h
    split at h
    · rename_i hq; simp at h; rcases hm with rfl | hm
      · simp [onames, hq]
      · simp [onames, h, hm]
    · simp [onames, ih h]

@[reducible] def oF : One Bool := ⟨false⟩
def JT [One Bool] : Prop := (One.one : Bool) = true
def TW (w' w : World) : Prop := w'.tape = w.tape ∧ (w.drawn ≤ w'.drawn ∨ JT)
theorem TW.trans {a b c : World} (h : TW a b) (k : TW b c) : TW a c := ⟨h.1.trans k.1, k.2.elim (fun x => h.2.elim (fun y => .inl (Nat.le_trans x y)) .inr) .inr⟩
theorem TW.refl (w : World) : TW w w := ⟨rfl, .inl (Nat.le_refl _)⟩
theorem TW.of {w' w : World} (h : w'.tape = w.tape) (h2 : w'.drawn = w.drawn) : TW w' w := ⟨h, .inl (by rw [h2]; exact Nat.le_refl _)⟩
structure St where
  fr : List RV
  O : List Bk

structure Env where
  w0 : World
  F0 : Nat → Prop
  B0 : Nat → Prop
  ρ0 : Places

structure RelX (E : Env) (s : St) (a : Act) (w : World) (F : Nat → Prop) (ρ : Places) (fp : List Nat) : Prop where
  defers : a.defers = []
  size : a.tmps.size = s.fr.length
  fr : ∀ i, SV w F ρ (lget s.fr i) (a.tmps.getD i undef) []
  O : OL w F ρ s.O fp
  nodup : fp.Nodup
  fpF : ∀ b ∈ fp, ¬ F b
  fpE : ∀ b ∈ fp, E.B0 b ∨ E.w0.heap.size ≤ b
  F0 : ∀ b, E.F0 b → F b
  Fn : ∀ b, F b → E.F0 b ∨ E.B0 b ∨ E.w0.heap.size ≤ b
  Fs : ∀ b, F b → b < w.heap.size
  keep : ∀ b, b < E.w0.heap.size → ¬ E.B0 b → w.heap[b]? = E.w0.heap[b]?
  hsize : E.w0.heap.size ≤ w.heap.size
  os : w.os = E.w0.os
  tape : TW w E.w0
  output : w.output = E.w0.output
  pin : ∀ n, 1000000000000 ≤ n → ρ n = E.ρ0 n

def Rel (E : Env) (s : St) (a : Act) (w : World) : Prop := ∃ F ρ fp, RelX E s a w F ρ fp

theorem RelX.world {E s a w F ρ fp} (h : RelX E s a w F ρ fp) {w' : World} {F' : Nat → Prop} (hF : ∀ b, F b → F' b) (hF' : ∀ b, F' b → (F b ∨ w.heap.size ≤ b) ∧ b < w'.heap.size)
    (hb : ∀ b, b < w.heap.size → w'.heap[b]? = w.heap[b]?) (hsz : w.heap.size ≤ w'.heap.size) (h1 : w'.os = w.os) (h2 : TW w' w) (h3 : w'.output = w.output) : RelX E s a w' F' ρ fp := by
  have hFb : ∀ b, F b → F' b ∧ w'.heap[b]? = w.heap[b]? := fun b hx => ⟨hF b hx, hb b (h.Fs b hx)⟩
  have hfp : ∀ b ∈ fp, w'.heap[b]? = w.heap[b]? := fun b hx => hb b (h.O.lt b hx)
  refine ⟨h.defers, h.size, fun i => (h.fr i).mono hFb (by simp), h.O.mono hFb hfp, h.nodup, ?_, h.fpE, fun b hx => hF b (h.F0 b hx), ?_, fun b hx => (hF' b hx).2, ?_, Nat.le_trans h.hsize hsz, h1.trans h.os, h2.trans h.tape, h3.trans h.output, h.pin⟩
  · intro b hx hx'
    rcases (hF' b hx').1 with h4 | h4
    · exact h.fpF b hx h4
    · exact absurd (h.O.lt b hx) (by omega)
  · intro b hx
    rcases (hF' b hx).1 with h4 | h4
    · exact h.Fn b h4
    · exact .inr (.inr (Nat.le_trans h.hsize h4))
  · intro b h4 h5
    rw [hb b (Nat.lt_of_lt_of_le h4 h.hsize)]
    exact h.keep b h4 h5

theorem RelX.drew {E s a w F ρ fp} (h : RelX E s a w F ρ fp) : RelX E s a { w with drawn := w.drawn + 1 } F ρ fp :=
  h.world (fun _ hx => hx) (fun b hx => ⟨.inl hx, h.Fs b hx⟩) (fun _ _ => rfl) (Nat.le_refl _) rfl ⟨rfl, .inl (by first | exact Nat.le_refl _ | exact Nat.le_succ _)⟩ rfl
theorem Rel.drew {E s a w} (h : Rel E s a w) : Rel E s a { w with drawn := w.drawn + 1 } := let ⟨F, ρ, fp, h⟩ := h; ⟨F, ρ, fp, h.drew⟩

def sput (d : Option Tmp) (r : RV) (fr : List RV) : List RV := match d with | some d => lset fr d r | none => fr

theorem getD_set (t : Array Value) (d i : Nat) (y u : Value) : (t.setIfInBounds d y).getD i u = if i = d ∧ d < t.size then y else t.getD i u := by
  simp only [Array.getD_eq_getD_getElem?, Array.getElem?_setIfInBounds]
  by_cases h : d = i
  · subst h; by_cases h2 : d < t.size <;> simp [h2]
  · have : ¬ i = d := fun e => h e.symm
    simp [h, this]

theorem RelX.put {E s a w F ρ fp} (h : RelX E s a w F ρ fp) (d : Option Tmp) {r y} (hv : SV w F ρ r y []) : RelX E ⟨sput d r s.fr, s.O⟩ (a.put d y) w F ρ fp := by
  cases d with
  | none => exact { h with }
  | some d =>
    refine { h with size := ?_, fr := ?_ }
    · simp [Act.put, sput, h.size]
    · intro i
      simp only [Act.put, sput, lget_lset, getD_set, h.size]
      split
      · exact hv
      · exact h.fr i

def St.get (s : St) : Operand → RV
  | .tmp t => lget s.fr t
  | .const x => .v x
  | .func f => .v (.func (.func f) #[] #[])
  | .global _ => .any

theorem RelX.get {E s a w F ρ fp} (h : RelX E s a w F ρ fp) (x : Operand) : SV w F ρ (s.get x) (a.eval x) [] := by
  cases x with
  | tmp t => exact h.fr t
  | const y => exact .one (.v y)
  | func f => exact .one (.v _)
  | global g => exact .one (.any _)

theorem SV.exact {w F ρ x y fp} (h : SV w F ρ (.v x) y fp) : y = x := by
  cases h with
  | one h => cases h with
    | v => rfl
    | cell ha h =>
      generalize hc : [y] = cs at h
      cases h with
      | fz h1 h2 =>
        cases h1 with
        | v x' h1' h3 => cases h3; cases h2; simpa using hc

end Eng
end Go.Proofs.YtmfbcipjknjicaaGreatDoor

/- The engine, part C: operations, regions in the text's order, code, loops, calls and functions over symbolic states. No condition. -/
namespace Go.Proofs.YtmfbcipjknjicaaGreatDoor
set_option linter.unusedSectionVars false
variable [One Bool]
namespace Eng
open Go.RowKit

def OpS (P : Program) (o : Oper) (s s' : St) : Prop :=
  ∀ E a w, Rel E s a w → ∀ (K : Act → World → Prop) (Q : Exit → Act → World → Prop), (∀ a' w', Rel E s' a' w' → K a' w') → o.wp P a w K Q

def OpG (P : Program) (ops : Array Oper) (o : Oper) (s s' : St) : Prop :=
  ∀ E a w, Rel E s a w → ∀ (K : Act → World → Prop) (Q : Exit → Act → World → Prop), (∀ a' w', Rel E s' a' w' → K a' w') → if Region.wanted o (yielded ops a.tmps) then o.wp P a w K Q else K (a.put o.dst undef) w

theorem OpG.plain {P ops o s s'} (hg : o.guard = none) (h : OpS P o s s') : OpG P ops o s s' := by
  intro E a w hr K Q hK
  rw [if_pos (by simp [Region.wanted, hg])]
  exact h E a w hr K Q hK

def gslot (ops : Array Oper) (j : Nat) : Option Tmp := (ops[j]?).bind (·.dst)

theorem Rel.bool {E s a w} (h : Rel E s a w) {t b} (ht : lget s.fr t = .v (.bool b)) : a.tmps[t]? = some (.bool b) := by
  obtain ⟨F, ρ, fp, h⟩ := h
  have h1 := h.fr t
  rw [ht] at h1
  have h2 := h1.exact
  have hlt : t < a.tmps.size := by
    rcases Nat.lt_or_ge t a.tmps.size with h3 | h3
    · exact h3
    · rw [lget_out _ _ (by rw [← h.size]; exact h3)] at ht
      cases ht
  rw [Array.getD_eq_getD_getElem?] at h2
  simp only [Array.getElem?_eq_getElem hlt, Option.getD_some] at h2 ⊢
  rw [h2]

theorem OpG.yes {P ops o s s' j want t} (hg : o.guard = some (j, want)) (hj : gslot ops j = some t) (ht : lget s.fr t = .v (.bool want)) (h : OpS P o s s') : OpG P ops o s s' := by
  intro E a w hr K Q hK
  have hb := hr.bool ht
  rw [if_pos (by simp only [gslot] at hj; simp [Region.wanted, hg, yielded, hj, hb])]
  exact h E a w hr K Q hK

theorem OpG.no {P ops o s j want t b} (hg : o.guard = some (j, want)) (hj : gslot ops j = some t) (ht : lget s.fr t = .v (.bool b)) (hne : (b == want) = false) : OpG P ops o s ⟨sput o.dst .any s.fr, s.O⟩ := by
  intro E a w hr K Q hK
  have hb := hr.bool ht
  rw [if_neg (by simp only [gslot] at hj; simp [Region.wanted, hg, yielded, hj, hb]; simpa using hne)]
  obtain ⟨F, ρ, fp, h⟩ := hr
  exact hK _ _ ⟨F, ρ, fp, h.put o.dst (.one (.any _))⟩

theorem OpG.no' {P ops o s j want t} (hg : o.guard = some (j, want)) (hj : gslot ops j = some t) (ht : lget s.fr t = .v undef) : OpG P ops o s ⟨sput o.dst (.v undef) s.fr, s.O⟩ := by
  intro E a w hr K Q hK
  obtain ⟨F, ρ, fp, h⟩ := hr
  have h2 := (show SV w F ρ (.v undef) (a.tmps.getD t undef) [] from ht ▸ h.fr t).exact
  have hy : yielded ops a.tmps j = none := by
    simp only [gslot] at hj
    simp only [yielded, hj, Option.bind_some]
    rw [Array.getD_eq_getD_getElem?] at h2
    cases hq : a.tmps[t]? with
    | none => rfl
    | some y => simp [hq] at h2; subst h2; rfl
  rw [if_neg (by simp [Region.wanted, hg, hy])]
  exact hK _ _ ⟨F, ρ, fp, h.put o.dst (.one (.v _))⟩

theorem OpG.no2 {P ops o s j want t b} (hg : o.guard = some (j, want)) (hj : gslot ops j = some t) (ht : lget s.fr t = .v (.bool b)) (hne : (b == want) = false) : OpG P ops o s ⟨sput o.dst (.v undef) s.fr, s.O⟩ := by
  intro E a w hr K Q hK
  have hb := hr.bool ht
  rw [if_neg (by simp only [gslot] at hj; simp [Region.wanted, hg, yielded, hj, hb]; simpa using hne)]
  obtain ⟨F, ρ, fp, h⟩ := hr
  exact hK _ _ ⟨F, ρ, fp, h.put o.dst (.one (.v _))⟩

def GR (P : Program) (ops : Array Oper) (rest : List Oper) (R : St → Prop) (s : St) : Prop :=
  ∀ E a w, Rel E s a w → ∀ Q : Exit → Act → World → Prop, (∀ s' a' w', R s' → Rel E s' a' w' → Q .normal a' w') → wpList P ops Q rest a w

def GW (P : Program) (c : Code) (R : Exit → St → Prop) (s : St) : Prop :=
  ∀ E a w, Rel E s a w → c.wp P (fun e a' w' => ∃ s', R e s' ∧ Rel E s' a' w') a w

theorem gr_nil {P ops R s} (h : R s) : GR P ops [] R s := fun _ _ _ hr _ hQ => wpList_nil (hQ _ _ _ h hr)

theorem gr_step {P ops o rest R s} (s' : St) (h : OpG P ops o s s') (hk : GR P ops rest R s') : GR P ops (o :: rest) R s := by
  intro E a w hr Q hQ
  refine wpList_step fun K hK => ?_
  exact h E a w hr K Q fun a' w' hr' => hK _ _ (hk E a' w' hr' Q hQ)

theorem gr_op {P ops o rest R s} (s' : St) (hg : o.guard = none) (h : OpS P o s s') (hk : GR P ops rest R s') : GR P ops (o :: rest) R s := gr_step s' (.plain hg h) hk

theorem gw_region {P id l R s} (h : GR P l.toArray l (R .normal) s) : GW P (.region id l.toArray false) R s := by
  intro E a w hr
  exact wp_region_lit (h E a w hr _ fun s' a' w' h1 h2 => ⟨s', h1, h2⟩)

def Rthen (next : St → Prop) (R : Exit → St → Prop) : Exit → St → Prop
  | .normal, s => next s
  | e, s => R e s
def Rblock (id : Nat) (R : Exit → St → Prop) : Exit → St → Prop
  | .exit id', s => if id' = id then R .normal s else R (.exit id') s
  | e, s => R e s

theorem gw_seq {P x y R s} (h : GW P x (Rthen (GW P y R) R) s) : GW P (.seq x y) R s := by
  intro E a w hr
  refine wp_seq (wp_mono (h E a w hr) ?_)
  rintro e a' w' ⟨s', h1, h2⟩
  cases e with
  | normal => exact h1 E a' w' h2
  | _ => exact ⟨s', h1, h2⟩

theorem gw_block {P id c R s} (h : GW P c (Rblock id R) s) : GW P (.block id c) R s := by
  intro E a w hr
  refine wp_block (wp_mono (h E a w hr) ?_)
  rintro e a' w' ⟨s', h1, h2⟩
  cases e with
  | exit id' =>
    simp only [Rblock] at h1
    simp only [Exit.inBlock]
    split
    · rename_i he; rw [if_pos he] at h1; exact ⟨s', h1, h2⟩
    · rename_i he; rw [if_neg he] at h1; exact ⟨s', h1, h2⟩
  | _ => exact ⟨s', h1, h2⟩

theorem gw_skip {P R s} (h : R .normal s) : GW P .skip R s := fun _ _ _ hr => wp_skip ⟨s, h, hr⟩
theorem gw_exit {P id R s} (h : R (.exit id) s) : GW P (.exit id) R s := fun _ _ _ hr => wp_exit ⟨s, h, hr⟩
theorem gw_ret {P R s} (h : R .ret s) : GW P .ret R s := fun _ _ _ hr => wp_ret ⟨s, h, hr⟩

theorem Rel.eval_bool {E s a w} (h : Rel E s a w) {c b} (hc : s.get c = .v (.bool b)) : a.eval c = .bool b := by
  obtain ⟨F, ρ, fp, h⟩ := h
  have := h.get c
  rw [hc] at this
  exact this.exact

theorem gw_cond {P c x y R s b} (hc : s.get c = .v (.bool b)) (ht : b = true → GW P x R s) (hf : b = false → GW P y R s) : GW P (.cond c x y) R s := by
  intro E a w hr
  exact wp_cond_split (hr.eval_bool hc) (fun hb => ht hb E a w hr) (fun hb => hf hb E a w hr)
theorem gw_cond_t {P c x y R s} (hc : s.get c = .v (.bool true)) (h : GW P x R s) : GW P (.cond c x y) R s := gw_cond hc (fun _ => h) (fun h => by cases h)
theorem gw_cond_f {P c x y R s} (hc : s.get c = .v (.bool false)) (h : GW P y R s) : GW P (.cond c x y) R s := gw_cond hc (fun h => by cases h) (fun _ => h)

def Le (s s' : St) : Prop := ∀ E a w, Rel E s a w → Rel E s' a w
theorem Le.refl (s : St) : Le s s := fun _ _ _ h => h
theorem Le.trans {a b c : St} (h : Le a b) (k : Le b c) : Le a c := fun E x w hr => k E x w (h E x w hr)
theorem gw_le {P c R s} (s' : St) (hl : Le s s') (h : GW P c R s') : GW P c R s := fun E a w hr => h E a w (hl E a w hr)
theorem gr_le {P ops rest R s} (s' : St) (hl : Le s s') (h : GR P ops rest R s') : GR P ops rest R s := fun E a w hr => h E a w (hl E a w hr)

theorem gw_loop {P c R s} {ι : Type} (I : ι → St) (C : ι → Prop) (μ : ι → Nat) (i0 : ι) (h0 : C i0) (hs : Le s (I i0))
    (round : ∀ i, C i → GW P c (Rthen (fun s' => ∃ j, C j ∧ μ j < μ i ∧ Le s' (I j)) R) (I i)) : GW P (.loop c) R s := by
  intro E a w hr b k cs
  have key : ∀ n i a w, μ i = n → C i → Rel E (I i) a w →
      ∃ e a' w', (∃ s', R e s' ∧ Rel E s' a' w') ∧ Arrives P (lone (b.at a (.code c :: .inLoop c :: k)) cs w) b k cs e a' w' := by
    intro n
    induction n using Nat.strongRecOn with
    | _ n ih =>
      intro i a w hn hC hI
      obtain ⟨e, a₁, w₁, ⟨s₁, hq, hr₁⟩, harr⟩ := round i hC E a w hI b (.inLoop c :: k) cs
      cases e with
      | normal =>
        obtain ⟨j, hj, hlt, hle⟩ := hq
        obtain ⟨e₂, a₂, w₂, hq₂, harr₂⟩ := ih (μ j) (hn ▸ hlt) j a₁ w₁ rfl hj (hle E a₁ w₁ hr₁)
        exact ⟨e₂, a₂, w₂, hq₂, .of_steps (Steps.trans harr (.one step_inLoop)) harr₂⟩
      | exit id => exact ⟨_, a₁, w₁, ⟨s₁, hq, hr₁⟩, .pass (x := .inLoop c) rfl (fun _ _ => .inl (by simp)) harr⟩
      | goto l => exact ⟨_, a₁, w₁, ⟨s₁, hq, hr₁⟩, .pass (x := .inLoop c) rfl (fun _ _ => .inl (by simp)) harr⟩
      | ret => exact ⟨_, a₁, w₁, ⟨s₁, hq, hr₁⟩, .pass (x := .inLoop c) rfl (fun _ _ => .inl (by simp)) harr⟩
      | panic ch => exact ⟨_, a₁, w₁, ⟨s₁, hq, hr₁⟩, .pass (x := .inLoop c) rfl (fun _ _ => .inl (by simp)) harr⟩
      | outgrown => exact ⟨_, a₁, w₁, ⟨s₁, hq, hr₁⟩, .pass (x := .inLoop c) rfl (fun _ _ => .inl (by simp)) harr⟩
  obtain ⟨e, a', w', hq, harr⟩ := key _ i0 a w rfl h0 (hs E a w hr)
  exact ⟨e, a', w', hq, .of_steps (.one step_loop) harr⟩

inductive Wk : List RV → List RV → Prop
  | nil : Wk [] []
  | any {x l l'} (h : Wk l l') : Wk (x :: l) (.any :: l')
  | keep {x l l'} (h : Wk l l') : Wk (x :: l) (x :: l')

theorem Wk.get {l l' : List RV} (h : Wk l l') : l.length = l'.length ∧ ∀ i, lget l' i = .any ∨ lget l' i = lget l i := by
  induction h with
  | nil => exact ⟨rfl, fun i => .inr rfl⟩
  | any _ ih => refine ⟨by simp [ih.1], fun i => ?_⟩; cases i with
    | zero => exact .inl rfl
    | succ i => exact ih.2 i
  | keep _ ih => refine ⟨by simp [ih.1], fun i => ?_⟩; cases i with
    | zero => exact .inr rfl
    | succ i => exact ih.2 i

theorem Le.frame {fr fr' : List RV} {O : List Bk} (h : Wk fr fr') : Le ⟨fr, O⟩ ⟨fr', O⟩ := by
  rintro E a w ⟨F, ρ, fp, hr⟩
  obtain ⟨h1, h2⟩ := h.get
  refine ⟨F, ρ, fp, { hr with size := hr.size.trans h1, fr := fun i => ?_ }⟩
  rcases h2 i with h3 | h3
  · show SV w F ρ (lget fr' i) _ _
    rw [h3]; exact .one (.any _)
  · show SV w F ρ (lget fr' i) _ _
    rw [h3]; exact hr.fr i

/-! Functions. -/

def FC (P : Program) (f : FuncId) (args : List RV) (Oin : List Bk) (Post : RV → List Bk → Prop) : Prop :=
  ∀ (w : World) (F : Nat → Prop) (ρ : Places) (vals : List Value) (fp : List Nat), SL w F ρ args vals [] → OL w F ρ Oin fp → fp.Nodup → (∀ b ∈ fp, ¬ F b) → (∀ b, F b → b < w.heap.size) →
    Calls P f vals.toArray w fun e w' => ∃ v rv Oout F' ρ' fp1 fp2, e = .returned v ∧ Post rv Oout ∧ SV w' F' ρ' rv v fp1 ∧ OL w' F' ρ' Oout fp2 ∧ (fp1 ++ fp2).Nodup ∧ (∀ b ∈ fp1 ++ fp2, ¬ F' b ∧ (b ∈ fp ∨ w.heap.size ≤ b)) ∧
      (∀ b, F b → F' b) ∧ (∀ b, F' b → (F b ∨ b ∈ fp ∨ w.heap.size ≤ b) ∧ b < w'.heap.size) ∧ (∀ b, b < w.heap.size → b ∉ fp → w'.heap[b]? = w.heap[b]?) ∧ w.heap.size ≤ w'.heap.size ∧ w'.os = w.os ∧ TW w' w ∧ w'.output = w.output ∧ ∀ n, 1000000000000 ≤ n → ρ' n = ρ n

theorem FC.mono {P f args Oin Post Post'} (h : FC P f args Oin Post) (hp : ∀ r O, Post r O → Post' r O) : FC P f args Oin Post' := by
  intro w F ρ vals fp h1 h2 h3 h4 h5
  refine (h w F ρ vals fp h1 h2 h3 h4 h5).mono ?_
  rintro e w' ⟨v, rv, Oout, F', ρ', fp1, fp2, he, hP, rest⟩
  exact ⟨v, rv, Oout, F', ρ', fp1, fp2, he, hp _ _ hP, rest⟩

theorem SL.length {w F ρ es ys fp} (h : SL w F ρ es ys fp) : es.length = ys.length := by
  induction h with
  | nil => rfl
  | cons _ _ ih => simp [ih]
theorem SL.get {w F ρ es ys} (h : SL w F ρ es ys []) (i : Nat) : SV w F ρ (lget es i) (ys.getD i undef) [] := by
  generalize hf : ([] : List Nat) = fp at h
  induction h generalizing i with
  | nil => exact .one (.any _)
  | cons h1 _ ih =>
    have hf' := hf.symm
    rw [List.append_eq_nil_iff] at hf'
    obtain ⟨rfl, rfl⟩ := hf'
    cases i with
    | zero => exact .one h1
    | succ i => exact ih i rfl

def anys (n : Nat) : List RV := List.replicate n .any
theorem lget_append (l l' : List RV) (i : Nat) : lget (l ++ l') i = if i < l.length then lget l i else lget l' (i - l.length) := by
  induction l generalizing i with
  | nil => simp
  | cons x xs ih => cases i with
    | zero => simp [lget]
    | succ i => simp [lget, ih]
theorem lget_anys (n i : Nat) : lget (anys n) i = .any := by
  unfold anys
  induction n generalizing i with
  | zero => rfl
  | succ n ih => cases i with
    | zero => rfl
    | succ i => simp [List.replicate_succ, lget, ih]

def Ends (P : Program) (fn : Func) (Post : RV → List Bk → Prop) : Exit → St → Prop
  | .normal, s | .ret, s => ∀ E a w, Rel E s a w → ∃ v rv Oout F ρ fp1 fp2, (results fn a.tmps).run P w = .ok v w ∧ Post rv Oout ∧ SV w F ρ rv v fp1 ∧ OL w F ρ Oout fp2 ∧ (fp1 ++ fp2).Nodup ∧
      (∀ b ∈ fp1 ++ fp2, ¬ F b ∧ (E.B0 b ∨ E.w0.heap.size ≤ b)) ∧ (∀ b, E.F0 b → F b) ∧ (∀ b, F b → (E.F0 b ∨ E.B0 b ∨ E.w0.heap.size ≤ b) ∧ b < w.heap.size) ∧ ∀ n, 1000000000000 ≤ n → ρ n = E.ρ0 n
  | _, _ => False

theorem fc_enter {P f fn c args Oin Post} (hf : P.funcs[f]? = some fn) (hb : fn.body = some c) (h : GW P c (Ends P fn Post) ⟨args ++ anys (fn.ntmps - args.length), Oin⟩) : FC P f args Oin Post := by
  intro w F ρ vals fp h1 h2 h3 h4 h5
  refine calls_of_wp hf hb ?_
  have hl := h1.length
  let E : Env := { w0 := w, F0 := F, B0 := fun b => b ∈ fp, ρ0 := ρ }
  have hr : Rel E ⟨args ++ anys (fn.ntmps - args.length), Oin⟩ { tmps := vals.toArray ++ Array.replicate (fn.ntmps - vals.toArray.size) undef, defers := [] } w := by
    refine ⟨F, ρ, fp, rfl, ?_, ?_, h2, h3, h4, fun b hb => .inl hb, fun b hb => hb, fun b hb => .inl hb, h5, fun b _ _ => rfl, Nat.le_refl _, rfl, TW.refl _, rfl, fun _ _ => rfl⟩
    · simp [anys, hl]
    · intro i
      show SV w F ρ (lget (args ++ anys _) i) _ []
      rw [lget_append]
      split
      · rename_i hi
        have := h1.get i
        have e : (vals.toArray ++ Array.replicate (fn.ntmps - vals.toArray.size) undef).getD i undef = vals.getD i undef := by
          rw [Array.getD_eq_getD_getElem?, Array.getElem?_append_left (by simp; omega)]
          simp
        rw [e]; exact this
      · rw [lget_anys]; exact .one (.any _)
  refine wp_mono (h E _ w hr) ?_
  rintro e a' w' ⟨s', h6, h7⟩
  obtain ⟨F1, ρ1, fpx, h8⟩ := id h7
  cases e with
  | normal =>
    obtain ⟨v, rv, Oout, F', ρ', fp1, fp2, g1, g2, g3, g4, g5, g6, g7, g8, g9⟩ := h6 E a' w' h7
    exact ⟨h8.defers, v, g1, v, rv, Oout, F', ρ', fp1, fp2, rfl, g2, g3, g4, g5, g6, g7, g8, h8.keep, h8.hsize, h8.os, h8.tape, h8.output, g9⟩
  | ret =>
    obtain ⟨v, rv, Oout, F', ρ', fp1, fp2, g1, g2, g3, g4, g5, g6, g7, g8, g9⟩ := h6 E a' w' h7
    exact ⟨h8.defers, v, g1, v, rv, Oout, F', ρ', fp1, fp2, rfl, g2, g3, g4, g5, g6, g7, g8, h8.keep, h8.hsize, h8.os, h8.tape, h8.output, g9⟩
  | _ => exact h6.elim

end Eng
end Go.Proofs.YtmfbcipjknjicaaGreatDoor

/- The engine, part D: the operations that leave memory alone; calls. No condition. -/
namespace Go.Proofs.YtmfbcipjknjicaaGreatDoor
set_option linter.unusedSectionVars false
variable [One Bool]
namespace Eng
open Go.RowKit

theorem ops_val {P o s rv} (h : ∀ E a w F ρ fp, RelX E s a w F ρ fp → ∃ y, (execOp a.eval o).run P w = .ok (.value y) w ∧ SV w F ρ rv y []) : OpS P o s ⟨sput o.dst rv s.fr, s.O⟩ := by
  rintro E a w ⟨F, ρ, fp, hr⟩ K Q hK
  obtain ⟨y, h1, h2⟩ := h E a w F ρ fp hr
  simp only [Oper.wp, h1, Oper.upon_value]
  exact hK _ _ ⟨F, ρ, fp, hr.put o.dst h2⟩

theorem ops_exact {P o s z} (h : ∀ E a w F ρ fp, RelX E s a w F ρ fp → (execOp a.eval o).run P w = .ok (.value z) w) : OpS P o s ⟨sput o.dst (.v z) s.fr, s.O⟩ :=
  ops_val fun E a w F ρ fp hr => ⟨z, h E a w F ρ fp hr, .one (.v z)⟩

theorem RelX.ex {E s a w F ρ fp} (h : RelX E s a w F ρ fp) {x z} (hx : s.get x = .v z) : a.eval x = z := by
  have := h.get x
  rw [hx] at this
  exact this.exact

section
variable {P : Program} {s : St} {d : Option Tmp} {ty : TypeId} {pos : String} {after : Array Edge} {g : Option (Nat × Bool)}

theorem ops_move {x} : OpS P ⟨d, .move x, ty, pos, after, g⟩ s ⟨sput d (s.get x) s.fr, s.O⟩ :=
  ops_val fun _ a _ _ _ _ hr => ⟨a.eval x, by simp [execOp], hr.get x⟩
theorem ops_assign {x} : OpS P ⟨d, .assign x, ty, pos, after, g⟩ s ⟨sput d (s.get x) s.fr, s.O⟩ :=
  ops_val fun _ a _ _ _ _ hr => ⟨a.eval x, by simp [execOp], hr.get x⟩

theorem ops_pick {c x y b} (hc : s.get c = .v (.bool b)) : OpS P ⟨d, .pick c x y, ty, pos, after, g⟩ s ⟨sput d (if b then s.get x else s.get y) s.fr, s.O⟩ :=
  ops_val fun _ a _ _ _ _ hr => ⟨if b then a.eval x else a.eval y, by simp [execOp, hr.ex hc, asBool], by cases b <;> simp [hr.get]⟩
theorem ops_pick_t {c x y} (hc : s.get c = .v (.bool true)) : OpS P ⟨d, .pick c x y, ty, pos, after, g⟩ s ⟨sput d (s.get x) s.fr, s.O⟩ := by
  simpa using ops_pick (P := P) (d := d) (ty := ty) (pos := pos) (after := after) (g := g) (x := x) (y := y) hc
theorem ops_pick_f {c x y} (hc : s.get c = .v (.bool false)) : OpS P ⟨d, .pick c x y, ty, pos, after, g⟩ s ⟨sput d (s.get y) s.fr, s.O⟩ := by
  simpa using ops_pick (P := P) (d := d) (ty := ty) (pos := pos) (after := after) (g := g) (x := x) (y := y) hc
theorem ops_pick_b {c x y b p q} (hc : s.get c = .v (.bool b)) (hx : s.get x = .v (.bool p)) (hy : s.get y = .v (.bool q)) : OpS P ⟨d, .pick c x y, ty, pos, after, g⟩ s ⟨sput d (.v (.bool (if b then p else q))) s.fr, s.O⟩ :=
  ops_exact fun _ a _ _ _ _ hr => by cases b <;> simp [execOp, hr.ex hc, hr.ex hx, hr.ex hy, asBool]

section
variable {x y : Operand} {t u : TypeId} {k : IntKind} {m n : Int} (hx : s.get x = .v (.int k m)) (hy : s.get y = .v (.int k n))
include hx hy
theorem ops_lss : OpS P ⟨d, .binOp .lss t x y u, ty, pos, after, g⟩ s ⟨sput d (.v (.bool (decide (m < n)))) s.fr, s.O⟩ := ops_exact fun _ a _ _ _ _ hr => by simp [execOp, hr.ex hx, hr.ex hy, binOp_lss, eqGuard_lss]
theorem ops_leq : OpS P ⟨d, .binOp .leq t x y u, ty, pos, after, g⟩ s ⟨sput d (.v (.bool (decide (m ≤ n)))) s.fr, s.O⟩ := ops_exact fun _ a _ _ _ _ hr => by simp [execOp, hr.ex hx, hr.ex hy, binOp_leq, eqGuard_leq]
theorem ops_gtr : OpS P ⟨d, .binOp .gtr t x y u, ty, pos, after, g⟩ s ⟨sput d (.v (.bool (decide (n < m)))) s.fr, s.O⟩ := ops_exact fun _ a _ _ _ _ hr => by simp [execOp, hr.ex hx, hr.ex hy, binOp_gtr, eqGuard_gtr]
theorem ops_geq : OpS P ⟨d, .binOp .geq t x y u, ty, pos, after, g⟩ s ⟨sput d (.v (.bool (decide (n ≤ m)))) s.fr, s.O⟩ := ops_exact fun _ a _ _ _ _ hr => by simp [execOp, hr.ex hx, hr.ex hy, binOp_geq, eqGuard_geq]
theorem ops_eqi : OpS P ⟨d, .binOp .eql t x y u, ty, pos, after, g⟩ s ⟨sput d (.v (.bool (decide (m = n)))) s.fr, s.O⟩ := ops_exact fun _ a _ _ _ _ hr => by simp [execOp, hr.ex hx, hr.ex hy, binOp_eql, eqGuard_at_int]; rfl
theorem ops_nei : OpS P ⟨d, .binOp .neq t x y u, ty, pos, after, g⟩ s ⟨sput d (.v (.bool (decide (m ≠ n)))) s.fr, s.O⟩ := ops_exact fun _ a _ _ _ _ hr => by simp [execOp, hr.ex hx, hr.ex hy, binOp_neq, eqGuard_at_int]; rfl
end

section
variable {x y : Operand} {t u : TypeId} {m n : Int} (hx : s.get x = .v (.int .i64 m)) (hy : s.get y = .v (.int .i64 n))
theorem wrap_in {m : Int} (h1 : -9223372036854775808 ≤ m) (h2 : m ≤ 9223372036854775807) : IntKind.i64.wrap m = m := IntWalk.i64_in _ (by omega)
include hx hy
theorem ops_add (h1 : -9223372036854775808 ≤ m + n) (h2 : m + n ≤ 9223372036854775807) : OpS P ⟨d, .binOp .add t x y u, ty, pos, after, g⟩ s ⟨sput d (.v (.int .i64 (m + n))) s.fr, s.O⟩ :=
  ops_exact fun _ a _ _ _ _ hr => by have := wrap_in h1 h2; simp [execOp, hr.ex hx, hr.ex hy, binOp_add, eqGuard_add, Op.intArith, this]
theorem ops_sub (h1 : -9223372036854775808 ≤ m - n) (h2 : m - n ≤ 9223372036854775807) : OpS P ⟨d, .binOp .sub t x y u, ty, pos, after, g⟩ s ⟨sput d (.v (.int .i64 (m - n))) s.fr, s.O⟩ :=
  ops_exact fun _ a _ _ _ _ hr => by have := wrap_in h1 h2; simp [execOp, hr.ex hx, hr.ex hy, binOp_sub, eqGuard_sub, Op.intArith, this]
theorem ops_mul (h1 : -9223372036854775808 ≤ m * n) (h2 : m * n ≤ 9223372036854775807) : OpS P ⟨d, .binOp .mul t x y u, ty, pos, after, g⟩ s ⟨sput d (.v (.int .i64 (m * n))) s.fr, s.O⟩ :=
  ops_exact fun _ a _ _ _ _ hr => by have := wrap_in h1 h2; simp [execOp, hr.ex hx, hr.ex hy, binOp_mul, eqGuard_mul, Op.intArith, this]
end

theorem ops_not {x b} (hx : s.get x = .v (.bool b)) {t} : OpS P ⟨d, .unOp .not t x, ty, pos, after, g⟩ s ⟨sput d (.v (.bool !b)) s.fr, s.O⟩ := ops_exact fun _ a _ _ _ _ hr => by simp [execOp, hr.ex hx, Op.unary]

theorem run_equal_bool {w : World} {t : TypeId} (p q : Bool) (ht : P.underlying t = some .bool) : (Op.equal t (.bool p) (.bool q)).run P w = .ok (p == q) w := by
  unfold Op.equal
  rw [show Op.maxDepth = 9999 + 1 from rfl, Op.equalIn]
  simp [run_underlying ht]
theorem ops_eqb {x y t u p q} (hx : s.get x = .v (.bool p)) (hy : s.get y = .v (.bool q)) (ht : P.underlying t = some .bool) : OpS P ⟨d, .binOp .eql t x y u, ty, pos, after, g⟩ s ⟨sput d (.v (.bool (p == q))) s.fr, s.O⟩ :=
  ops_exact fun _ a w _ _ _ hr => by simp [execOp, hr.ex hx, hr.ex hy, eqGuard_at_bool, binOp, run_equal_bool _ _ ht]
theorem ops_neb {x y t u p q} (hx : s.get x = .v (.bool p)) (hy : s.get y = .v (.bool q)) (ht : P.underlying t = some .bool) : OpS P ⟨d, .binOp .neq t x y u, ty, pos, after, g⟩ s ⟨sput d (.v (.bool (p != q))) s.fr, s.O⟩ :=
  ops_exact fun _ a w _ _ _ hr => by simp [execOp, hr.ex hx, hr.ex hy, eqGuard_at_bool, binOp, run_equal_bool _ _ ht, bne]

abbrev RV.str (p : List UInt8) : RV := .v (.string ⟨p.toArray⟩)
section
variable {x y : Operand} {t u : TypeId} {p q : List UInt8} (hx : s.get x = .str p) (hy : s.get y = .str q)
include hx hy
theorem ops_eqs : OpS P ⟨d, .binOp .eql t x y u, ty, pos, after, g⟩ s ⟨sput d (.v (.bool (decide (p = q)))) s.fr, s.O⟩ :=
  ops_exact fun _ a w _ _ _ hr => by simp [execOp, hr.ex hx, hr.ex hy, eqGuard_at_string, binOp, Op.stringOp]; rw [Bool.eq_iff_iff]; simp
theorem ops_nes : OpS P ⟨d, .binOp .neq t x y u, ty, pos, after, g⟩ s ⟨sput d (.v (.bool (decide (p ≠ q)))) s.fr, s.O⟩ :=
  ops_exact fun _ a w _ _ _ hr => by simp [execOp, hr.ex hx, hr.ex hy, eqGuard_at_string, binOp, Op.stringOp]; rw [Bool.eq_iff_iff]; simp
theorem ops_lts : OpS P ⟨d, .binOp .lss t x y u, ty, pos, after, g⟩ s ⟨sput d (.v (.bool (Op.bytesLess p q))) s.fr, s.O⟩ :=
  ops_exact fun _ a w _ _ _ hr => by simp [execOp, hr.ex hx, hr.ex hy, eqGuard_at_string, binOp, Op.stringOp]
theorem ops_ges : OpS P ⟨d, .binOp .geq t x y u, ty, pos, after, g⟩ s ⟨sput d (.v (.bool (!Op.bytesLess p q))) s.fr, s.O⟩ :=
  ops_exact fun _ a w _ _ _ hr => by simp [execOp, hr.ex hx, hr.ex hy, eqGuard_at_string, binOp, Op.stringOp]
theorem ops_cat (h : p.length + q.length ≤ 9223372036854775807) : OpS P ⟨d, .binOp .add t x y u, ty, pos, after, g⟩ s ⟨sput d (.str (p ++ q)) s.fr, s.O⟩ :=
  ops_exact fun _ a w _ _ _ hr => by
    have e : ((⟨p.toArray⟩ : ByteArray) ++ ⟨q.toArray⟩) = ⟨(p ++ q).toArray⟩ := by apply ByteArray.ext; simp
    have h1 : ¬ ((((⟨p.toArray⟩ : ByteArray).size + (⟨q.toArray⟩ : ByteArray).size : Nat) : Int) > IntKind.i64.max) := by
      show ¬ (((p.toArray.size + q.toArray.size : Nat) : Int) > _); simp; omega
    simp only [execOp, hr.ex hx, hr.ex hy, eqGuard_add, binOp, Op.stringOp]
    rw [if_neg h1]
    simp [e]
end
theorem ops_byte {x ix t p k i b} (hx : s.get x = .str p) (hi : s.get ix = .v (.int k (i : Nat))) (hb : p[i]? = some b) (ht : P.underlying t = some .string) :
    OpS P ⟨d, .index t x ix, ty, pos, after, g⟩ s ⟨sput d (.v (.int .u8 b.toNat)) s.fr, s.O⟩ :=
  ops_exact fun _ a w _ _ _ hr => by
    obtain ⟨hlt, e⟩ := List.getElem?_eq_some_iff.1 hb
    simp only [execOp, hr.ex hx, hr.ex hi, Instr.index, asIntOf, Sem.run_bind, run_underlying ht, Sem.run_pure, Result.andThen_ok]
    have h1 : (⟨p.toArray⟩ : ByteArray)[i]? = some b := by
      have hs : i < (⟨p.toArray⟩ : ByteArray).size := by show i < p.toArray.size; simpa using hlt
      rw [getElem?_pos (c := (⟨p.toArray⟩ : ByteArray)) (i := i) hs, ← e]
      rfl
    simp [h1]
theorem ops_lens {x c p} (hx : s.get x = .str p) (ht : P.underlying c = some .string) : OpS P ⟨d, .call ⟨.builtin .len, #[x], #[c]⟩, ty, pos, after, g⟩ s ⟨sput d (.v (.int .i64 p.length)) s.fr, s.O⟩ :=
  ops_exact fun _ a w _ _ _ hr => by
    have e : (⟨p.toArray⟩ : ByteArray).size = p.length := by show p.toArray.size = _; simp
    simp [execOp, resolve, invoke, builtin, Builtin.len_, hr.ex hx, run_underlying ht, goInt, e]
end

/-! Slices. -/

theorem OE.single {w F ρ e y fp} (h : OE w F ρ 1 [e] [y] fp) (hn : e.lone = true) : (FE w F 1 [e] [y] ∧ fp = []) ∨
    (∃ b cap ty c k els fp1, e = .ow k els ∧ y = .slice (some ⟨b, 0, none⟩) els.length cap ∧ fp = b :: fp1 ∧ 0 < k ∧ w.heap[b]? = some (.cells c ty (0, 0)) ∧ c.size = cap * k ∧ els.length ≤ cap ∧ cap ≤ maxLen ∧ RV.namesL els = [] ∧ OE w F (fun _ => (none, 0, 0)) k els (c.toList.take (els.length * k)) fp1) ∨
    (∃ n off len, e = .ref n off len ∧ y = .slice ((ρ n).1.map fun b => ⟨b, off * (ρ n).2.1, none⟩) len ((ρ n).2.2 - off) ∧ fp = [] ∧ (ρ n).2.1 ≠ 0) ∨
    (∃ n i j, e = .ptr n i j ∧ y = .pointer ((ρ n).1.map fun b => ⟨b, i * (ρ n).2.1 + j, none⟩) ∧ fp = [] ∧ (ρ n).2.1 ≠ 0) ∨
    (∃ k, e = .ow k [] ∧ y = .slice none 0 0 ∧ fp = [] ∧ 0 < k) := by
  generalize hc : [y] = cs at h
  generalize he : [e] = es at h
  cases h with
  | nil => cases he
  | fz h1 h =>
    simp only [List.cons.injEq] at he
    obtain ⟨rfl, rfl⟩ := he
    cases h
    left
    rw [List.append_nil] at hc
    exact ⟨hc ▸ h1, rfl⟩
  | ow b cap ty c hk hb hs hl hm hcc hnn h1 h =>
    simp only [List.cons.injEq] at he hc
    obtain ⟨rfl, rfl⟩ := he
    cases h
    subst hcc
    exact .inr (.inl ⟨b, cap, ty, c, _, _, _, rfl, hc.1, by simp, hk, hb, hs, hl, hm, hnn, h1⟩)
  | ref n off len hr h =>
    simp only [List.cons.injEq] at he hc
    obtain ⟨rfl, rfl⟩ := he
    cases h
    exact .inr (.inr (.inl ⟨n, off, len, rfl, hc.1, rfl, hr⟩))
  | ptr n i j hr h =>
    simp only [List.cons.injEq] at he hc
    obtain ⟨rfl, rfl⟩ := he
    cases h
    exact .inr (.inr (.inr (.inl ⟨n, i, j, rfl, hc.1, rfl, hr⟩)))
  | ownil k hk h =>
    simp only [List.cons.injEq] at he hc
    obtain ⟨rfl, rfl⟩ := he
    cases h
    exact .inr (.inr (.inr (.inr ⟨k, rfl, hc.1, rfl, hk⟩)))
  | agg hl hk h =>
    simp only [List.cons.injEq] at he
    obtain ⟨rfl, rfl⟩ := he
    simp [RV.lone] at hn
  | fn f hl h =>
    simp only [List.cons.injEq] at he
    obtain ⟨rfl, rfl⟩ := he
    simp [RV.lone] at hn
theorem OE.fn_inv {w F ρ f l y fp} (h : OE w F ρ 1 [.fn f l] [y] fp) : ∃ c, y = mkF f c ∧ OE w F ρ 1 l c [] ∧ fp = [] := by
  generalize hc : [y] = cs at h
  generalize he : [RV.fn f l] = es at h
  cases h with
  | nil => cases he
  | fz h1 h =>
    simp only [List.cons.injEq] at he
    obtain ⟨rfl, rfl⟩ := he
    cases h1
  | fn f hl h =>
    simp only [List.cons.injEq] at he hc
    obtain ⟨e, rfl⟩ := he
    cases e
    cases h
    exact ⟨_, hc.1, hl, rfl⟩
  | ow => simp at he
  | ownil => simp at he
  | ref => simp at he
  | ptr => simp at he
  | agg => simp at he

theorem FE.sh_inv {w F els y} (h : FE w F 1 [.sh els] [y]) : (els = [] ∧ ∃ a cap, y = .slice a 0 cap) ∨ ∃ a cap k cells, y = .slice (some a) els.length cap ∧ 0 < k ∧ F a.block ∧ els.length ≤ maxLen ∧ CellsAt w a cells ∧ FE w F k els cells := by
  generalize hc : [y] = cs at h
  generalize he : [RV.sh els] = es at h
  cases h with
  | nil => cases he
  | v => simp at he
  | any => simp at he
  | shnil a cap h => simp at he hc; left; exact ⟨he.1, a, cap, hc.1⟩
  | sh a cap k hk hF hm hcc h1 h => simp at he hc; obtain ⟨rfl, rfl⟩ := he; exact .inr ⟨a, cap, k, _, hc.1, hk, hF, hm.1, hcc, h1⟩
  | psh => simp at he
  | agg => simp at he

theorem FE.psh_inv {w F e y} (h : FE w F 1 [.psh e] [y]) : ∃ a k cells, y = .pointer (some a) ∧ 0 < k ∧ F a.block ∧ CellsAt w a cells ∧ FE w F k [e] cells := by
  generalize hc : [y] = cs at h
  generalize he : [RV.psh e] = es at h
  cases h with
  | nil => cases he
  | v => simp at he
  | any => simp at he
  | shnil a cap h => simp at he
  | sh => simp at he
  | psh a k hk hF hcc h1 h => simp at he hc; obtain ⟨rfl, rfl⟩ := he; exact ⟨a, k, _, hc.1, hk, hF, hcc, h1⟩
  | agg => simp at he

theorem SV.cell {w F ρ e y fp} (h : SV w F ρ e y fp) (h1 : e.isAgg = false) (h2 : ∀ x, e ≠ .v x) (h3 : e ≠ .any) (h4 : ∀ l, e ≠ .tup l) (h5 : ∀ f l, e ≠ .fn f l) : OE w F ρ 1 [e] [y] fp := by
  cases h with
  | tup => exact absurd rfl (h4 _)
  | one h => cases h with
    | any => exact absurd rfl h3
    | v => exact absurd rfl (h2 _)
    | cell _ h => exact h
    | agg => simp [RV.isAgg] at h1
    | fn => exact absurd rfl (h5 _ _)

theorem SV.sh_inv {w F ρ els y fp} (h : SV w F ρ (.sh els) y fp) : fp = [] ∧ ((els = [] ∧ ∃ a cap, y = .slice a 0 cap) ∨ ∃ a cap k cells, y = .slice (some a) els.length cap ∧ 0 < k ∧ F a.block ∧ els.length ≤ maxLen ∧ CellsAt w a cells ∧ FE w F k els cells) := by
  have h1 := h.cell rfl (by simp) (by simp) (by simp) (by simp)
  rcases h1.single rfl with ⟨h2, h3⟩ | ⟨_, _, _, _, _, _, _, e, _⟩ | ⟨_, _, _, e, _⟩ | ⟨_, _, _, e, _⟩ | ⟨_, e, _⟩
  · exact ⟨h3, h2.sh_inv⟩
  all_goals cases e
theorem SV.psh_inv {w F ρ e y fp} (h : SV w F ρ (.psh e) y fp) : fp = [] ∧ ∃ a k cells, y = .pointer (some a) ∧ 0 < k ∧ F a.block ∧ CellsAt w a cells ∧ FE w F k [e] cells := by
  have h1 := h.cell rfl (by simp) (by simp) (by simp) (by simp)
  rcases h1.single rfl with ⟨h2, h3⟩ | ⟨_, _, _, _, _, _, _, e, _⟩ | ⟨_, _, _, e, _⟩ | ⟨_, _, _, e, _⟩ | ⟨_, e, _⟩
  · exact ⟨h3, h2.psh_inv⟩
  all_goals cases e
theorem SV.ref_inv {w F ρ n off len y fp} (h : SV w F ρ (.ref n off len) y fp) : y = .slice ((ρ n).1.map fun b => ⟨b, off * (ρ n).2.1, none⟩) len ((ρ n).2.2 - off) := by
  have h1 := h.cell rfl (by simp) (by simp) (by simp) (by simp)
  rcases h1.single rfl with ⟨h2, h3⟩ | ⟨_, _, _, _, _, _, _, e, _⟩ | ⟨_, _, _, e, h2, _⟩ | ⟨_, _, _, e, _⟩ | ⟨_, e, _⟩
  · cases h2
  · cases e
  · cases e; exact h2
  · cases e
  · cases e
theorem SV.ref_pos {w F ρ n off len y fp} (h : SV w F ρ (.ref n off len) y fp) : (ρ n).2.1 ≠ 0 := by
  have h1 := h.cell rfl (by simp) (by simp) (by simp) (by simp)
  rcases h1.single rfl with ⟨h2, h3⟩ | ⟨_, _, _, _, _, _, _, e, _⟩ | ⟨_, _, _, e, _, _, h2⟩ | ⟨_, _, _, e, _⟩ | ⟨_, e, _⟩
  · cases h2
  · cases e
  · cases e; exact h2
  · cases e
  · cases e
theorem SV.ptr_pos {w F ρ n i j y fp} (h : SV w F ρ (.ptr n i j) y fp) : (ρ n).2.1 ≠ 0 := by
  have h1 := h.cell rfl (by simp) (by simp) (by simp) (by simp)
  rcases h1.single rfl with ⟨h2, h3⟩ | ⟨_, _, _, _, _, _, _, e, _⟩ | ⟨_, _, _, e, _⟩ | ⟨_, _, _, e, _, _, h2⟩ | ⟨_, e, _⟩
  · cases h2
  · cases e
  · cases e
  · cases e; exact h2
  · cases e
theorem SV.ptr_inv {w F ρ n i j y fp} (h : SV w F ρ (.ptr n i j) y fp) : y = .pointer ((ρ n).1.map fun b => ⟨b, i * (ρ n).2.1 + j, none⟩) := by
  have h1 := h.cell rfl (by simp) (by simp) (by simp) (by simp)
  rcases h1.single rfl with ⟨h2, h3⟩ | ⟨_, _, _, _, _, _, _, e, _⟩ | ⟨_, _, _, e, h2, _⟩ | ⟨_, _, _, e, h2, _⟩ | ⟨_, e, _⟩
  · cases h2
  · cases e
  · cases e
  · cases e; exact h2
  · cases e

def RV.width : RV → Nat | .agg l => l.length | _ => 1

theorem FE.width {w F k e cells} (h : FE w F k [e] cells) : e.width = k := by
  cases h with
  | agg hl hk h => have := hl.length; simp [RV.width]; omega
  | _ => rfl

section
variable {P : Program} {s : St} {d : Option Tmp} {ty : TypeId} {pos : String} {after : Array Edge} {g : Option (Nat × Bool)}

theorem ops_len_sh {x c els} (hx : s.get x = .sh els) (ht : P.underlying c = some (.slice (P.elem c))) : OpS P ⟨d, .call ⟨.builtin .len, #[x], #[c]⟩, ty, pos, after, g⟩ s ⟨sput d (.v (.int .i64 els.length)) s.fr, s.O⟩ :=
  ops_exact fun _ a w F ρ fp hr => by
    have h1 := hr.get x
    rw [hx] at h1
    rcases h1.sh_inv with ⟨_, ⟨rfl, a', cap, h2⟩ | ⟨a', cap, k, cells, h2, _⟩⟩
    · simp [execOp, resolve, invoke, builtin, h2, run_len_slice _ _ _ _ _ _ ht, goInt]
    · simp [execOp, resolve, invoke, builtin, h2, run_len_slice _ _ _ _ _ _ ht, goInt]
theorem ops_len_ref {x c n off len} (hx : s.get x = .ref n off len) (ht : P.underlying c = some (.slice (P.elem c))) : OpS P ⟨d, .call ⟨.builtin .len, #[x], #[c]⟩, ty, pos, after, g⟩ s ⟨sput d (.v (.int .i64 len)) s.fr, s.O⟩ :=
  ops_exact fun _ a w F ρ fp hr => by
    have h1 := hr.get x
    rw [hx] at h1
    simp [execOp, resolve, invoke, builtin, h1.ref_inv, run_len_slice _ _ _ _ _ _ ht, goInt]
theorem ops_len_nil {x c} (hx : s.get x = .v (.slice none 0 0)) (ht : P.underlying c = some (.slice (P.elem c))) : OpS P ⟨d, .call ⟨.builtin .len, #[x], #[c]⟩, ty, pos, after, g⟩ s ⟨sput d (.v (.int .i64 0)) s.fr, s.O⟩ :=
  ops_exact fun _ a w F ρ fp hr => by
    simp [execOp, resolve, invoke, builtin, hr.ex hx, run_len_slice _ _ _ _ _ _ ht, goInt]

theorem run_sizeOf {P : Program} {e : TypeId} {k : Nat} (h : P.cellsOf e = k) (hk : 0 < k) (w : World) : (sizeOf e).run P w = .ok k w := by
  unfold Program.cellsOf at h
  cases hi : P.info? e with
  | none => simp [hi] at h; omega
  | some i => simp [hi] at h; simp [sizeOf, typeInfo, hi, h]

theorem ops_idx_sh {x ix c els k i e} (hx : s.get x = .sh els) (hi : s.get ix = .v (.int k (i : Nat))) (he : els[i]? = some e) (ht : P.underlying c = some (.slice (P.elem c))) (hw : P.cellsOf (P.elem c) = e.width) :
    OpS P ⟨d, .indexAddr c x ix, ty, pos, after, g⟩ s ⟨sput d (.psh e) s.fr, s.O⟩ :=
  ops_val fun _ a w F ρ fp hr => by
    have h1 := hr.get x
    rw [hx] at h1
    obtain ⟨hlt, he'⟩ := List.getElem?_eq_some_iff.1 he
    rcases h1.sh_inv with ⟨_, ⟨rfl, _⟩ | ⟨a', cap, k', cells, h2, hk, hF, hm, hc, hf⟩⟩
    · simp at hlt
    · have h3 := hf.at i hlt
      rw [he'] at h3
      have h4 := h3.width
      have h5 := run_sizeOf (P := P) (e := P.elem c) (k := k') (by rw [hw, h4]) hk w
      refine ⟨.pointer (some (a'.add (i * k'))), ?_, ?_⟩
      · simp only [execOp, h2, hr.ex hi, Sem.run_bind, run_indexAt_slice _ _ _ _ _ _ _ ht]
        rw [if_pos (by omega)]
        simp [h5]
      · have hcells : CellsAt w (a'.add (i * k')) ((cells.drop (i * k')).take k') := by
          intro j y hj
          rw [List.getElem?_take] at hj
          split at hj
          · rw [List.getElem?_drop] at hj
            rw [Addr.add_add]
            exact hc _ _ hj
          · cases hj
        have hb : (a'.add (i * k')).block = a'.block := by unfold Addr.add; split <;> rfl
        refine .one (.cell rfl ?_)
        exact OE.of_FE (.psh _ k' hk (by rw [hb]; exact hF) hcells h3 (.nil _))

end
end Eng
end Go.Proofs.YtmfbcipjknjicaaGreatDoor

/- The engine, part E: the operations that read named blocks, write them, make new ones. No condition. -/
namespace Go.Proofs.YtmfbcipjknjicaaGreatDoor
set_option linter.unusedSectionVars false
variable [One Bool]
namespace Eng
open Go.RowKit

def scalarT (P : Program) (t : TypeId) : Bool := match P.underlying t with | none => false | some (.struct _) => false | some (.array _ _) => false | _ => true
def aggT (P : Program) (t : TypeId) : Bool := match P.underlying t with | some (.struct _) => true | some (.array _ _) => true | _ => false

theorem run_isAgg_s {P : Program} {t : TypeId} (h : scalarT P t = true) (w : World) : (isAgg t).run P w = .ok false w := by
  unfold scalarT at h
  unfold isAgg
  cases hd : P.underlying t with
  | none => simp [hd] at h
  | some d => simp only [hd] at h; simp only [Sem.run_bind, run_underlying hd, Result.andThen_ok]; cases d <;> simp at h ⊢
theorem run_isAgg_a {P : Program} {t : TypeId} (h : aggT P t = true) (w : World) : (isAgg t).run P w = .ok true w := by
  unfold aggT at h
  unfold isAgg
  cases hd : P.underlying t with
  | none => simp [hd] at h
  | some d => simp only [hd] at h; simp only [Sem.run_bind, run_underlying hd, Result.andThen_ok]; cases d <;> simp at h ⊢

theorem run_load_s {P : Program} {w : World} {t : TypeId} {a : Addr} {y : Value} (ht : scalarT P t = true) (h : w.cell? a = some y) : (loadVar t a).run P w = .ok y w := by
  simp only [loadVar, Sem.run_bind, run_isAgg_s ht, Result.andThen_ok]
  simp [h]
theorem run_load_a {P : Program} {w : World} {t : TypeId} {a : Addr} {cs : List Value} (ht : aggT P t = true) (hs : P.cellsOf t = cs.length) (hp : 0 < cs.length) (h : CellsAt w a cs) : (loadVar t a).run P w = .ok (.agg cs.toArray) w := by
  simp only [loadVar, Sem.run_bind, run_isAgg_a ht, Result.andThen_ok]
  simp [run_sizeOf hs hp, run_loadCells_list w a cs h]

def RV.cellsL : RV → List RV | .agg l => l | e => [e]

theorem FE.cellsL {w F k e cells} (h : FE w F k [e] cells) : FE w F 1 e.cellsL cells := by
  cases e with
  | agg l => cases h with | agg hl hk h => cases h; simpa [RV.cellsL] using hl
  | _ => have := h.width; simp [RV.width] at this; subst this; exact h

theorem mapEls_cell {b : Nat} {m : List (Value × Value)} {i j : Nat} {e c : RV} (h : (mapEls b m)[i]? = some e) (hc : e.cellsL[j]? = some c) : ∃ x, c = .v x := by
  unfold mapEls at h
  cases i with
  | zero =>
    simp only [List.getElem?_cons_zero, Option.some.injEq] at h
    subst h
    cases j with
    | zero => simp [RV.cellsL] at hc; exact ⟨_, hc.symm⟩
    | succ j => simp [RV.cellsL] at hc
  | succ i =>
    simp only [List.getElem?_cons_succ, List.getElem?_map, Option.map_eq_some_iff] at h
    obtain ⟨p, _, rfl⟩ := h
    match j with
    | 0 => simp [RV.cellsL] at hc; exact ⟨_, hc.symm⟩
    | 1 => simp [RV.cellsL] at hc; exact ⟨_, hc.symm⟩
    | j + 2 => simp [RV.cellsL] at hc
theorem KObj.cell {w : World} {b : Nat} {els : List RV} {i j : Nat} {e c : RV} (h : KObj w b els) (he : els[i]? = some e) (hc : e.cellsL[j]? = some c) : ∃ x, c = .v x := by
  cases h with
  | map => exact mapEls_cell he hc
  | iter =>
    have h1 : ∃ y, e = .v y := by
      unfold itEls at he
      match i, he with
      | 0, he => simp at he; exact ⟨_, he.symm⟩
      | 1, he => simp at he; exact ⟨_, he.symm⟩
      | 2, he => simp at he; exact ⟨_, he.symm⟩
    obtain ⟨y, rfl⟩ := h1
    cases j with
    | zero => simp [RV.cellsL] at hc; exact ⟨_, hc.symm⟩
    | succ j => simp [RV.cellsL] at hc

theorem OE.cellsL {w F ρ k e cells fp} (h : OE w F ρ k [e] cells fp) : OE w F ρ 1 e.cellsL cells fp := by
  generalize he : [e] = es at h
  cases h with
  | nil => cases he
  | fz h1 h => simp at he; obtain ⟨rfl, rfl⟩ := he; cases h; simpa using OE.of_FE h1.cellsL
  | ow b cap ty c hk hb hs hl hm hc hnn h1 h => simp at he; obtain ⟨rfl, rfl⟩ := he; exact .ow b cap ty c hk hb hs hl hm hc hnn h1 h
  | ownil k hk h => simp at he; obtain ⟨rfl, rfl⟩ := he; exact .ownil k hk h
  | ref n off len hr h => simp at he; obtain ⟨rfl, rfl⟩ := he; exact .ref n off len hr h
  | ptr n i j hr h => simp at he; obtain ⟨rfl, rfl⟩ := he; exact .ptr n i j hr h
  | agg hl hk h => simp at he; obtain ⟨rfl, rfl⟩ := he; cases h; simpa [RV.cellsL] using hl
  | fn f hl h => simp at he; obtain ⟨rfl, rfl⟩ := he; exact .fn f hl h

theorem OE.of_cellsL {w F ρ k e cells fp} (h : OE w F ρ 1 e.cellsL cells fp) (hk : e.width = k) : OE w F ρ k [e] cells fp := by
  cases e with
  | agg l => have := OE.agg (es := []) h (by have := h.length; simp [RV.cellsL, RV.width] at this hk ⊢; omega) (.nil ρ k); simpa [RV.cellsL] using this
  | _ => simp [RV.width] at hk; subst hk; exact h

theorem OE.width {w F ρ k e cells fp} (h : OE w F ρ k [e] cells fp) : e.width = k := by
  have h1 := h.cellsL.length
  have h2 := h.length
  cases e <;> simp [RV.cellsL, RV.width] at h1 h2 ⊢ <;> omega

theorem OE.at {w F ρ k els cells fp i e} (h : OE w F ρ k els cells fp) (he : els[i]? = some e) :
    ∃ c1 ce c2 f1 fe f2, cells = c1 ++ (ce ++ c2) ∧ c1.length = i * k ∧ ce.length = k ∧ fp = f1 ++ (fe ++ f2) ∧ OE w F ρ k (els.take i) c1 f1 ∧ OE w F ρ k [e] ce fe ∧ OE w F ρ k (els.drop (i + 1)) c2 f2 := by
  obtain ⟨hlt, he'⟩ := List.getElem?_eq_some_iff.1 he
  have h' := h
  rw [← List.take_append_drop i els] at h'
  obtain ⟨c1, c2, f1, f2, rfl, rfl, hc, h1, h2⟩ := h'.split
  rw [List.drop_eq_getElem_cons hlt] at h2
  obtain ⟨d1, d2, g1, g2, rfl, rfl, hd, h3, h4⟩ := h2.cons_inv
  rw [he'] at h3
  rw [List.length_take, Nat.min_eq_left (by omega)] at hc
  exact ⟨c1, d1, d2, f1, g1, g2, rfl, hc, hd, rfl, h1, h3, h4⟩

def RV.plain : RV → Bool | .ow _ _ => false | .agg _ => false | .tup _ => false | _ => true

theorem OE.plain_fp {w F ρ c y fp} (h : OE w F ρ 1 [c] [y] fp) (hp : c.plain = true) : fp = [] := by
  cases hc : c with
  | agg l => simp [hc, RV.plain] at hp
  | fn f l => subst hc; exact (h.fn_inv).choose_spec.2.2
  | _ =>
    subst hc
    rcases h.single rfl with ⟨_, h3⟩ | ⟨_, _, _, _, _, _, _, e, _⟩ | ⟨_, _, _, e, _, h3, _⟩ | ⟨_, _, _, e, _, h3, _⟩ | ⟨_, e, _, h3, _⟩
    all_goals first | exact h3 | (cases e; simp [RV.plain] at hp) | cases e

theorem OE.plain_fpL {w F ρ l cs fp} (h : OE w F ρ 1 l cs fp) (hp : l.all RV.plain = true) : fp = [] := by
  induction l generalizing cs fp with
  | nil => cases h; rfl
  | cons e es ih =>
    obtain ⟨c1, c2, f1, f2, rfl, rfl, hc, h1, h2⟩ := h.cons_inv
    simp only [List.all_cons, Bool.and_eq_true] at hp
    match c1, hc with
    | [y], _ => rw [h1.plain_fp hp.1, ih h2 hp.2]; rfl

theorem SV.of_plain {w F ρ c y} (h : OE w F ρ 1 [c] [y] []) (hp : c.plain = true) : SV w F ρ c y [] := by
  refine .one (.cell ?_ h)
  cases c <;> simp [RV.plain, RV.isAgg] at hp ⊢

def RV.stores : RV → Bool | .fn _ _ => true | .sh _ => true | .ref _ _ _ => true | .ptr _ _ _ => true | .psh _ => true | .v x => x.oneCell' | _ => false

theorem SV.to_cell {w F ρ c y} (h : SV w F ρ c y []) (hp : c.stores = true) : OE w F ρ 1 [c] [y] [] ∧ y.oneCell' = true := by
  cases c with
  | v x => have := h.exact; subst this; exact ⟨OE.of_FE (.v _ hp (.nil _)), hp⟩
  | fn f l =>
    cases h with
    | one h =>
      cases h with
      | cell _ h => obtain ⟨c, rfl, _⟩ := h.fn_inv; exact ⟨h, mkF_one _ _⟩
      | @fn _ _ c _ h => exact ⟨by simpa using OE.fn f h (.nil _ _), mkF_one _ _⟩
  | sh els => have h1 := h.cell rfl (by simp) (by simp) (by simp) (by simp); refine ⟨h1, ?_⟩; rcases h.sh_inv with ⟨_, ⟨_, _, _, rfl⟩ | ⟨_, _, _, _, rfl, _⟩⟩ <;> rfl
  | psh els => have h1 := h.cell rfl (by simp) (by simp) (by simp) (by simp); refine ⟨h1, ?_⟩; rcases h.psh_inv with ⟨_, _, _, _, rfl, _⟩; rfl
  | ref n off len => have h1 := h.cell rfl (by simp) (by simp) (by simp) (by simp); refine ⟨h1, ?_⟩; rw [h.ref_inv]; rfl
  | ptr n i j => have h1 := h.cell rfl (by simp) (by simp) (by simp) (by simp); refine ⟨h1, ?_⟩; rw [h.ptr_inv]; rfl
  | _ => simp [RV.stores] at hp

/-! The blocks, one in front. -/

theorem RelX.perm {E s a w F ρ fp O' fp'} (h : RelX E s a w F ρ fp) (hO : OL w F ρ O' fp') (hp : fp.Perm fp') : RelX E ⟨s.fr, O'⟩ a w F ρ fp' :=
  { h with O := hO, nodup := hp.nodup_iff.1 h.nodup, fpF := fun b hb => h.fpF b (hp.mem_iff.2 hb), fpE := fun b hb => h.fpE b (hp.mem_iff.2 hb) }

theorem RelX.front {E s a w F ρ fp n k els} (h : RelX E s a w F ρ fp) (ho : olook n s.O = some (k, els)) : ∃ fp', RelX E ⟨s.fr, (n, k, els) :: oerase n s.O⟩ a w F ρ fp' :=
  let ⟨_, h1, h2⟩ := h.O.pull ho
  ⟨_, h.perm h1 h2⟩
theorem RelX.back {E fr O a w F ρ fp n k els} (h : RelX E ⟨fr, (n, k, els) :: oerase n O⟩ a w F ρ fp) (ho : olook n O = some (k, els)) : ∃ fp', RelX E ⟨fr, O⟩ a w F ρ fp' :=
  let ⟨_, h1, h2⟩ := h.O.push ho
  ⟨_, h.perm h1 h2⟩

theorem OL.head {w F ρ n k els O fp} (h : OL w F ρ ((n, k, els) :: O) fp) (hne : els ≠ []) (hpos : (ρ n).2.1 ≠ 0) : ∃ b ty c fp1 fp2, 0 < k ∧ (ρ n).2.1 = k ∧ (ρ n).1 = some b ∧ w.heap[b]? = some (.cells c ty (0, 0)) ∧ c.size = (ρ n).2.2 * k ∧
    els.length ≤ (ρ n).2.2 ∧ (ρ n).2.2 ≤ maxLen ∧ OE w F ρ k els (c.toList.take (els.length * k)) fp1 ∧ OL w F ρ O fp2 ∧ fp = b :: (fp1 ++ fp2) := by
  cases h with
  | nilb => exact absurd rfl hne
  | cons hk hρ hρb hb hs hl hm hc he h => subst hc; exact ⟨_, _, _, _, _, hk, hρ, hρb, hb, hs, hl, hm, he, h, rfl⟩
  | map hρ => exact absurd hρ hpos

theorem OL.pos_of {w F ρ n k els O fp} (h : OL w F ρ ((n, k, els) :: O) fp) (hk : k ≠ 0) : (ρ n).2.1 ≠ 0 := by
  cases h with
  | nilb h0 hρ => rw [hρ]; exact hk
  | cons h0 hρ => rw [hρ]; exact hk
  | map => exact absurd rfl hk
section
variable {P : Program} {s : St} {d : Option Tmp} {ty : TypeId} {pos : String} {after : Array Edge} {g : Option (Nat × Bool)}

theorem ops_load_psh {x t e} (hx : s.get x = .psh e) (hp : e.plain = true) (ht : scalarT P t = true) : OpS P ⟨d, .load t x, ty, pos, after, g⟩ s ⟨sput d e s.fr, s.O⟩ :=
  ops_val fun _ a w F ρ fp hr => by
    have h1 := hr.get x
    rw [hx] at h1
    obtain ⟨_, a', k, cells, h2, hk, hF, hc, hf⟩ := h1.psh_inv
    have hw := hf.width
    have h1' : k = 1 := by cases e <;> simp [RV.plain, RV.width] at hp hw <;> omega
    subst h1'
    have hl := hf.length
    match cells, hl with
    | [y], _ =>
      have hcell : w.cell? a' = some y := by have := hc 0 y rfl; simpa [Addr.add] using this
      refine ⟨y, ?_, SV.of_plain (OE.of_FE hf) hp⟩
      simp [execOp, Instr.loadAt, Instr.sureAddr, h2, run_load_s ht hcell]

theorem ops_load_psha {x t l} (hx : s.get x = .psh (.agg l)) (ht : aggT P t = true) (hs : P.cellsOf t = l.length) (h0 : 0 < l.length) : OpS P ⟨d, .load t x, ty, pos, after, g⟩ s ⟨sput d (.agg l) s.fr, s.O⟩ :=
  ops_val fun _ a w F ρ fp hr => by
    have h1 := hr.get x
    rw [hx] at h1
    obtain ⟨_, a', k, cells, h2, hk, hF, hc, hf⟩ := h1.psh_inv
    have h3 := hf.cellsL
    have hl := h3.length
    simp only [RV.cellsL, Nat.mul_one] at h3 hl
    refine ⟨.agg cells.toArray, ?_, .one (.agg (by simpa using OE.of_FE h3))⟩
    simp [execOp, Instr.loadAt, Instr.sureAddr, h2, run_load_a ht (hs.trans hl.symm) (by omega) hc]

def fldOk (P : Program) (t : TypeId) (f off : Nat) : Bool := match P.underlying t with
  | some (.struct fs) => match fs[f]? with
    | some x => x.offset == off && P.cellsOf x.type == 1
    | none => false
  | _ => false

theorem run_fieldAt {P : Program} {t : TypeId} {f off : Nat} (h : fldOk P t f off = true) (a : Addr) (w : World) : (Instr.fieldAt t (.pointer (some a)) f).run P w = .ok (.pointer (some (a.add off))) w := by
  unfold fldOk at h
  split at h
  · rename_i fs hfs
    split at h
    · rename_i x hx
      simp only [Bool.and_eq_true, beq_iff_eq] at h
      simp [Instr.fieldAt, run_underlying hfs, hx, Instr.sureAddr, fieldPlace, run_sizeOf h.2, h.1]
    · cases h
  · cases h

theorem CellsAt.one {w : World} {a : Addr} {cs : List Value} {j : Nat} {y : Value} (h : CellsAt w a cs) (hj : cs[j]? = some y) : CellsAt w (a.add j) [y] := by
  intro i z hi
  match i, hi with
  | 0, hi => simp at hi; subst hi; rw [Addr.add_add]; exact h j y hj

theorem FE.cell {w F} {l : List RV} {cs : List Value} {j : Nat} {c : RV} (h : FE w F 1 l cs) (hj : l[j]? = some c) : ∃ y, cs[j]? = some y ∧ FE w F 1 [c] [y] := by
  obtain ⟨hlt, e⟩ := List.getElem?_eq_some_iff.1 hj
  have h1 := h.at j hlt
  have hl := h.length
  rw [e, Nat.mul_one] at h1
  have h2 : j < cs.length := by omega
  refine ⟨cs[j], List.getElem?_eq_getElem h2, ?_⟩
  rw [List.drop_eq_getElem_cons h2, List.take_succ_cons, List.take_zero] at h1
  exact h1

theorem ops_fld_psh {x t f off l c} (hx : s.get x = .psh (.agg l)) (hf : fldOk P t f off = true) (hc : l[off]? = some c) : OpS P ⟨d, .fieldAddr t x f, ty, pos, after, g⟩ s ⟨sput d (.psh c) s.fr, s.O⟩ :=
  ops_val fun _ a w F ρ fp hr => by
    have h1 := hr.get x
    rw [hx] at h1
    obtain ⟨_, a', k, cells, h2, hk, hF, hcc, hfe⟩ := h1.psh_inv
    have h3 := hfe.cellsL
    simp only [RV.cellsL] at h3
    obtain ⟨y, hy, h4⟩ := h3.cell hc
    refine ⟨.pointer (some (a'.add off)), by simp [execOp, h2, run_fieldAt hf], ?_⟩
    have hb : (a'.add off).block = a'.block := by unfold Addr.add; split <;> rfl
    exact .one (.cell rfl (OE.of_FE (.psh _ 1 (by omega) (by rw [hb]; exact hF) (hcc.one hy) h4 (.nil _))))

theorem ops_fld_ptr {x t f off n i} (hx : s.get x = .ptr n i 0) (hf : fldOk P t f off = true) {k els} (ho : olook n s.O = some (k, els)) (hi : i < els.length) : OpS P ⟨d, .fieldAddr t x f, ty, pos, after, g⟩ s ⟨sput d (.ptr n i off) s.fr, s.O⟩ :=
  ops_val fun _ a w F ρ fp hr => by
    have h1 := hr.get x
    rw [hx] at h1
    obtain ⟨fp', hr'⟩ := hr.front ho
    obtain ⟨b, _, _, _, _, _, hk, hb, _⟩ := hr'.O.head (by intro e; simp [e] at hi) h1.ptr_pos
    have h2 := h1.ptr_inv
    simp only [hb, Option.map_some, Nat.add_zero] at h2
    refine ⟨.pointer (some ⟨b, i * (ρ n).2.1 + off, none⟩), by simp [execOp, h2, run_fieldAt hf, Addr.add_lit], ?_⟩
    have := OE.ptr (w := w) (F := F) (ρ := ρ) n i off h1.ptr_pos (.nil _ _)
    simp only [hb, Option.map_some] at this
    exact .one (.cell rfl this)

theorem ops_idx_ref {x ix c n off len k i} (hx : s.get x = .ref n off len) (hi : s.get ix = .v (.int k (i : Nat))) (hl : i < len) {kk els} (ho : olook n s.O = some (kk, els)) (hne : els ≠ []) (ht : P.underlying c = some (.slice (P.elem c))) (hw : P.cellsOf (P.elem c) = kk) :
    OpS P ⟨d, .indexAddr c x ix, ty, pos, after, g⟩ s ⟨sput d (.ptr n (off + i) 0) s.fr, s.O⟩ :=
  ops_val fun _ a w F ρ fp hr => by
    have h1 := hr.get x
    rw [hx] at h1
    obtain ⟨fp', hr'⟩ := hr.front ho
    obtain ⟨b, _, _, _, _, hk, hkk, hb, _⟩ := hr'.O.head hne h1.ref_pos
    have h2 := h1.ref_inv
    simp only [hb, Option.map_some] at h2
    have h5 := run_sizeOf (P := P) (e := P.elem c) (k := kk) hw hk w
    refine ⟨.pointer (some ⟨b, (off + i) * (ρ n).2.1 + 0, none⟩), ?_, ?_⟩
    · simp only [execOp, h2, hr.ex hi, Sem.run_bind, run_indexAt_slice _ _ _ _ _ _ _ ht]
      rw [if_pos (by omega)]
      simp [h5, Addr.add_lit, hkk, Nat.add_mul]
    · have := OE.ptr (w := w) (F := F) (ρ := ρ) n (off + i) 0 h1.ref_pos (.nil _ _)
      simp only [hb, Option.map_some] at this
      exact .one (.cell rfl this)

theorem OL.cell {w F ρ n k els O fp i j e c} (h : OL w F ρ ((n, k, els) :: O) fp) (he : els[i]? = some e) (hc : e.cellsL[j]? = some c) (hpos : (ρ n).2.1 ≠ 0) :
    ∃ b y fc, (ρ n).1 = some b ∧ (ρ n).2.1 = k ∧ w.cell? ⟨b, i * k + j, none⟩ = some y ∧ OE w F ρ 1 [c] [y] fc := by
  obtain ⟨b, ty, cc, fp1, fp2, hk, hρ, hρb, hb, hs, hl, hm, hE, _, _⟩ := h.head (by rintro rfl; simp at he) hpos
  obtain ⟨c1, ce, c2, f1, fe, f2, hcs, hc1, hce, _, _, h2, _⟩ := hE.at he
  have h3 := h2.cellsL
  obtain ⟨d1, de, d2, _, fd, _, hds, hd1, hde, _, _, h4, _⟩ := h3.at hc
  match de, hde with
  | [y], _ =>
    refine ⟨b, y, fd, hρb, hρ, ?_, h4⟩
    have hidx : (cc.toList.take (els.length * k))[i * k + j]? = some y := by
      rw [hcs, hds, List.getElem?_append_right (by omega), hc1]
      rw [show i * k + j - i * k = j by omega, List.append_assoc, List.getElem?_append_right (by omega)]
      simp [show j - d1.length = 0 by omega]
    rw [cell_of_row w b _ cc ty _ hb]
    rw [List.getElem?_take] at hidx
    split at hidx
    · simpa using hidx
    · cases hidx

theorem ops_load_ptr {x t n i j k els e c} (hx : s.get x = .ptr n i j) (ho : olook n s.O = some (k, els)) (he : els[i]? = some e) (hc : e.cellsL[j]? = some c) (hp : c.plain = true) (ht : scalarT P t = true) :
    OpS P ⟨d, .load t x, ty, pos, after, g⟩ s ⟨sput d c s.fr, s.O⟩ :=
  ops_val fun _ a w F ρ fp hr => by
    have h1 := hr.get x
    rw [hx] at h1
    obtain ⟨fp', hr'⟩ := hr.front ho
    obtain ⟨b, y, fc, hb, hk, hcell, hO⟩ := hr'.O.cell he hc h1.ptr_pos
    have h2 := h1.ptr_inv
    simp only [hb, Option.map_some, hk] at h2
    refine ⟨y, by simp [execOp, Instr.loadAt, Instr.sureAddr, h2, run_load_s ht hcell], ?_⟩
    have := hO.plain_fp hp
    subst this
    exact SV.of_plain hO hp

theorem ops_load_ptra {x t n i k els l} (hx : s.get x = .ptr n i 0) (ho : olook n s.O = some (k, els)) (he : els[i]? = some (.agg l)) (hp : l.all RV.plain = true) (ht : aggT P t = true) (hs : P.cellsOf t = l.length) :
    OpS P ⟨d, .load t x, ty, pos, after, g⟩ s ⟨sput d (.agg l) s.fr, s.O⟩ :=
  ops_val fun _ a w F ρ fp hr => by
    have h1 := hr.get x
    rw [hx] at h1
    obtain ⟨fp', hr'⟩ := hr.front ho
    obtain ⟨b, ty, cc, fp1, fp2, hk, hρ, hρb, hb, hs', hl, hm, hE, _, _⟩ := hr'.O.head (by rintro rfl; simp at he) h1.ptr_pos
    obtain ⟨c1, ce, c2, f1, fe, f2, hcs, hc1, hce, _, _, h4, _⟩ := hE.at he
    have h5 := h4.cellsL
    simp only [RV.cellsL] at h5
    have hfe := h5.plain_fpL hp
    subst hfe
    have hlen := h5.length
    have h2 := h1.ptr_inv
    simp only [hρb, Option.map_some, hρ, Nat.add_zero] at h2
    have hcells : CellsAt w ⟨b, i * k, none⟩ ce := by
      intro j y hj
      rw [Addr.add_lit, cell_of_row w b _ cc _ _ hb]
      have hj' : j < ce.length := (List.getElem?_eq_some_iff.1 hj).1
      have : (cc.toList.take (els.length * k))[i * k + j]? = some y := by
        rw [hcs, List.getElem?_append_right (by omega), hc1, show i * k + j - i * k = j by omega, List.getElem?_append_left hj']
        exact hj
      rw [List.getElem?_take] at this
      split at this
      · simpa using this
      · cases this
    refine ⟨.agg ce.toArray, ?_, .one (.agg (by simpa using h5))⟩
    simp [execOp, Instr.loadAt, Instr.sureAddr, h2, run_load_a ht (hs.trans (by omega)) (by omega) hcells]

end
end Eng
end Go.Proofs.YtmfbcipjknjicaaGreatDoor

/- The engine, part F: named blocks are made, written, lengthened. No condition. -/
namespace Go.Proofs.YtmfbcipjknjicaaGreatDoor
set_option linter.unusedSectionVars false
variable [One Bool]
namespace Eng
open Go.RowKit

theorem S1.places {w F ρ ρ' e y fp} (h : S1 w F ρ e y fp) (hn : ∀ n ∈ e.names, ρ' n = ρ n) : S1 w F ρ' e y fp := by
  cases h with
  | any => exact .any _
  | v => exact .v _
  | cell ha h => exact .cell ha (h.places fun n hx => hn n (by simpa [RV.namesL] using hx))
  | agg h => exact .agg (h.places fun n hx => hn n (by simpa [RV.names] using hx))
  | fn h => exact .fn (h.places fun n hx => hn n (by simpa [RV.names] using hx))
theorem SL.places {w F ρ ρ' es ys fp} (h : SL w F ρ es ys fp) (hn : ∀ n ∈ RV.namesL es, ρ' n = ρ n) : SL w F ρ' es ys fp := by
  induction h with
  | nil => exact .nil
  | cons h1 _ ih => exact .cons (h1.places fun n hx => hn n (by simp [RV.namesL, hx])) (ih fun n hx => hn n (by simp [RV.namesL, hx]))
theorem SV.places {w F ρ ρ' e y fp} (h : SV w F ρ e y fp) (hn : ∀ n ∈ e.names, ρ' n = ρ n) : SV w F ρ' e y fp := by
  cases h with
  | one h => exact .one (h.places hn)
  | tup h => exact .tup (h.places fun n hx => hn n (by simpa [RV.names] using hx))
theorem names_lget (l : List RV) (i n : Nat) (h : n ∈ (lget l i).names) : n ∈ RV.namesL l := by
  induction l generalizing i with
  | nil => simp [lget, RV.names] at h
  | cons x xs ih => cases i with
    | zero => simp [RV.namesL]; exact .inl h
    | succ i => simp [RV.namesL]; exact .inr (ih i h)

theorem SV.agg_inv {w F ρ l y fp} (h : SV w F ρ (.agg l) y fp) : ∃ c, y = .agg c ∧ OE w F ρ 1 l c.toList fp := by
  cases h with
  | one h => cases h with
    | cell ha => simp [RV.isAgg] at ha
    | agg h => exact ⟨_, rfl, h⟩

theorem RelX.alloc {E s a w F ρ fp} (h : RelX E s a w F ρ fp) (dn k : Nat) (els : List RV) (ty : TypeId) (c : Array Value) (hk : 0 < k) (hs : c.size = els.length * k) (hl : els.length ≤ maxLen) (he : OE w F ρ k els c.toList [])
    (hd : dn < 1000000000000 ∧ dn ∉ RV.namesL s.fr) (hO : dn ∉ onames s.O) (hn : dn ∉ RV.namesL els) :
    ∃ ρ', ρ' dn = (some w.heap.size, k, els.length) ∧ RelX E ⟨s.fr, (dn, k, els) :: s.O⟩ a (w.alloc (.cells c ty)) F ρ' (w.heap.size :: fp) := by
  refine ⟨fun m => if m = dn then (some w.heap.size, k, els.length) else ρ m, by simp, ?_⟩
  have hne : ∀ m, m ≠ dn → (if m = dn then (some w.heap.size, k, els.length) else ρ m) = ρ m := fun m hm => by simp [hm]
  have hw := h.world (w' := w.alloc (.cells c ty)) (F' := F) (fun _ hx => hx) (fun b hx => ⟨.inl hx, by have := h.Fs b hx; simp; omega⟩) (fun b hb => _root_.Go.heap_alloc_old w _ hb) (by simp) rfl ⟨rfl, .inl (by first | exact Nat.le_refl _ | exact Nat.le_succ _)⟩ rfl
  refine ⟨hw.defers, hw.size, fun i => (hw.fr i).places fun m hm => hne m (fun e => hd.2 (e ▸ names_lget _ _ _ hm)), ?_, ?_, ?_, ?_, hw.F0, hw.Fn, hw.Fs, hw.keep, hw.hsize, hw.os, hw.tape, hw.output, fun n hn => (hne n (fun e => by have := hd.1; omega)).trans (hw.pin n hn)⟩
  · have hE : OE (w.alloc (.cells c ty)) F (fun m => if m = dn then (some w.heap.size, k, els.length) else ρ m) k els c.toList [] :=
      (he.mono (fun b hb => ⟨hb, _root_.Go.heap_alloc_old w _ (h.Fs b hb)⟩) (by simp)).places fun m hm => hne m (fun e => hn (e ▸ hm))
    have hOL := hw.O.places (ρ' := fun m => if m = dn then (some w.heap.size, k, els.length) else ρ m) fun m hm => hne m (fun e => hO (e ▸ hm))
    have := OL.cons (n := dn) (b := w.heap.size) (k := k) (els := els) (ty := ty) (c := c) (cells := c.toList) (w := w.alloc (.cells c ty)) (F := F) (ρ := fun m => if m = dn then (some w.heap.size, k, els.length) else ρ m)
      hk (by simp) (by simp) (_root_.Go.heap_alloc_new w _) (by simp [hs]) (by simp) (by simpa using hl) (by rw [List.take_of_length_le]; simp [hs]) hE hOL
    simpa using this
  · refine List.nodup_cons.2 ⟨fun hx => ?_, h.nodup⟩
    have := h.O.lt _ hx
    omega
  · intro b hb
    rcases List.mem_cons.1 hb with rfl | hb
    · exact fun hx => absurd (h.Fs _ hx) (by omega)
    · exact h.fpF b hb
  · intro b hb
    rcases List.mem_cons.1 hb with rfl | hb
    · exact .inr h.hsize
    · exact h.fpE b hb

theorem SV.ptr_mk {w F} {ρ : Places} {n k cap b : Nat} (h : ρ n = (some b, k, cap)) (i j : Nat) (hk : k ≠ 0 := by omega) : SV w F ρ (.ptr n i j) (.pointer (some ⟨b, i * k + j, none⟩)) [] := by
  have := OE.ptr (w := w) (F := F) (ρ := ρ) n i j (by rw [h]; exact hk) (.nil _ _)
  simp only [h, Option.map_some] at this
  exact .one (.cell rfl this)
theorem SV.ref_mk {w F} {ρ : Places} {n k cap b : Nat} (h : ρ n = (some b, k, cap)) (off len : Nat) (hk : k ≠ 0 := by omega) : SV w F ρ (.ref n off len) (.slice (some ⟨b, off * k, none⟩) len (cap - off)) [] := by
  have := OE.ref (w := w) (F := F) (ρ := ρ) n off len (by rw [h]; exact hk) (.nil _ _)
  simp only [h, Option.map_some] at this
  exact .one (.cell rfl this)

theorem RelX.modify {E fr Or a w F ρ n k els els' b ty c' fp1 fp1' fpr w'} (h : RelX E ⟨fr, (n, k, els) :: Or⟩ a w F ρ (b :: (fp1 ++ fpr))) (hk : 0 < k) (hρ : (ρ n).2.1 = k) (hρb : (ρ n).1 = some b) (hm : (ρ n).2.2 ≤ maxLen) (hOr : OL w F ρ Or fpr)
    (hsz : w'.heap.size = w.heap.size) (hoth : ∀ j, j ≠ b → w'.heap[j]? = w.heap[j]?) (hb' : w'.heap[b]? = some (.cells c' ty (0, 0))) (hs' : c'.size = (ρ n).2.2 * k) (hl' : els'.length ≤ (ρ n).2.2)
    (he : OE w F ρ k els' (c'.toList.take (els'.length * k)) fp1') (hnd : (b :: (fp1' ++ fpr)).Nodup) (hF1 : ∀ x ∈ fp1', ¬ F x ∧ (E.B0 x ∨ E.w0.heap.size ≤ x)) (h1 : w'.os = w.os) (h2 : TW w' w) (h3 : w'.output = w.output) :
    RelX E ⟨fr, (n, k, els') :: Or⟩ a w' F ρ (b :: (fp1' ++ fpr)) := by
  have hbF : ¬ F b := h.fpF b (by simp)
  have hFb : ∀ x, F x → F x ∧ w'.heap[x]? = w.heap[x]? := fun x hx => ⟨hx, hoth x (fun e => hbF (e ▸ hx))⟩
  have hnd' := List.nodup_cons.1 hnd
  have hnb : ∀ x ∈ fp1' ++ fpr, x ≠ b := fun x hx e => hnd'.1 (e ▸ hx)
  refine ⟨h.defers, h.size, fun i => (h.fr i).mono hFb (by simp), ?_, hnd, ?_, ?_, h.F0, h.Fn, fun x hx => by rw [hsz]; exact h.Fs x hx, ?_, by rw [hsz]; exact h.hsize, h1.trans h.os, h2.trans h.tape, h3.trans h.output, h.pin⟩
  · exact .cons hk hρ hρb hb' hs' hl' hm rfl (he.mono hFb fun x hx => hoth x (hnb x (by simp [hx]))) (hOr.mono hFb fun x hx => hoth x (hnb x (by simp [hx])))
  · intro x hx
    simp only [List.mem_cons, List.mem_append] at hx
    rcases hx with rfl | hx | hx
    · exact hbF
    · exact (hF1 x hx).1
    · exact h.fpF x (by simp [hx])
  · intro x hx
    simp only [List.mem_cons, List.mem_append] at hx
    rcases hx with rfl | hx | hx
    · exact h.fpE x (by simp)
    · exact (hF1 x hx).2
    · exact h.fpE x (by simp [hx])
  · intro x hx hB
    rw [hoth x (fun e => ?_)]
    · exact h.keep x hx hB
    · subst e
      rcases h.fpE x (by simp) with h4 | h4
      · exact hB h4
      · omega

theorem RelX.renew {E fr Or a w F ρ n k els' ty c' fpo fp1' fpr} (h : RelX E ⟨fr, Or⟩ a w F ρ fpo) (hk : 0 < k) (hOr : OL w F ρ Or fpr) (cap : Nat) (hcap : cap ≤ maxLen) (hs' : c'.size = cap * k) (hl' : els'.length ≤ cap)
    (he : OE w F ρ k els' (c'.toList.take (els'.length * k)) fp1') (hnd : (fp1' ++ fpr).Nodup) (hF1 : ∀ x ∈ fp1' ++ fpr, ¬ F x ∧ (E.B0 x ∨ E.w0.heap.size ≤ x)) (hn1 : n < 1000000000000 ∧ n ∉ RV.namesL els') (hn2 : n ∉ onames Or) :
    ∃ ρ', ρ' n = (some w.heap.size, k, cap) ∧ RelX E ⟨RV.killL n fr, (n, k, els') :: Or⟩ a (w.drew.alloc (.cells c' ty)) F ρ' (w.heap.size :: (fp1' ++ fpr)) := by
  refine ⟨fun m => if m = n then (some w.heap.size, k, cap) else ρ m, by simp, ?_⟩
  have hne : ∀ m, m ≠ n → (if m = n then (some w.heap.size, k, cap) else ρ m) = ρ m := fun m hm => by simp [hm]
  have hold : ∀ b, b < w.heap.size → (w.drew.alloc (.cells c' ty)).heap[b]? = w.heap[b]? := fun b hb => _root_.Go.heap_alloc_old w.drew _ hb
  have hw := h.world (w' := w.drew.alloc (.cells c' ty)) (F' := F) (fun _ hx => hx) (fun b hx => ⟨.inl hx, by have := h.Fs b hx; simp; omega⟩) hold (by simp) rfl ⟨rfl, .inl (by first | exact Nat.le_refl _ | exact Nat.le_succ _)⟩ rfl
  have hFb : ∀ x, F x → F x ∧ (w.drew.alloc (.cells c' ty)).heap[x]? = w.heap[x]? := fun x hx => ⟨hx, hold x (h.Fs x hx)⟩
  refine ⟨hw.defers, by simpa using hw.size, fun i => ?_, ?_, ?_, ?_, ?_, hw.F0, hw.Fn, hw.Fs, hw.keep, hw.hsize, hw.os, hw.tape, hw.output, fun m hm => (hne m (fun e => by have := hn1.1; omega)).trans (hw.pin m hm)⟩
  · show SV _ _ _ (lget (RV.killL n fr) i) _ _
    rw [lget_killL]
    exact (hw.fr i).kill n hne
  · have hE := (he.mono hFb fun x hx => hold x (he.lt x hx)).places (ρ' := fun m => if m = n then (some w.heap.size, k, cap) else ρ m) fun m hm => hne m (fun e => hn1.2 (e ▸ hm))
    have hOL := (hOr.mono hFb fun x hx => hold x (hOr.lt x hx)).places (ρ' := fun m => if m = n then (some w.heap.size, k, cap) else ρ m) fun m hm => hne m (fun e => hn2 (e ▸ hm))
    exact .cons hk (by simp) (by simp) (_root_.Go.heap_alloc_new w.drew _) (by simp [hs']) (by simpa using hl') (by simpa using hcap) rfl hE hOL
  · refine List.nodup_cons.2 ⟨fun hx => ?_, hnd⟩
    have h5 : ∀ x ∈ fp1' ++ fpr, x < w.heap.size := fun x hx => by
      rcases List.mem_append.1 hx with hx | hx
      · exact he.lt x hx
      · exact hOr.lt x hx
    have := h5 _ hx
    omega
  · intro x hx
    rcases List.mem_cons.1 hx with rfl | hx
    · exact fun hx => absurd (h.Fs _ hx) (by omega)
    · exact (hF1 x hx).1
  · intro x hx
    rcases List.mem_cons.1 hx with rfl | hx
    · exact .inr h.hsize
    · exact (hF1 x hx).2

theorem RelX.weakO {E s a w F ρ fp O' fp'} (h : RelX E s a w F ρ fp) (hO : OL w F ρ O' fp') (hn : fp'.Nodup) (hs : ∀ b ∈ fp', b ∈ fp) : RelX E ⟨s.fr, O'⟩ a w F ρ fp' :=
  { h with O := hO, nodup := hn, fpF := fun b hb => h.fpF b (hs b hb), fpE := fun b hb => h.fpE b (hs b hb) }

section
variable {P : Program} {s : St} {d : Tmp} {ty : TypeId} {pos : String} {after : Array Edge} {g : Option (Nat × Bool)}

theorem ops_of {o : Oper} {s' : St} (h : ∀ E a w F ρ fp, RelX E s a w F ρ fp → ∃ y w', (execOp a.eval o).run P w = .ok (.value y) w' ∧ Rel E s' (a.put o.dst y) w') : OpS P o s s' := by
  rintro E a w ⟨F, ρ, fp, hr⟩ K Q hK
  obtain ⟨y, w', h1, h2⟩ := h E a w F ρ fp hr
  simp only [Oper.wp, h1, Oper.upon_value]
  exact hK _ _ h2
theorem ops_of_skip {o : Oper} {s' : St} (h : ∀ E a w F ρ fp, RelX E s a w F ρ fp → ∃ w', (execOp a.eval o).run P w = .ok .skip w' ∧ Rel E s' (a.put o.dst undef) w') : OpS P o s s' := by
  rintro E a w ⟨F, ρ, fp, hr⟩ K Q hK
  obtain ⟨w', h1, h2⟩ := h E a w F ρ fp hr
  simp only [Oper.wp, h1, Oper.upon_skip]
  exact hK _ _ h2

theorem ops_box {x t r} (hx : s.get x = r) (hst : r.stores = true) (hd : d < 1000000000000 ∧ d ∉ RV.namesL s.fr) (hO : d ∉ onames s.O) (hn : d ∉ r.names) : OpS P ⟨some d, .box t x, ty, pos, after, g⟩ s ⟨lset s.fr d (.ptr d 0 0), (d, 1, [r]) :: s.O⟩ :=
  ops_of fun E a w F ρ fp hr => by
    have h1 := hr.get x
    rw [hx] at h1
    obtain ⟨h2, h3⟩ := h1.to_cell hst
    obtain ⟨ρ', h4, h5⟩ := hr.alloc d 1 [r] t #[a.eval x] (by omega) (by simp) (by simp [maxLen]) h2 hd hO (by simpa [RV.namesL] using hn)
    have hcells : (a.eval x).cells = #[a.eval x] := by cases hy : a.eval x <;> simp [hy, Value.oneCell', Value.cells] at h3 ⊢
    refine ⟨.pointer (some ⟨w.heap.size, 0, none⟩), w.alloc (.cells #[a.eval x] t), ?_, _, _, _, h5.put (some d) (SV.ptr_mk h4 0 0)⟩
    simp [execOp, Instr.box, newVar, newRow, hcells]

theorem ops_boxa {x t l} (hx : s.get x = .agg l) (h0 : 0 < l.length) (hd : d < 1000000000000 ∧ d ∉ RV.namesL s.fr) (hO : d ∉ onames s.O) (hn : d ∉ RV.namesL l) : OpS P ⟨some d, .box t x, ty, pos, after, g⟩ s ⟨lset s.fr d (.ptr d 0 0), (d, l.length, [.agg l]) :: s.O⟩ :=
  ops_of fun E a w F ρ fp hr => by
    have h1 := hr.get x
    rw [hx] at h1
    obtain ⟨c, h2, h3⟩ := h1.agg_inv
    have hl := h3.length
    have h3' : OE w F ρ l.length [.agg l] c.toList [] := OE.of_cellsL (e := .agg l) h3 rfl
    obtain ⟨ρ', h4, h5⟩ := hr.alloc d l.length [.agg l] t c h0 (by simpa using hl) (by simp [maxLen]) h3' hd hO (by simpa [RV.namesL, RV.names] using hn)
    refine ⟨.pointer (some ⟨w.heap.size, 0, none⟩), w.alloc (.cells c t), ?_, F, ρ', w.heap.size :: fp, ?_⟩
    · simp [execOp, Instr.box, newVar, newRow, h2, Value.cells]
    · have := h5.put (some d) (SV.ptr_mk h4 0 0); simpa [sput] using this

def zeroOf (P : Program) (t : TypeId) : Option Value := (P.info? t).bind (·.zero)
theorem run_zeroValue {P : Program} {t : TypeId} {z : Value} (h : zeroOf P t = some z) (w : World) : (zeroValue t).run P w = .ok z w := by
  unfold zeroOf at h
  cases hi : P.info? t with
  | none => simp [hi] at h
  | some i => simp [hi] at h; simp [zeroValue, typeInfo, hi, h]

theorem OE.vs {w F ρ} (zs : List Value) (h : ∀ z ∈ zs, z.oneCell' = true) : OE w F ρ 1 (zs.map .v) zs [] := by
  refine OE.of_FE ?_
  induction zs with
  | nil => exact .nil _
  | cons z zs ih => exact .v z (h z (by simp)) (ih fun y hy => h y (by simp [hy]))
theorem namesL_vs (zs : List Value) : RV.namesL (zs.map .v) = [] := by
  induction zs with
  | nil => simp [RV.namesL]
  | cons z zs ih => simp [RV.namesL, RV.names, ih]

theorem ops_alloc {t z} (hz : zeroOf P t = some z) (h1 : z.oneCell' = true) (hd : d < 1000000000000 ∧ d ∉ RV.namesL s.fr) (hO : d ∉ onames s.O) : OpS P ⟨some d, .alloc t, ty, pos, after, g⟩ s ⟨lset s.fr d (.ptr d 0 0), (d, 1, [.v z]) :: s.O⟩ :=
  ops_of fun E a w F ρ fp hr => by
    obtain ⟨ρ', h4, h5⟩ := hr.alloc d 1 [.v z] t #[z] (by omega) (by simp) (by simp [maxLen]) (OE.vs [z] (by simpa using h1)) hd hO (by simp [RV.namesL, RV.names])
    have hcells : z.cells = #[z] := by cases z <;> simp [Value.oneCell', Value.cells] at h1 ⊢
    refine ⟨.pointer (some ⟨w.heap.size, 0, none⟩), w.alloc (.cells #[z] t), ?_, _, _, _, h5.put (some d) (SV.ptr_mk h4 0 0)⟩
    simp [execOp, Instr.alloc, run_zeroValue hz, newVar, newRow, hcells]
theorem ops_alloca {t zs} (hz : zeroOf P t = some (.agg (List.toArray zs))) (h0 : 0 < zs.length) (h1 : zs.all Value.oneCell' = true) (hd : d < 1000000000000 ∧ d ∉ RV.namesL s.fr) (hO : d ∉ onames s.O) : OpS P ⟨some d, .alloc t, ty, pos, after, g⟩ s ⟨lset s.fr d (.ptr d 0 0), (d, zs.length, [.agg (zs.map .v)]) :: s.O⟩ :=
  ops_of fun E a w F ρ fp hr => by
    have h2 : OE w F ρ zs.length [.agg (zs.map .v)] zs [] := OE.of_cellsL (e := .agg (zs.map .v)) (OE.vs zs (by simpa using h1)) (by simp [RV.width])
    obtain ⟨ρ', h4, h5⟩ := hr.alloc d zs.length [.agg (zs.map .v)] t zs.toArray h0 (by simp) (by simp [maxLen]) (by simpa using h2) hd hO (by simp [RV.namesL, RV.names, namesL_vs])
    refine ⟨.pointer (some ⟨w.heap.size, 0, none⟩), w.alloc (.cells zs.toArray t), ?_, F, ρ', w.heap.size :: fp, ?_⟩
    · simp [execOp, Instr.alloc, run_zeroValue hz, newVar, newRow, Value.cells]
    · have := h5.put (some d) (SV.ptr_mk h4 0 0); simpa [sput] using this

end
end Eng
end Go.Proofs.YtmfbcipjknjicaaGreatDoor

/- The engine, part G: slices written out, made, written, lengthened. No condition. -/
namespace Go.Proofs.YtmfbcipjknjicaaGreatDoor
set_option linter.unusedSectionVars false
variable [One Bool]
namespace Eng
open Go.RowKit

theorem foldl_fill (l : List Value) : ∀ (off j : Nat) (A : Array Value), off + j + l.length ≤ A.size →
    ((l.zipIdx j).foldl (fun (B : Array Value) (p : Value × Nat) => B.setIfInBounds (off + p.2) p.1) A) = (A.toList.take (off + j) ++ l ++ A.toList.drop (off + j + l.length)).toArray := by
  induction l with
  | nil => intro off j A _; simp
  | cons v l ih =>
    intro off j A h
    simp only [List.length_cons] at h
    simp only [List.zipIdx_cons, List.foldl_cons]
    rw [ih off (j + 1) _ (by simp; omega)]
    apply Array.ext'
    have e := list_seg_step A.toList (off + j) v l (by simp; omega)
    simp only [Array.toList_setIfInBounds]
    rw [show off + (j + 1) = off + j + 1 by omega, e]
    simp [Nat.add_assoc]

theorem fill_all (k : Nat) : ∀ (parts : List Value) (m : Nat) (cells : Array Value), (∀ v ∈ parts, v.cells.size = k) → cells.size = (m + parts.length) * k →
    Instr.fill (fun i => some (i * k, k)) cells ((parts.zipIdx m).map fun p => (p.2, p.1)) = some (cells.toList.take (m * k) ++ parts.flatMap (fun v => v.cells.toList)).toArray := by
  intro parts
  induction parts with
  | nil => intro m cells _ hs; simp at hs; simp [Instr.fill, ← hs]; rw [List.take_of_length_le (by simp)]
  | cons v rest ih =>
    intro m cells hk hs
    simp only [List.length_cons] at hs
    have hv := hk v (by simp)
    have hs2 : cells.size = m * k + k + rest.length * k := by rw [hs, Nat.add_mul, Nat.add_mul]; omega
    simp only [List.zipIdx_cons, List.map_cons, Instr.fill]
    rw [if_neg (by simp [hv]; omega)]
    have e : (v.cells.zipIdx.foldl (fun cs (x : Value × Nat) => cs.setIfInBounds (m * k + x.2) x.1) cells) = (cells.toList.take (m * k) ++ v.cells.toList ++ cells.toList.drop (m * k + k)).toArray := by
      rw [← Array.foldl_toList, Array.toList_zipIdx]
      have := foldl_fill v.cells.toList (m * k) 0 cells (by simp [hv]; omega)
      simpa [hv] using this
    rw [show (v.cells.zipIdx.foldl (fun cs (x : Value × Nat) => match x with | (c, j) => cs.setIfInBounds (m * k + j) c) cells) = _ from e]
    have h2 : (cells.toList.take (m * k) ++ v.cells.toList).length = m * k + k := by simp [hv]; omega
    have h1 : (m + 1) * k = m * k + k := by rw [Nat.add_mul]; omega
    have h3 : (cells.toList.take (m * k) ++ v.cells.toList ++ cells.toList.drop (m * k + k)).toArray.size = (m + 1 + rest.length) * k := by
      rw [List.size_toArray, List.length_append, h2, List.length_drop, Array.length_toList, Nat.add_mul, h1]; omega
    rw [ih (m + 1) _ (fun x hx => hk x (by simp [hx])) h3]
    congr 2
    rw [h1, List.take_left' h2]
    simp

theorem SV.elem {w F ρ r y k} (h : SV w F ρ r y []) (hst : r.stores = true ∨ r.isAgg = true) (hw : r.width = k) : OE w F ρ k [r] y.cells.toList [] ∧ y.cells.size = k := by
  rcases hst with hst | hst
  · obtain ⟨h1, h2⟩ := h.to_cell hst
    have hk : k = 1 := by cases r <;> simp [RV.stores, RV.width] at hst hw <;> omega
    subst hk
    have hc : y.cells = #[y] := by cases y <;> simp [Value.oneCell', Value.cells] at h2 ⊢
    rw [hc]
    exact ⟨h1, rfl⟩
  · cases r <;> simp [RV.isAgg] at hst
    obtain ⟨c, rfl, h2⟩ := h.agg_inv
    have hl := h2.length
    refine ⟨OE.of_cellsL h2 hw, ?_⟩
    simp [RV.width] at hw
    simp [Value.cells] at hl ⊢
    omega

section
variable {P : Program} {s : St} {d : Tmp} {ty : TypeId} {pos : String} {after : Array Edge} {g : Option (Nat × Bool)}

theorem ops_buildSlice {t n} {parts : Array (Nat × Operand)} {els : List RV} {k : Nat} (hp : parts.toList.map Prod.fst = List.range n) (hels : parts.toList.map (fun p => s.get p.2) = els) (hst : els.all (fun r => (r.stores || r.isAgg) && r.width == k) = true) (hk : 0 < k) (hnk : n * k ≤ 16777216)
    (ht : P.underlying t = some (.slice (P.elem t))) (hw : P.cellsOf (P.elem t) = k) {z : Value} (hz : zeroOf P (P.elem t) = some z) (hd : d < 1000000000000 ∧ d ∉ RV.namesL s.fr) (hO : d ∉ onames s.O) (hn : d ∉ RV.namesL els) :
    OpS P ⟨some d, .buildSlice t n parts, ty, pos, after, g⟩ s ⟨lset s.fr d (.ref d 0 els.length), (d, k, els) :: s.O⟩ :=
  ops_of fun E a w F ρ fp hr => by
    have hlen : els.length = n := by rw [← hels, List.length_map, ← List.length_map (f := Prod.fst), hp]; simp
    have hys : ∀ (l : List (Nat × Operand)), (l.map (fun p => s.get p.2)).all (fun r => (r.stores || r.isAgg) && r.width == k) = true → OE w F ρ k (l.map fun p => s.get p.2) ((l.map fun p => a.eval p.2).flatMap fun v => v.cells.toList) [] ∧ ∀ v ∈ l.map (fun p => a.eval p.2), v.cells.size = k := by
      intro l
      induction l with
      | nil => intro _; exact ⟨.nil _ _, by simp⟩
      | cons p l ih =>
        intro hall
        simp only [List.map_cons, List.all_cons, Bool.and_eq_true, Bool.or_eq_true, beq_iff_eq] at hall
        obtain ⟨h1, h2⟩ := ih (by simpa using hall.2)
        obtain ⟨h3, h4⟩ := (hr.get p.2).elem hall.1.1 hall.1.2
        refine ⟨by simpa using OE.cons h3 h1, ?_⟩
        intro v hv
        rcases List.mem_cons.1 hv with rfl | hv
        · exact h4
        · exact h2 v hv
    obtain ⟨hE, hsz⟩ := hys parts.toList (by rw [hels]; exact hst)
    rw [hels] at hE
    have hfl := hE.length
    obtain ⟨ρ', h4, h5⟩ := hr.alloc d k els (P.elem t) ((parts.toList.map fun p => a.eval p.2).flatMap fun v => v.cells.toList).toArray hk (by simpa using hfl) (by rw [hlen]; simp only [maxLen]; have := Nat.le_mul_of_pos_right n hk; omega) (by simpa using hE) hd hO hn
    refine ⟨.slice (some ⟨w.heap.size, 0, none⟩) n n, w.alloc (.cells ((parts.toList.map fun p => a.eval p.2).flatMap fun v => v.cells.toList).toArray (P.elem t)), ?_, F, ρ', w.heap.size :: fp, ?_⟩
    rotate_left
    · have := h5.put (some d) (SV.ref_mk h4 0 els.length)
      simp only [Nat.zero_mul, Nat.sub_zero] at this
      rw [hlen] at this
      simpa [sput, hlen] using this
    · have hparts : (parts.map fun (i, x) => (i, a.eval x)).toList = ((parts.toList.map fun p => a.eval p.2).zipIdx 0).map fun p => (p.2, p.1) := by
        apply List.ext_getElem
        · simp
        · intro i h1 h2
          have h3 : i < parts.toList.length := by simpa using h1
          have h6 : (parts.toList.map Prod.fst)[i]'(by simpa using h3) = i := by simp [hp]
          simp only [List.getElem_map] at h6
          simp [List.getElem_zipIdx]
          simpa using h6
      have hf := fill_all k (parts.toList.map fun p => a.eval p.2) 0 ((Array.range (n * k)).map (z.cells[· % z.cells.size]!)) hsz (by
        have : parts.toList.length = n := by rw [← List.length_map (f := Prod.fst), hp]; simp
        simp only [Array.length_toList] at this
        simp [this])
      simp only [Nat.zero_mul, List.take_zero, List.nil_append] at hf
      have hnk' : ¬ (n * k > 2 ^ 24) := by omega
      by_cases h0 : n * k = 0
      · have hn0 : n = 0 := by rcases Nat.mul_eq_zero.1 h0 with h | h <;> omega
        subst hn0
        have hpn : parts.toList = [] := by have := congrArg List.length hp; simpa using this
        have hpa : parts = #[] := by apply Array.ext'; simpa using hpn
        subst hpa
        simp [execOp, Instr.buildSlice, run_underlying ht, run_sizeOf hw hk, Instr.fill, newRow, Array.range_zero']
      · simp only [execOp, Instr.buildSlice, Sem.run_bind, run_underlying ht, Result.andThen_ok, run_sizeOf hw hk, if_neg hnk', if_neg h0, run_zeroValue hz, Sem.run_pure, hparts]
        rw [hf]
        simp [newRow]

theorem madeCells_one {z : Value} (hz : z.oneCell' = true) (n : Nat) : madeCells z.cells (n * 1) = (List.replicate n z).toArray := by
  have hc : z.cells = #[z] := by cases z <;> simp [Value.oneCell', Value.cells] at hz ⊢
  apply Array.ext'
  apply List.ext_getElem
  · simp [madeCells]
  · intro i h1 h2
    simp [madeCells, hc, Nat.mod_one]

theorem OE.replicate {w F ρ k e ce} (h : FE w F k [e] ce) (n : Nat) : OE w F ρ k (List.replicate n e) (List.replicate n ce).flatten [] := by
  refine OE.of_FE ?_
  induction n with
  | zero => exact .nil _
  | succ n ih => rw [List.replicate_succ, List.replicate_succ, List.flatten_cons]; exact FE.cons h ih

theorem namesL_replicate (n : Nat) {e : RV} (h : e.names = []) : RV.namesL (List.replicate n e) = [] := by
  induction n with
  | zero => simp [RV.namesL]
  | succ n ih => simp [List.replicate_succ, RV.namesL, h, ih]

theorem ops_makeSlice {t l c} {kl kc : IntKind} {n : Nat} (hl : s.get l = .v (.int kl (n : Nat))) (hc : s.get c = .v (.int kc (n : Nat))) (ht : P.underlying t = some (.slice (P.elem t))) (hw : P.cellsOf (P.elem t) = 1) {z : Value} (hz : zeroOf P (P.elem t) = some z) (h1 : z.oneCell' = true)
    (hb : (P.info? (P.elem t)).map (fun i => decide (i.bytes ≤ 64)) = some true) (hn : n ≤ 1099511627776) (hd : d < 1000000000000 ∧ d ∉ RV.namesL s.fr) (hO : d ∉ onames s.O) :
    OpS P ⟨some d, .makeSlice t l c, ty, pos, after, g⟩ s ⟨lset s.fr d (.ref d 0 n), (d, 1, List.replicate n (.v z)) :: s.O⟩ :=
  ops_of fun E a w F ρ fp hr => by
    cases hi : P.info? (P.elem t) with
    | none => simp [hi] at hb
    | some i =>
      simp only [hi, Option.map_some, Option.some.injEq, decide_eq_true_eq] at hb
      have hz' : i.zero = some z := by simpa [zeroOf, hi] using hz
      have hw' : i.size = 1 := by simpa [Program.cellsOf, hi] using hw
      have hrun := run_make (P := P) w t (P.elem t) i z ht hi hz' kl kc n n (by omega) (by omega) (by
        have h2 : i.bytes * n ≤ 64 * n := Nat.mul_le_mul_right _ hb
        have h3 : ((i.bytes * n : Nat) : Int) ≤ 281474976710656 := by omega
        rwa [Int.natCast_mul] at h3) (by omega)
      simp only [Int.toNat_natCast, hw', madeCells_one h1] at hrun
      have hE : OE w F ρ 1 (List.replicate n (.v z)) (List.replicate n z) [] := by
        have := OE.replicate (w := w) (F := F) (ρ := ρ) (FE.v z h1 (.nil 1)) n
        have e : (List.replicate n [z]).flatten = List.replicate n z := by induction n with
          | zero => rfl
          | succ n ih => simp [List.replicate_succ]
        rwa [e] at this
      obtain ⟨ρ', h4, h5⟩ := hr.alloc d 1 (List.replicate n (.v z)) (P.elem t) (List.replicate n z).toArray (by omega) (by simp) (by simp [maxLen]; omega) (by simpa using hE) hd hO (by rw [namesL_replicate _ (by simp [RV.names])]; simp)
      refine ⟨.slice (some ⟨w.heap.size, 0, none⟩) n n, w.alloc (.cells (List.replicate n z).toArray (P.elem t)), ?_, F, ρ', w.heap.size :: fp, ?_⟩
      rotate_left
      · have := h5.put (some d) (SV.ref_mk h4 0 n)
        simpa [sput] using this
      · simp [execOp, hr.ex hl, hr.ex hc, hrun]

end
end Eng
end Go.Proofs.YtmfbcipjknjicaaGreatDoor

/- The engine, part H: stores, appends, cuts, struct values, results. No condition. -/
namespace Go.Proofs.YtmfbcipjknjicaaGreatDoor
set_option linter.unusedSectionVars false
variable [One Bool]
namespace Eng
open Go.RowKit

theorem RelX.setElem {E s a w F ρ fp n k els i e} (h : RelX E s a w F ρ fp) (ho : olook n s.O = some (k, els)) (he : els[i]? = some e) (hpos : (ρ n).2.1 ≠ 0) :
    ∃ b ty c ce fe, (ρ n).1 = some b ∧ (ρ n).2.1 = k ∧ 0 < k ∧ w.heap[b]? = some (.cells c ty (0, 0)) ∧ i * k + k ≤ c.size ∧ ce.length = k ∧ (∀ j y, ce[j]? = some y → c[i * k + j]? = some y) ∧ OE w F ρ k [e] ce fe ∧
      ∀ e' ce' fe', ce'.length = k → OE w F ρ k [e'] ce' fe' → fe'.Sublist fe →
        ∃ fp', RelX E ⟨s.fr, oset n (els.set i e') s.O⟩ a (w.setRow b (c.toList.take (i * k) ++ ce' ++ c.toList.drop (i * k + k)).toArray) F ρ fp' := by
  obtain ⟨fp', hr'⟩ := h.front ho
  have hlt : i < els.length := (List.getElem?_eq_some_iff.1 he).1
  obtain ⟨b, ty, c, fp1, fp2, hk, hρ, hρb, hb, hs, hl, hm, hE, hO2, rfl⟩ := hr'.O.head (by rintro rfl; simp at hlt) hpos
  obtain ⟨c1, ce, c2, f1, fe, f2, hcs, hc1, hce, rfl, hE1, hE2, hE3⟩ := hE.at he
  have hik : i * k + k ≤ els.length * k := by
    have := Nat.mul_le_mul_right k (show i + 1 ≤ els.length by omega)
    rw [Nat.add_mul] at this; omega
  have hcap : els.length * k ≤ c.size := by rw [hs]; exact Nat.mul_le_mul_right _ hl
  refine ⟨b, ty, c, ce, fe, hρb, hρ, hk, hb, by omega, hce, ?_, hE2, ?_⟩
  · intro j y hj
    have hj' : j < ce.length := (List.getElem?_eq_some_iff.1 hj).1
    have : (c.toList.take (els.length * k))[i * k + j]? = some y := by
      rw [hcs, List.getElem?_append_right (by omega), hc1, show i * k + j - i * k = j by omega, List.getElem?_append_left hj']
      exact hj
    rw [List.getElem?_take] at this
    split at this
    · simpa using this
    · cases this
  · intro e' ce' fe' hce' hE' hsub
    have htake : (c.toList.take (i * k) ++ ce' ++ c.toList.drop (i * k + k)).take (els.length * k) = c1 ++ (ce' ++ c2) := by
      have h1 : c.toList.take (i * k) = c1 := by
        have := congrArg (List.take (i * k)) hcs
        rw [List.take_take, Nat.min_eq_left (by omega), List.take_left' hc1] at this
        exact this
      have h2 : (c.toList.drop (i * k + k)).take (els.length * k - (i * k + k)) = c2 := by
        have := congrArg (List.drop (i * k + k)) hcs
        rw [List.drop_take, ← List.append_assoc, List.drop_left' (by simp [hc1, hce])] at this
        exact this
      rw [h1, List.take_append, List.take_of_length_le (by simp [hc1, hce']; omega)]
      rw [show els.length * k - (c1 ++ ce').length = els.length * k - (i * k + k) by simp [hc1, hce'], h2, List.append_assoc]
    have hset : els.set i e' = els.take i ++ ([e'] ++ els.drop (i + 1)) := by
      rw [List.set_eq_take_append_cons_drop, if_pos hlt]; rfl
    have hEn : OE w F ρ k (els.set i e') (c1 ++ (ce' ++ c2)) (f1 ++ (fe' ++ f2)) := by
      rw [hset]; exact hE1.append (hE'.append hE3)
    have hsubl : (b :: ((f1 ++ (fe' ++ f2)) ++ fp2)).Sublist (b :: ((f1 ++ (fe ++ f2)) ++ fp2)) := by
      refine List.Sublist.cons_cons _ (List.Sublist.append ?_ (List.Sublist.refl _))
      exact (List.Sublist.refl _).append (hsub.append (List.Sublist.refl _))
    have hsz : (c.toList.take (i * k) ++ ce' ++ c.toList.drop (i * k + k)).toArray.size = c.size := by simp [hce']; omega
    have hfin := hr'.modify (els' := els.set i e') (ty := ty) (c' := (c.toList.take (i * k) ++ ce' ++ c.toList.drop (i * k + k)).toArray) (fp1' := f1 ++ (fe' ++ f2))
      (w' := w.setRow b (c.toList.take (i * k) ++ ce' ++ c.toList.drop (i * k + k)).toArray) hk hρ hρb hm hO2 (by simp) (fun j hj => setRow_other w b j _ hj) (setRow_heap w b c _ ty _ hb) (by rw [hsz, hs]) (by simpa using hl)
      (by rw [List.length_set]; rw [htake]; exact hEn) (hr'.nodup.sublist hsubl)
      (fun x hx => by
        have hmem : x ∈ b :: ((f1 ++ (fe ++ f2)) ++ fp2) := hsubl.subset (by simp only [List.mem_cons, List.mem_append] at hx ⊢; exact .inr (.inl hx))
        exact ⟨hr'.fpF x hmem, hr'.fpE x hmem⟩) rfl ⟨rfl, .inl (by first | exact Nat.le_refl _ | exact Nat.le_succ _)⟩ rfl
    rw [← oerase_oset n (els.set i e') s.O] at hfin
    exact hfin.back (olook_oset ho)

def RV.setCell (e : RV) (j : Nat) (r : RV) : RV := match e with | .agg l => .agg (l.set j r) | _ => r

theorem OE.setCell {w F ρ k e ce fe j r y} (h : OE w F ρ k [e] ce fe) (hj : j < e.cellsL.length) (hr : OE w F ρ 1 [r] [y] []) : ∃ fe', OE w F ρ k [e.setCell j r] (ce.set j y) fe' ∧ fe'.Sublist fe := by
  have hw := h.width
  have h1 := h.cellsL
  obtain ⟨c1, d, c2, f1, fd, f2, rfl, hc1, hd, rfl, h2, _, h3⟩ := h1.at (List.getElem?_eq_getElem hj)
  match d, hd with
  | [y0], _ =>
    have hset : (c1 ++ ([y0] ++ c2)).set j y = c1 ++ ([y] ++ c2) := by
      rw [List.set_append_right _ _ (by omega), hc1]; simp
    have hl : e.cellsL.set j r = e.cellsL.take j ++ ([r] ++ e.cellsL.drop (j + 1)) := by
      rw [List.set_eq_take_append_cons_drop, if_pos hj]; rfl
    refine ⟨f1 ++ ([] ++ f2), ?_, (List.Sublist.refl _).append ((List.nil_sublist _).append (List.Sublist.refl _))⟩
    have h4 : OE w F ρ 1 (e.cellsL.set j r) (c1 ++ ([y] ++ c2)) (f1 ++ ([] ++ f2)) := by rw [hl]; exact h2.append (hr.append h3)
    rw [hset]
    cases e with
    | agg l => exact OE.of_cellsL (e := .agg (l.set j r)) (by simpa [RV.cellsL] using h4) (by simpa [RV.width] using hw)
    | _ =>
      simp only [RV.cellsL, List.length_singleton] at hj
      obtain rfl : j = 0 := by omega
      simp only [RV.width] at hw
      subst hw
      simpa [RV.cellsL, RV.setCell] using h4

theorem OE.stores {w F ρ l cs fp} (h : OE w F ρ 1 l cs fp) (hst : l.all RV.stores = true) : ∀ y ∈ cs, y.oneCell' = true := by
  induction l generalizing cs fp with
  | nil => cases h; simp
  | cons r l ih =>
    simp only [List.all_cons, Bool.and_eq_true] at hst
    obtain ⟨c1, c2, f1, f2, rfl, rfl, hc1, h1, h2⟩ := h.cons_inv
    match c1, hc1 with
    | [y], _ =>
      intro x hx
      rcases List.mem_cons.1 hx with rfl | hx
      · have hp : r.plain = true := by cases r <;> simp [RV.stores, RV.plain] at hst ⊢
        have hf := h1.plain_fp hp
        subst hf
        exact ((SV.of_plain h1 hp).to_cell hst.1).2
      · exact ih h2 hst.2 x hx

section
variable {P : Program} {s : St} {ty : TypeId} {pos : String} {after : Array Edge} {g : Option (Nat × Bool)}

theorem ops_store {x v t n i j k els e r} (hx : s.get x = .ptr n i j) (hv : s.get v = r) (ho : olook n s.O = some (k, els)) (he : els[i]? = some e) (hj : j < e.cellsL.length) (hst : r.stores = true) (ht : P.cellsOf t = 1) :
    OpS P ⟨none, .store t x v, ty, pos, after, g⟩ s ⟨s.fr, oset n (els.set i (e.setCell j r)) s.O⟩ :=
  ops_of_skip fun E a w F ρ fp hr => by
    have h1 := hr.get x
    rw [hx] at h1
    have h2 := hr.get v
    rw [hv] at h2
    obtain ⟨h3, h4⟩ := h2.to_cell hst
    obtain ⟨b, tb, c, ce, fe, hρb, hρ, hk, hb, hsz, hce, hcell, hE, hset⟩ := hr.setElem ho he h1.ptr_pos
    obtain ⟨fe', h5, h6⟩ := hE.setCell hj h3
    obtain ⟨fp', h7⟩ := hset _ _ _ (by simp [hce]) h5 h6
    have hj2 : j < k := by have := hE.cellsL.length; omega
    have hp := h1.ptr_inv
    simp only [hρb, Option.map_some, hρ] at hp
    have hcells : (a.eval v).cells = #[a.eval v] := by cases hy : a.eval v <;> simp [hy, Value.oneCell', Value.cells] at h4 ⊢
    have hrun := run_storeCells_at P b (i * k + j) tb [a.eval v] 0 c w hb (by simp; omega) (by simpa using h4)
    refine ⟨_, ?_, F, ρ, fp', h7⟩
    have e1 : (c.toList.take (i * k) ++ ce.set j (a.eval v) ++ c.toList.drop (i * k + k)) = (c.toList.take (i * k + j) ++ [a.eval v] ++ c.toList.drop (i * k + j + 1)) := by
      apply List.ext_getElem?
      intro q
      by_cases q1 : q < i * k
      · rw [List.append_assoc, List.getElem?_append_left (by simp; omega), List.append_assoc, List.getElem?_append_left (by simp; omega)]
        rw [List.getElem?_take, List.getElem?_take, if_pos q1, if_pos (by omega)]
      · rw [List.append_assoc, List.getElem?_append_right (by simp; omega)]
        have l1 : (c.toList.take (i * k)).length = i * k := by simp; omega
        have l2 : (c.toList.take (i * k + j)).length = i * k + j := by simp; omega
        rw [l1]
        by_cases q2 : q < i * k + j
        · rw [List.getElem?_append_left (by simp; omega), List.getElem?_set_ne (by omega), List.append_assoc, List.getElem?_append_left (by omega), List.getElem?_take, if_pos q2]
          have hq : q - i * k < ce.length := by omega
          rw [List.getElem?_eq_getElem hq]
          have := hcell (q - i * k) _ (List.getElem?_eq_getElem hq)
          rw [show i * k + (q - i * k) = q by omega] at this
          simpa using this.symm
        · by_cases q3 : q = i * k + j
          · subst q3
            rw [List.getElem?_append_left (by simp; omega), show i * k + j - i * k = j by omega, List.getElem?_set_self (by omega), List.append_assoc, List.getElem?_append_right (by omega), l2]
            simp
          · rw [List.append_assoc, List.getElem?_append_right (l₁ := c.toList.take (i * k + j)) (by omega), l2, List.getElem?_append_right (l₁ := [a.eval v]) (by simp; omega)]
            simp only [List.length_singleton, List.getElem?_drop]
            by_cases q4 : q < i * k + k
            · have hq : q - i * k < ce.length := by omega
              rw [List.getElem?_append_left (by simp; omega), List.getElem?_set_ne (by omega), List.getElem?_eq_getElem hq]
              have := hcell (q - i * k) _ (List.getElem?_eq_getElem hq)
              rw [show i * k + (q - i * k) = q by omega] at this
              rw [show i * k + j + 1 + (q - (i * k + j) - 1) = q by omega]
              simpa using this.symm
            · rw [List.getElem?_append_right (by simp; omega)]
              simp only [List.length_set, hce, List.getElem?_drop]
              congr 1
              omega
    rw [e1]
    simp only [Nat.add_zero, List.length_singleton] at hrun
    have hrun' : (storeCells ⟨b, i * k + j, none⟩ [a.eval v]).run P w = .ok () (w.setRow b (c.toList.take (i * k + j) ++ [a.eval v] ++ c.toList.drop (i * k + j + 1)).toArray) := hrun
    simp only [execOp, Instr.storeAt, Instr.sureAddr, hp, storeVar, hcells, Sem.run_bind, Sem.run_pure, Result.andThen_ok, run_sizeOf ht (by omega)]
    simp [hrun']

theorem ops_storea {x v t n i k els e l} (hx : s.get x = .ptr n i 0) (hv : s.get v = .agg l) (ho : olook n s.O = some (k, els)) (he : els[i]? = some e) (hl : l.length = k) (hst : l.all RV.stores = true) (ht : P.cellsOf t = l.length) :
    OpS P ⟨none, .store t x v, ty, pos, after, g⟩ s ⟨s.fr, oset n (els.set i (.agg l)) s.O⟩ :=
  ops_of_skip fun E a w F ρ fp hr => by
    have h1 := hr.get x
    rw [hx] at h1
    have h2 := hr.get v
    rw [hv] at h2
    obtain ⟨cv, hcv, h3⟩ := h2.agg_inv
    have hlv := h3.length
    obtain ⟨b, tb, c, ce, fe, hρb, hρ, hk, hb, hsz, hce, hcell, hE, hset⟩ := hr.setElem ho he h1.ptr_pos
    obtain ⟨fp', h7⟩ := hset (.agg l) cv.toList [] (by omega) (OE.of_cellsL (e := .agg l) h3 hl) (List.nil_sublist _)
    have hp := h1.ptr_inv
    simp only [hρb, Option.map_some, hρ, Nat.add_zero] at hp
    have hrun := run_storeCells_at P b (i * k) tb cv.toList 0 c w hb (by omega) (h3.stores hst)
    simp only [Nat.add_zero] at hrun
    refine ⟨_, ?_, F, ρ, fp', h7⟩
    have hlk : cv.toList.length = k := by omega
    rw [hlk] at hrun
    have hsv : cv.size = l.length := by rw [← Array.length_toList]; omega
    simp only [execOp, Instr.storeAt, Instr.sureAddr, hp, storeVar, hcv, Value.cells, Sem.run_bind, Sem.run_pure, Result.andThen_ok, run_sizeOf ht (by omega)]
    simp [hsv, hrun]

end
end Eng
end Go.Proofs.YtmfbcipjknjicaaGreatDoor

/- The engine, part I: appends, cuts, struct values, results. No condition. -/
namespace Go.Proofs.YtmfbcipjknjicaaGreatDoor
set_option linter.unusedSectionVars false
variable [One Bool]
namespace Eng
open Go.RowKit

theorem RelX.append {P : Program} {E fr Or a w F ρ n k els} {fp fp2 : List Nat} (h : RelX E ⟨fr, (n, k, els) :: Or⟩ a w F ρ fp) {els2 : List RV} {news : List Value} {a2 : Addr} {cap2 : Nat} (hc2 : CellsAt w a2 news) (h2 : OE w F ρ k els2 news fp2) (hone : ∀ y ∈ news, y.oneCell' = true)
    (hnd : (fp2 ++ fp).Nodup) (hfp2 : ∀ x ∈ fp2, ¬ F x ∧ (E.B0 x ∨ E.w0.heap.size ≤ x)) (hn1 : n < 1000000000000 ∧ n ∉ RV.namesL els) (hn2 : n ∉ RV.namesL els2) (hn3 : n ∉ onames Or) {t ty : TypeId}
    (ht : P.underlying t = some (.slice (P.elem t))) (hw : P.cellsOf (P.elem t) = k) (hz : (zeroOf P (P.elem t)).map (fun z => decide (z.cells.size = k)) = some true) (hb : (P.info? (P.elem t)).map (fun i => decide (i.bytes ≤ 64)) = some true) (hlen : els.length + els2.length ≤ 1099511627776) (hpos : (ρ n).2.1 ≠ 0) :
    ∃ y w' ρ' fp', (Builtin.append_ #[t, t] ty #[.slice ((ρ n).1.map fun b => ⟨b, 0, none⟩) els.length (ρ n).2.2, .slice (some a2) els2.length cap2]).run P w = .ok y w' ∧ SV w' F ρ' (.ref n 0 (els.length + els2.length)) y [] ∧ RelX E ⟨RV.killL n fr, (n, k, els ++ els2) :: Or⟩ a w' F ρ' fp' := by
  cases hi : P.info? (P.elem t) with
  | none => simp [hi] at hb
  | some i =>
    simp only [hi, Option.map_some, Option.some.injEq, decide_eq_true_eq] at hb
    cases hzz : i.zero with
    | none => simp [zeroOf, hi, hzz] at hz
    | some z =>
    have hz' : z.cells.size = k := by simpa [zeroOf, hi, hzz] using hz
    have hw' : i.size = k := by simpa [Program.cellsOf, hi] using hw
    have hln := h2.length
    have hbytes : (els.length + els2.length) * i.bytes ≤ 140737488355328 := by
      have := Nat.mul_le_mul_left (els.length + els2.length) hb
      omega
    have hkill : ∀ s : List RV, ∀ n : Nat, ∀ F ρ w, (∀ i, SV w F ρ (lget s i) (a.tmps.getD i undef) []) → ∀ i, SV w F ρ (lget (RV.killL n s) i) (a.tmps.getD i undef) [] := fun s n F ρ w hs i => by
      rw [lget_killL]; exact (hs i).kill n (fun _ _ => rfl)
    -- behind a new block
    have renewed : ∀ (b0 : Nat) (fp1 fpr : List Nat) (olds : List Value) (cap : Nat), 0 < k → OL w F ρ Or fpr → OE w F ρ k els olds fp1 → (fp1 ++ fpr).Sublist fp → cap ≤ maxLen → els.length + els2.length ≤ cap →
        ∃ ρ' fp', SV (w.drew.alloc (.cells ((olds.toArray ++ news.toArray) ++ Builtin.zeroCells z.cells (cap - (els.length + els2.length))) (P.elem t))) F ρ' (.ref n 0 (els.length + els2.length)) (.slice (some ⟨w.heap.size, 0, none⟩) (els.length + els2.length) cap) [] ∧
          RelX E ⟨RV.killL n fr, (n, k, els ++ els2) :: Or⟩ a (w.drew.alloc (.cells ((olds.toArray ++ news.toArray) ++ Builtin.zeroCells z.cells (cap - (els.length + els2.length))) (P.elem t))) F ρ' fp' := by
      intro _ fp1 fpr olds cap hk hOr hE hsub hcap hle
      have hlo := hE.length
      have hnd1 : ((fp1 ++ fp2) ++ fpr).Nodup := by
        have h3 : (fp2 ++ (fp1 ++ fpr)).Nodup := hnd.sublist ((List.Sublist.refl _).append hsub)
        refine (List.Perm.nodup_iff ?_).1 h3
        rw [List.append_assoc]
        exact List.perm_append_comm_assoc _ _ _
      have hrel : RelX E ⟨fr, Or⟩ a w F ρ fpr := h.weakO hOr ((List.nodup_append.1 hnd1).2.1) fun x hx => hsub.subset (by simp [hx])
      obtain ⟨ρ', h4, h5⟩ := hrel.renew (n := n) (k := k) (els' := els ++ els2) (ty := P.elem t) (c' := (olds.toArray ++ news.toArray) ++ Builtin.zeroCells z.cells (cap - (els.length + els2.length))) (fp1' := fp1 ++ fp2) hk hOr cap hcap
        (by simp only [Array.size_append, List.size_toArray, size_zeroCells, hz', hlo, hln, ← Nat.add_mul]; congr 1; omega) (by simpa using hle)
        (by
          have e : (((olds.toArray ++ news.toArray) ++ Builtin.zeroCells z.cells (cap - (els.length + els2.length))).toList.take ((els ++ els2).length * k)) = olds ++ news := by
            simp only [Array.toList_append]
            refine List.take_left' ?_
            simp [hlo, hln, Nat.add_mul]
          rw [e]; exact hE.append h2)
        hnd1
        (fun x hx => by
          simp only [List.mem_append] at hx
          rcases hx with (hx | hx) | hx
          · exact ⟨h.fpF x (hsub.subset (by simp [hx])), h.fpE x (hsub.subset (by simp [hx]))⟩
          · exact hfp2 x hx
          · exact ⟨h.fpF x (hsub.subset (by simp [hx])), h.fpE x (hsub.subset (by simp [hx]))⟩)
        (by
          refine ⟨hn1.1, ?_⟩
          have : ∀ l : List RV, n ∉ RV.namesL l → n ∉ RV.namesL (l ++ els2) := by
            intro l
            induction l with
            | nil => intro _; simpa using hn2
            | cons x xs ih => intro hx; simp only [RV.namesL, List.mem_append, not_or, List.cons_append] at hx ⊢; exact ⟨hx.1, ih hx.2⟩
          exact this _ hn1.2) hn3
      exact ⟨ρ', _, by simpa using SV.ref_mk (w := w.drew.alloc _) (F := F) h4 0 (els.length + els2.length), h5⟩
    cases h.O with
    | map hρ0 => exact absurd hρ0 hpos
    | nilb hk hρ hOr =>
      simp only [hρ, Option.map_none, List.length_nil, Nat.zero_add, List.nil_append]
      by_cases h0 : els2.length = 0
      · have he2 : els2 = [] := List.eq_nil_of_length_eq_zero h0
        subst he2
        cases h2
        refine ⟨.slice none 0 0, w, ρ, fp, ?_, ?_, ?_⟩
        · simp [Builtin.append_, run_underlying ht, sizeOf, typeInfo, hi, Builtin.lenOf, Builtin.firstCells, loadCells, loadCellsFrom]
        · have := OE.ref (w := w) (F := F) (ρ := ρ) n 0 0 hpos (.nil _ _)
          simp only [hρ, Option.map_none] at this
          exact .one (.cell rfl this)
        · exact { h with size := by simpa using h.size, fr := hkill fr n F ρ w h.fr }
      · have hrun := run_append_nil (P := P) w t ty (P.elem t) i z ht hi hzz a2 els2.length cap2 news (by rw [hw']; exact hln) hc2 (by omega) (by omega) (by simp only [List.length_nil, Nat.zero_add] at hbytes; omega)
        obtain ⟨ρ', fp', h5, h6⟩ := renewed 0 [] fp [] (grownCap w els2.length 0 (P.elem t)) hk hOr (.nil _ _) (by simp) (grownCap_le_maxLen w _ _ _ (by simp only [maxLen]; omega)) (by simpa using grownCap_ge w els2.length 0 (P.elem t))
        exact ⟨_, _, ρ', fp', hrun, by simpa using h5, by simpa using h6⟩
    | @cons _ b _ _ tb c cells _ fp1 fpr hk hρ hρb hb' hs hl hm hc hE hOr =>
      simp only [hρb, Option.map_some]
      have hlo := hE.length
      have hcsz : els.length * k ≤ c.size := by rw [hs]; exact Nat.mul_le_mul_right _ hl
      by_cases hroom : els.length + els2.length ≤ (ρ n).2.2
      · have hfit : els.length * k + news.length ≤ c.size := by rw [hln, hs, ← Nat.add_mul]; exact Nat.mul_le_mul_right _ hroom
        have hf := run_firstCells_some (P := P) w i.size els2.length a2 els2.length cap2 news (by rw [hw']; exact hln) hc2
        have hst := run_storeCells_at P b (els.length * k) tb news 0 c w hb' (by simpa using hfit) hone
        simp only [Nat.add_zero] at hst
        have hrun : (Builtin.append_ #[t, t] ty #[.slice (some ⟨b, 0, none⟩) els.length (ρ n).2.2, .slice (some a2) els2.length cap2]).run P w =
            .ok (.slice (some ⟨b, 0, none⟩) (els.length + els2.length) (ρ n).2.2) (w.setRow b (c.toList.take (els.length * k) ++ news ++ c.toList.drop (els.length * k + news.length)).toArray) := by
          subst hw'
          simp [Builtin.append_, run_underlying ht, sizeOf, typeInfo, hi, Builtin.lenOf, hroom, hf, Addr.add_lit, hst]
        have hsub : (b :: (fp1 ++ fpr)).Sublist (b :: (fp1 ++ fpr)) := List.Sublist.refl _
        have hnd1 : (b :: ((fp1 ++ fp2) ++ fpr)).Nodup := by
          refine (List.Perm.nodup_iff ?_).1 hnd
          have e1 : fp2 ++ b :: (fp1 ++ fpr) = fp2 ++ (([b] ++ fp1) ++ fpr) := by simp
          have e2 : (b :: ((fp1 ++ fp2) ++ fpr)) = ([b] ++ fp1) ++ (fp2 ++ fpr) := by simp
          rw [e1, e2]
          exact List.perm_append_comm_assoc _ _ _
        have hmod := h.modify (els' := els ++ els2) (ty := tb) (c' := (c.toList.take (els.length * k) ++ news ++ c.toList.drop (els.length * k + news.length)).toArray) (fp1' := fp1 ++ fp2)
          (w' := w.setRow b (c.toList.take (els.length * k) ++ news ++ c.toList.drop (els.length * k + news.length)).toArray) hk hρ hρb hm hOr (by simp) (fun j hj => setRow_other w b j _ hj) (setRow_heap w b c _ tb _ hb')
          (by rw [← hs]; simp; omega) (by simpa using hroom)
          (by
            have e : (c.toList.take (els.length * k) ++ news ++ c.toList.drop (els.length * k + news.length)).toArray.toList.take ((els ++ els2).length * k) = cells ++ news := by
              rw [hc]
              refine List.take_left' ?_
              simp [hlo, hln, Nat.add_mul]
            rw [e]; exact hE.append h2) hnd1
          (fun x hx => by
            simp only [List.mem_append] at hx
            rcases hx with hx | hx
            · exact ⟨h.fpF x (by simp [hx]), h.fpE x (by simp [hx])⟩
            · exact hfp2 x hx) rfl ⟨rfl, .inl (by first | exact Nat.le_refl _ | exact Nat.le_succ _)⟩ rfl
        refine ⟨_, _, ρ, _, hrun, ?_, { hmod with size := by simpa using hmod.size, fr := hkill fr n F ρ _ hmod.fr }⟩
        have := SV.ref_mk (w := w.setRow b (c.toList.take (els.length * k) ++ news ++ c.toList.drop (els.length * k + news.length)).toArray) (F := F) (ρ := ρ) (n := n) (k := k) (cap := (ρ n).2.2) (b := b) (by rw [← hρ, ← hρb]) 0 (els.length + els2.length)
        simpa using this
      · have holds : ∀ j u, cells[j]? = some u → w.cell? ((⟨b, 0, none⟩ : Addr).add j) = some u := by
          intro j u hj
          rw [Addr.add_lit, cell_of_row w b _ c tb _ hb']
          rw [← hc, List.getElem?_take] at hj
          split at hj
          · simpa using hj
          · cases hj
        have hrun := run_append_grow (P := P) w t ty (P.elem t) i z ht hi hzz ⟨b, 0, none⟩ els.length (ρ n).2.2 cells (by rw [hw']; exact hlo) holds a2 els2.length cap2 news (by rw [hw']; exact hln) hc2 (by omega) (by omega) (growslice_fits (by omega) hbytes)
        obtain ⟨ρ', fp', h5, h6⟩ := renewed b fp1 fpr cells (grownCap w (els.length + els2.length) (ρ n).2.2 (P.elem t)) hk hOr hE (List.sublist_cons_self _ _) (grownCap_le_maxLen w _ _ _ (by simp only [maxLen]; omega)) (grownCap_ge w _ _ _)
        exact ⟨_, _, ρ', fp', hrun, h5, h6⟩

end Eng
end Go.Proofs.YtmfbcipjknjicaaGreatDoor

/- The engine, part J: appends as operations, cuts, struct values, several results. No condition. -/
namespace Go.Proofs.YtmfbcipjknjicaaGreatDoor
set_option linter.unusedSectionVars false
variable [One Bool]
namespace Eng
open Go.RowKit

theorem OE.block {w : World} {b : Nat} {c : Array Value} {ty : TypeId} (hb : w.heap[b]? = some (.cells c ty (0, 0))) (n : Nat) : CellsAt w ⟨b, 0, none⟩ (c.toList.take n) := by
  intro j y hj
  rw [Addr.add_lit, cell_of_row w b _ c ty _ hb]
  rw [List.getElem?_take] at hj
  split at hj
  · simpa using hj
  · cases hj

theorem olook_ne {n m k els} {O : List Bk} (h : olook n O = some (k, els)) (hne : n ≠ m) : olook n (oerase m O) = some (k, els) := by
  induction O with
  | nil => simp [olook] at h
  | cons x O ih =>
    obtain ⟨q, k', e⟩ := x
    simp only [olook] at h
    simp only [oerase]
    split at h
    · rename_i hq; subst hq; rw [if_neg hne]; simp [olook, h]
    · rename_i hq
      split
      · exact h
      · simp only [olook, if_neg hq]; exact ih h

section
variable {P : Program} {s : St} {d : Tmp} {ty : TypeId} {pos : String} {after : Array Edge} {g : Option (Nat × Bool)}

theorem ops_append_own {x y t n m k els els2} (hx : s.get x = .ref n 0 els.length) (hy : s.get y = .ref m 0 els2.length) (ho : olook n s.O = some (k, els)) (ho2 : olook m s.O = some (k, els2)) (hne : n ≠ m) (h0 : els2 ≠ [])
    (hn1 : n < 1000000000000 ∧ n ∉ RV.namesL els) (hn2 : n ∉ RV.namesL els2) (hn3 : n ∉ onames (oerase n (oerase m s.O)))
    (ht : P.underlying t = some (.slice (P.elem t))) (hw : P.cellsOf (P.elem t) = k) (hz : (zeroOf P (P.elem t)).map (fun z => decide (z.cells.size = k)) = some true) (hb : (P.info? (P.elem t)).map (fun i => decide (i.bytes ≤ 64)) = some true) (hlen : els.length + els2.length ≤ 1099511627776) :
    OpS P ⟨some d, .call ⟨.builtin .append, #[x, y], #[t, t]⟩, ty, pos, after, g⟩ s ⟨lset (RV.killL n s.fr) d (.ref n 0 (els.length + els2.length)), oset n (els ++ els2) (oerase m s.O)⟩ :=
  ops_of fun E a w F ρ fp hr => by
    have h1 := (show SV w F ρ (.ref n 0 els.length) (a.eval x) [] from hx ▸ hr.get x).ref_inv
    have h2 := (show SV w F ρ (.ref m 0 els2.length) (a.eval y) [] from hy ▸ hr.get y).ref_inv
    obtain ⟨fpm, hrm⟩ := hr.front ho2
    have ho' := olook_ne ho hne
    obtain ⟨b, tb, c, fp1, fpr, hk, hρ, hρb, hbb, hs, hl, hm, hE, hO2, rfl⟩ := hrm.O.head h0 (show SV w F ρ (.ref m 0 els2.length) (a.eval y) [] from hy ▸ hr.get y).ref_pos
    obtain ⟨fpn, hOn, hpn⟩ := hO2.pull ho'
    have hnd := hrm.nodup
    have hrel : RelX E ⟨s.fr, (n, k, els) :: oerase n (oerase m s.O)⟩ a w F ρ fpn :=
      hrm.weakO hOn (hpn.nodup_iff.1 (hnd.sublist ((List.sublist_append_right _ _).cons _))) fun x hx => by simp [hpn.mem_iff.2 hx]
    have hnd2 : (fp1 ++ fpn).Nodup := ((List.Perm.refl fp1).append hpn).nodup_iff.1 (hnd.sublist (List.sublist_cons_self _ _))
    obtain ⟨yv, w', ρ', fp', hrun, hsv, hfin⟩ := hrel.append (P := P) (cap2 := (ρ m).2.2 - 0) (OE.block hbb _) hE hE.one hnd2
      (fun z hz => ⟨hrm.fpF z (by simp [hz]), hrm.fpE z (by simp [hz])⟩) hn1 hn2 hn3 (t := t) (ty := ty) ht hw hz hb hlen (show SV w F ρ (.ref n 0 els.length) (a.eval x) [] from hx ▸ hr.get x).ref_pos
    have hfin' := hfin.put (some d) hsv
    have hback : ∃ fp'', RelX E ⟨lset (RV.killL n s.fr) d (.ref n 0 (els.length + els2.length)), oset n (els ++ els2) (oerase m s.O)⟩ (a.put (some d) yv) w' F ρ' fp'' := by
      refine RelX.back (fp := fp') (n := n) (k := k) (els := els ++ els2) ?_ (olook_oset ho')
      rw [oerase_oset]
      exact hfin'
    refine ⟨yv, w', ?_, F, ρ', hback⟩
    simp only [Nat.zero_mul, hρb, Option.map_some] at h1 h2
    simp only [Nat.sub_zero] at h1 h2 hrun
    simp [execOp, resolve, invoke, builtin, h1, h2, hrun]

theorem ops_append_sh {x y t n k els els2} (hx : s.get x = .ref n 0 els.length) (hy : s.get y = .sh els2) (ho : olook n s.O = some (k, els)) (hwd : els2.all (fun e => e.width == k) = true) (hn1 : n < 1000000000000 ∧ n ∉ RV.namesL els) (hn3 : n ∉ onames (oerase n s.O))
    (ht : P.underlying t = some (.slice (P.elem t))) (hw : P.cellsOf (P.elem t) = k) (hz : (zeroOf P (P.elem t)).map (fun z => decide (z.cells.size = k)) = some true) (hb : (P.info? (P.elem t)).map (fun i => decide (i.bytes ≤ 64)) = some true) (hlen : els.length + els2.length ≤ 1099511627776) :
    OpS P ⟨some d, .call ⟨.builtin .append, #[x, y], #[t, t]⟩, ty, pos, after, g⟩ s ⟨lset (RV.killL n s.fr) d (.ref n 0 (els.length + els2.length)), oset n (els ++ els2) s.O⟩ :=
  ops_of fun E a w F ρ fp hr => by
    have h1 := (show SV w F ρ (.ref n 0 els.length) (a.eval x) [] from hx ▸ hr.get x).ref_inv
    have h2 := (show SV w F ρ (.sh els2) (a.eval y) [] from hy ▸ hr.get y).sh_inv
    obtain ⟨fpn, hrn⟩ := hr.front ho
    have fin : ∀ (a2 : Addr) (cap2 : Nat) (cells : List Value), a.eval y = .slice (some a2) els2.length cap2 → CellsAt w a2 cells → FE w F k els2 cells → ∃ y_1 w', (execOp a.eval ⟨some d, .call ⟨.builtin .append, #[x, y], #[t, t]⟩, ty, pos, after, g⟩).run P w = .ok (.value y_1) w' ∧
        Rel E ⟨lset (RV.killL n s.fr) d (.ref n 0 (els.length + els2.length)), oset n (els ++ els2) s.O⟩ (a.put (some d) y_1) w' := by
      intro a2 cap2 cells hey hc hf
      obtain ⟨yv, w', ρ', fp', hrun, hsv, hfin⟩ := hrn.append (P := P) (cap2 := cap2) hc (OE.of_FE hf) hf.one (by simpa using hrn.nodup) (by simp) hn1 (by rw [hf.names]; simp) hn3 (t := t) (ty := ty) ht hw hz hb hlen (show SV w F ρ (.ref n 0 els.length) (a.eval x) [] from hx ▸ hr.get x).ref_pos
      have hfin' := hfin.put (some d) hsv
      have hback : ∃ fp'', RelX E ⟨lset (RV.killL n s.fr) d (.ref n 0 (els.length + els2.length)), oset n (els ++ els2) s.O⟩ (a.put (some d) yv) w' F ρ' fp'' := by
        refine RelX.back (fp := fp') (n := n) (k := k) (els := els ++ els2) ?_ (olook_oset ho)
        rw [oerase_oset]
        exact hfin'
      refine ⟨yv, w', ?_, F, ρ', hback⟩
      simp only [Nat.zero_mul, Nat.sub_zero] at h1
      simp [execOp, resolve, invoke, builtin, h1, hey, hrun]
    rcases h2 with ⟨_, ⟨rfl, a2, cap, h2⟩ | ⟨a2, cap, k', cells, h2, hk', hF, hm, hc, hf⟩⟩
    · -- nothing is put behind
      have hkf : ∀ i, SV w F ρ (lget (RV.killL n s.fr) i) (a.tmps.getD i undef) [] := fun i => by
        rw [lget_killL]; exact (hr.fr i).kill n (fun _ _ => rfl)
      have hkill : RelX E ⟨RV.killL n s.fr, s.O⟩ a w F ρ fp := { hr with size := by simpa using hr.size, fr := hkf }
      have hsv : SV w F ρ (.ref n 0 els.length) (a.eval x) [] := hx ▸ hr.get x
      refine ⟨a.eval x, w, ?_, F, ρ, ?_⟩
      · cases hi : P.info? (P.elem t) with
        | none => simp [hi] at hb
        | some i =>
          have hle : els.length ≤ (ρ n).2.2 := by
            cases hrn.O with
            | nilb _ hρ _ => simp
            | cons _ _ _ _ _ hl _ _ _ _ => exact hl
            | map hρ0 => exact absurd hρ0 hsv.ref_pos
          simp only [Nat.zero_mul, Nat.sub_zero] at h1
          cases hρb : (ρ n).1 with
          | none => cases a2 <;> simp [execOp, resolve, invoke, builtin, h1, h2, hρb, Builtin.append_, run_underlying ht, sizeOf, typeInfo, hi, Builtin.lenOf, Builtin.firstCells, loadCells, loadCellsFrom, hle]
          | some b => cases a2 <;> simp [execOp, resolve, invoke, builtin, h1, h2, hρb, Builtin.append_, run_underlying ht, sizeOf, typeInfo, hi, Builtin.lenOf, Builtin.firstCells, loadCells, loadCellsFrom, hle, storeCells]
      · have hso : oset n (els ++ []) s.O = s.O := by
          rw [List.append_nil]
          have : ∀ O : List Bk, olook n O = some (k, els) → oset n els O = O := by
            intro O
            induction O with
            | nil => simp [olook]
            | cons x O ih =>
              obtain ⟨q, k', e⟩ := x
              intro hq
              simp only [olook] at hq
              simp only [oset]
              split at hq
              · rename_i hqn; simp at hq; simp [hqn, hq]
              · rename_i hqn; simp [hqn, ih hq]
          exact this _ ho
        rw [hso]
        have := hkill.put (some d) hsv
        exact ⟨fp, by simpa [sput] using this⟩
    · have hkk : k' = k ∨ els2 = [] := by
        cases els2 with
        | nil => exact .inr rfl
        | cons e es =>
          left
          obtain ⟨c1, c2, _, _, h3, _⟩ := hf.cons_inv
          simp only [List.all_cons, Bool.and_eq_true, beq_iff_eq] at hwd
          rw [← hwd.1, h3.width]
      rcases hkk with rfl | rfl
      · exact fin a2 cap cells h2 hc hf
      · cases hf; exact fin a2 cap [] h2 (fun j y hj => by simp at hj) (.nil _)

end
end Eng
end Go.Proofs.YtmfbcipjknjicaaGreatDoor
