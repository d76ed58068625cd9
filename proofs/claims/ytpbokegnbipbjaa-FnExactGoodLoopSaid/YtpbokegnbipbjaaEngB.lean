/- The engine, part B: frames, named blocks, the relation of a symbolic state to a frame and a world; code over symbolic states. No condition. -/
import Derived.Test.YtpbokegnbipbjaaEngA
namespace Go.Proofs.Ytpbokegnbipbjaa
namespace Eng

def RV.isAgg : RV → Bool | .agg _ => true | _ => false

/-- What stands in a slot (no results of several). -/
inductive S1 (w : World) (F : Nat → Prop) (ρ : Places) : RV → Value → List Nat → Prop
  | any (y) : S1 w F ρ .any y []
  | v (x) : S1 w F ρ (.v x) x []
  | cell {e y fp} (ha : e.isAgg = false) (h : OE w F ρ 1 [e] [y] fp) : S1 w F ρ e y fp
  | agg {l c fp} (h : OE w F ρ 1 l c.toList fp) : S1 w F ρ (.agg l) (.agg c) fp
  | fn {f l c fp} (h : OE w F ρ 1 l c.toList fp) : S1 w F ρ (.fn f l) (.func f #[] c) fp

inductive SL (w : World) (F : Nat → Prop) (ρ : Places) : List RV → List Value → List Nat → Prop
  | nil : SL w F ρ [] [] []
  | cons {e y es ys fp1 fp2} (h1 : S1 w F ρ e y fp1) (h : SL w F ρ es ys fp2) : SL w F ρ (e :: es) (y :: ys) (fp1 ++ fp2)

inductive SV (w : World) (F : Nat → Prop) (ρ : Places) : RV → Value → List Nat → Prop
  | one {e y fp} (h : S1 w F ρ e y fp) : SV w F ρ e y fp
  | tup {l c fp} (h : SL w F ρ l c.toList fp) : SV w F ρ (.tup l) (.tuple c) fp

theorem S1.mono {w w' : World} {F F' : Nat → Prop} {ρ e y fp} (h : S1 w F ρ e y fp) (hF : ∀ b, F b → F' b ∧ w'.heap[b]? = w.heap[b]?) (hfp : ∀ b ∈ fp, w'.heap[b]? = w.heap[b]?) : S1 w' F' ρ e y fp := by
  cases h with
  | any => exact .any _
  | v => exact .v _
  | cell ha h => exact .cell ha (h.mono hF hfp)
  | agg h => exact .agg (h.mono hF hfp)
  | fn h => exact .fn (h.mono hF hfp)
theorem SL.mono {w w' : World} {F F' : Nat → Prop} {ρ es ys fp} (h : SL w F ρ es ys fp) (hF : ∀ b, F b → F' b ∧ w'.heap[b]? = w.heap[b]?) (hfp : ∀ b ∈ fp, w'.heap[b]? = w.heap[b]?) : SL w' F' ρ es ys fp := by
  induction h with
  | nil => exact .nil
  | cons h1 _ ih => exact .cons (h1.mono hF fun b hb => hfp b (by simp [hb])) (ih fun b hb => hfp b (by simp [hb]))
theorem SV.mono {w w' : World} {F F' : Nat → Prop} {ρ e y fp} (h : SV w F ρ e y fp) (hF : ∀ b, F b → F' b ∧ w'.heap[b]? = w.heap[b]?) (hfp : ∀ b ∈ fp, w'.heap[b]? = w.heap[b]?) : SV w' F' ρ e y fp := by
  cases h with
  | one h => exact .one (h.mono hF hfp)
  | tup h => exact .tup (h.mono hF hfp)

theorem S1.kill {w F ρ ρ' e y fp} (n : Nat) (h : S1 w F ρ e y fp) (hn : ∀ m, m ≠ n → ρ' m = ρ m) : S1 w F ρ' (e.kill n) y fp := by
  cases h with
  | any => simp only [RV.kill]; exact .any _
  | v => simp only [RV.kill]; exact .v _
  | cell ha h =>
    have := h.kill n hn
    simp only [RV.killL] at this
    refine .cell ?_ this
    cases e with
    | ref m _ _ => by_cases hm : m = n <;> simp [RV.kill, hm, RV.isAgg]
    | ptr m _ _ => by_cases hm : m = n <;> simp [RV.kill, hm, RV.isAgg]
    | agg l => simp [RV.isAgg] at ha
    | _ => simp [RV.kill, RV.isAgg]
  | agg h => simp only [RV.kill]; exact .agg (h.kill n hn)
  | fn h => simp only [RV.kill]; exact .fn (h.kill n hn)
theorem SL.kill {w F ρ ρ' es ys fp} (n : Nat) (h : SL w F ρ es ys fp) (hn : ∀ m, m ≠ n → ρ' m = ρ m) : SL w F ρ' (RV.killL n es) ys fp := by
  induction h with
  | nil => simp only [RV.killL]; exact .nil
  | cons h1 _ ih => simp only [RV.killL]; exact .cons (h1.kill n hn) ih
theorem SV.kill {w F ρ ρ' e y fp} (n : Nat) (h : SV w F ρ e y fp) (hn : ∀ m, m ≠ n → ρ' m = ρ m) : SV w F ρ' (e.kill n) y fp := by
  cases h with
  | one h => exact .one (h.kill n hn)
  | tup h => simp only [RV.kill]; exact .tup (h.kill n hn)

def lget : List RV → Nat → RV
  | [], _ => .any
  | x :: _, 0 => x
  | _ :: xs, n + 1 => lget xs n
def lset : List RV → Nat → RV → List RV
  | [], _, _ => []
  | _ :: xs, 0, y => y :: xs
  | x :: xs, n + 1, y => x :: lset xs n y

@[simp] theorem length_lset (l : List RV) (n : Nat) (y : RV) : (lset l n y).length = l.length := by
  induction l generalizing n with
  | nil => rfl
  | cons x xs ih => cases n <;> simp [lset, ih]
theorem lget_lset (l : List RV) (n m : Nat) (y : RV) : lget (lset l n y) m = if m = n ∧ n < l.length then y else lget l m := by
  induction l generalizing n m with
  | nil => simp [lset]
  | cons x xs ih =>
    cases n with
    | zero => cases m <;> simp [lset, lget]
    | succ n => cases m <;> simp [lset, lget, ih]
theorem lget_out (l : List RV) (n : Nat) (h : l.length ≤ n) : lget l n = .any := by
  induction l generalizing n with
  | nil => rfl
  | cons x xs ih => cases n with
    | zero => simp at h
    | succ n => simp [lget, ih n (by simpa using h)]
theorem lget_killL (l : List RV) (n m : Nat) : lget (RV.killL n l) m = (lget l m).kill n := by
  induction l generalizing m with
  | nil => simp [RV.killL, lget, RV.kill]
  | cons x xs ih => cases m <;> simp [RV.killL, lget, ih]
@[simp] theorem length_killL (l : List RV) (n : Nat) : (RV.killL n l).length = l.length := by
  induction l with
  | nil => simp [RV.killL]
  | cons x xs ih => simp [RV.killL, ih]

/-- A named owned block: its name, its elements' size, its elements. -/
abbrev Bk := Nat × Nat × List RV

def olook (n : Nat) : List Bk → Option (Nat × List RV)
  | [] => none
  | (m, k, els) :: O => if m = n then some (k, els) else olook n O
def oset (n : Nat) (els : List RV) : List Bk → List Bk
  | [] => []
  | (m, k, e) :: O => if m = n then (m, k, els) :: O else (m, k, e) :: oset n els O
def oerase (n : Nat) : List Bk → List Bk
  | [] => []
  | (m, k, e) :: O => if m = n then O else (m, k, e) :: oerase n O
/-- The names of the blocks and those within them. -/
def onames : List Bk → List Nat
  | [] => []
  | (m, _, e) :: O => m :: (RV.namesL e ++ onames O)

inductive OL (w : World) (F : Nat → Prop) (ρ : Places) : List Bk → List Nat → Prop
  | nil : OL w F ρ [] []
  | nilb {n k O fp} (hk : 0 < k) (hρ : ρ n = (none, k, 0)) (h : OL w F ρ O fp) : OL w F ρ ((n, k, []) :: O) fp
  | cons {n b k els ty c cells O fp1 fp2} (hk : 0 < k) (hρ : (ρ n).2.1 = k) (hρb : (ρ n).1 = some b) (hb : w.heap[b]? = some (.cells c ty (0, 0))) (hs : c.size = (ρ n).2.2 * k) (hl : els.length ≤ (ρ n).2.2) (hm : (ρ n).2.2 ≤ maxLen)
      (hc : c.toList.take (els.length * k) = cells) (he : OE w F ρ k els cells fp1) (h : OL w F ρ O fp2) : OL w F ρ ((n, k, els) :: O) (b :: (fp1 ++ fp2))

theorem OL.mono {w w' : World} {F F' : Nat → Prop} {ρ O fp} (h : OL w F ρ O fp) (hF : ∀ b, F b → F' b ∧ w'.heap[b]? = w.heap[b]?) (hfp : ∀ b ∈ fp, w'.heap[b]? = w.heap[b]?) : OL w' F' ρ O fp := by
  induction h with
  | nil => exact .nil
  | nilb hk hρ _ ih => exact .nilb hk hρ (ih hfp)
  | cons hk hρ hρb hb hs hl hm hc he _ ih =>
    exact .cons hk hρ hρb (by rw [hfp _ (by simp)]; exact hb) hs hl hm hc (he.mono hF fun b hx => hfp b (by simp [hx])) (ih fun b hx => hfp b (by simp [hx]))

theorem OL.places {w F ρ ρ' O fp} (h : OL w F ρ O fp) (hn : ∀ n ∈ onames O, ρ' n = ρ n) : OL w F ρ' O fp := by
  induction h with
  | nil => exact .nil
  | @nilb n k O fp hk hρ _ ih => exact .nilb hk ((hn n (by simp [onames])).trans hρ) (ih fun m hx => hn m (by simp [onames, hx]))
  | @cons n b k els ty c cells O fp1 fp2 hk hρ hρb hb hs hl hm hc he _ ih =>
    have e := hn n (by simp [onames])
    rw [← e] at hρ hρb hs hl hm
    exact .cons hk hρ hρb hb hs hl hm hc (he.places fun m hx => hn m (by simp [onames, hx])) (ih fun m hx => hn m (by simp [onames, hx]))

theorem OL.lt {w F ρ O fp} (h : OL w F ρ O fp) : ∀ b ∈ fp, b < w.heap.size := by
  induction h with
  | nil => simp
  | nilb _ _ _ ih => exact ih
  | cons hk hρ hρb hb hs hl hm hc he _ ih =>
    intro x hx
    simp at hx
    rcases hx with rfl | hx | hx
    · exact (Array.getElem?_eq_some_iff.1 hb).1
    · exact he.lt x hx
    · exact ih x hx

theorem OL.swap {w F ρ x y O fp} (h : OL w F ρ (x :: y :: O) fp) : ∃ fp', OL w F ρ (y :: x :: O) fp' ∧ fp.Perm fp' := by
  have perm : ∀ (A B C : List Nat) (b b' : Nat), (b :: (A ++ b' :: (B ++ C))).Perm (b' :: (B ++ b :: (A ++ C))) := by
    intro A B C b b'
    have e1 : (b :: (A ++ b' :: (B ++ C))) = ([b] ++ A) ++ (([b'] ++ B) ++ C) := by simp
    have e2 : (b' :: (B ++ b :: (A ++ C))) = ([b'] ++ B) ++ (([b] ++ A) ++ C) := by simp
    rw [e1, e2]
    exact List.perm_append_comm_assoc _ _ _
  cases h with
  | nilb hk hρ h => cases h with
    | nilb hk2 hρ2 h2 => exact ⟨_, .nilb hk2 hρ2 (.nilb hk hρ h2), .refl _⟩
    | cons hk2 hρ2 hρb2 hb2 hs2 hl2 hm2 hc2 he2 h2 => exact ⟨_, .cons hk2 hρ2 hρb2 hb2 hs2 hl2 hm2 hc2 he2 (.nilb hk hρ h2), .refl _⟩
  | cons hk hρ hρb hb hs hl hm hc he h => cases h with
    | nilb hk2 hρ2 h2 => exact ⟨_, .nilb hk2 hρ2 (.cons hk hρ hρb hb hs hl hm hc he h2), .refl _⟩
    | cons hk2 hρ2 hρb2 hb2 hs2 hl2 hm2 hc2 he2 h2 => exact ⟨_, .cons hk2 hρ2 hρb2 hb2 hs2 hl2 hm2 hc2 he2 (.cons hk hρ hρb hb hs hl hm hc he h2), perm _ _ _ _ _⟩

theorem OL.tail {w F ρ x O fp} (h : OL w F ρ (x :: O) fp) : ∃ fp1 fp2, fp = fp1 ++ fp2 ∧ OL w F ρ O fp2 ∧ ∀ O' fp', OL w F ρ O' fp' → OL w F ρ (x :: O') (fp1 ++ fp') := by
  cases h with
  | nilb hk hρ h => exact ⟨[], _, rfl, h, fun O' fp' h' => .nilb hk hρ h'⟩
  | @cons _ b _ _ _ _ _ _ f1 f2 hk hρ hρb hb hs hl hm hc he h => exact ⟨b :: f1, f2, by simp, h, fun O' fp' h' => by simpa using OL.cons hk hρ hρb hb hs hl hm hc he h'⟩

theorem OL.pull {w F ρ O fp n k els} (h : OL w F ρ O fp) (hl : olook n O = some (k, els)) : ∃ fp', OL w F ρ ((n, k, els) :: oerase n O) fp' ∧ fp.Perm fp' := by
  induction O generalizing fp with
  | nil => simp [olook] at hl
  | cons x O ih =>
    obtain ⟨m, k', els'⟩ := x
    simp only [olook] at hl
    split at hl
    · rename_i hmn
      subst hmn
      simp only [Option.some.injEq, Prod.mk.injEq] at hl
      obtain ⟨rfl, rfl⟩ := hl
      simp only [oerase, if_true]
      exact ⟨_, h, .refl _⟩
    · rename_i hmn
      obtain ⟨f1, f2, rfl, h2, hcons⟩ := h.tail
      obtain ⟨fp', h', hp⟩ := ih h2 hl
      obtain ⟨fp'', h'', hp'⟩ := (hcons _ _ h').swap
      simp only [oerase, if_neg hmn]
      exact ⟨_, h'', ((List.Perm.refl f1).append hp).trans hp'⟩

theorem OL.push {w F ρ O fp n k els} (h : OL w F ρ ((n, k, els) :: oerase n O) fp) (hl : olook n O = some (k, els)) : ∃ fp', OL w F ρ O fp' ∧ fp.Perm fp' := by
  induction O generalizing fp with
  | nil => simp [olook] at hl
  | cons x O ih =>
    obtain ⟨m, k', els'⟩ := x
    simp only [olook] at hl
    split at hl
    · rename_i hmn
      subst hmn
      simp only [Option.some.injEq, Prod.mk.injEq] at hl
      obtain ⟨rfl, rfl⟩ := hl
      simp only [oerase, if_true] at h
      exact ⟨_, h, .refl _⟩
    · rename_i hmn
      simp only [oerase, if_neg hmn] at h
      obtain ⟨fp', h', hp⟩ := h.swap
      obtain ⟨f1, f2, rfl, h2, hcons⟩ := h'.tail
      obtain ⟨fp3, h3, hp3⟩ := ih h2 hl
      exact ⟨_, hcons _ _ h3, hp.trans ((List.Perm.refl f1).append hp3)⟩

theorem olook_oset {n k els els' O} (h : olook n O = some (k, els)) : olook n (oset n els' O) = some (k, els') := by
  induction O with
  | nil => simp [olook] at h
  | cons x O ih =>
    obtain ⟨m, k', e⟩ := x
    simp only [olook] at h
    simp only [oset]
    split at h
    · rename_i hmn; simp at h; simp [hmn, olook, h]
    · rename_i hmn; simp [hmn, olook, ih h]
theorem oerase_oset (n : Nat) (els' : List RV) (O : List Bk) : oerase n (oset n els' O) = oerase n O := by
  induction O with
  | nil => rfl
  | cons x O ih =>
    obtain ⟨m, k', e⟩ := x
    simp only [oset, oerase]
    split
    · rename_i hmn; simp [oerase, hmn]
    · rename_i hmn; simp [oerase, hmn, ih]
theorem onames_oerase {n m : Nat} {O : List Bk} (h : m ∈ onames (oerase n O)) : m ∈ onames O := by
  induction O with
  | nil => simpa [oerase] using h
  | cons x O ih =>
    obtain ⟨q, k', e⟩ := x
    simp only [oerase] at h
    split at h
    · simp [onames, h]
    · simp only [onames, List.mem_cons, List.mem_append] at h ⊢
      rcases h with h | h | h
      · exact .inl h
      · exact .inr (.inl h)
      · exact .inr (.inr (ih h))
theorem onames_olook {n k els m} {O : List Bk} (h : olook n O = some (k, els)) (hm : m = n ∨ m ∈ RV.namesL els) : m ∈ onames O := by
  induction O with
  | nil => simp [olook] at h
  | cons x O ih =>
    obtain ⟨q, k', e⟩ := x
    simp only [olook] at h
    split at h
    · rename_i hq; simp at h; rcases hm with rfl | hm
      · simp [onames, hq]
      · simp [onames, h, hm]
    · simp [onames, ih h]

/-- A symbolic state. -/
structure St where
  fr : List RV
  O : List Bk

/-- How a call began: its world, what was frozen, what it was handed to own. -/
structure Env where
  w0 : World
  F0 : Nat → Prop
  B0 : Nat → Prop

structure RelX (E : Env) (s : St) (a : Act) (w : World) (F : Nat → Prop) (ρ : Places) (fp : List Nat) : Prop where
  defers : a.defers = []
  size : a.tmps.size = s.fr.length
  fr : ∀ i, SV w F ρ (lget s.fr i) (a.tmps.getD i undef) []
  O : OL w F ρ s.O fp
  nodup : fp.Nodup
  fpF : ∀ b ∈ fp, ¬ F b
  fpE : ∀ b ∈ fp, E.B0 b ∨ E.w0.heap.size ≤ b
  F0 : ∀ b, E.F0 b → F b
  Fn : ∀ b, F b → E.F0 b ∨ E.w0.heap.size ≤ b
  Fs : ∀ b, F b → b < w.heap.size
  keep : ∀ b, b < E.w0.heap.size → ¬ E.B0 b → w.heap[b]? = E.w0.heap[b]?
  hsize : E.w0.heap.size ≤ w.heap.size
  os : w.os = E.w0.os
  tape : w.tape = E.w0.tape
  output : w.output = E.w0.output

def Rel (E : Env) (s : St) (a : Act) (w : World) : Prop := ∃ F ρ fp, RelX E s a w F ρ fp

/-- The world goes on; what was there stays. -/
theorem RelX.world {E s a w F ρ fp} (h : RelX E s a w F ρ fp) {w' : World} {F' : Nat → Prop} (hF : ∀ b, F b → F' b) (hF' : ∀ b, F' b → (F b ∨ w.heap.size ≤ b) ∧ b < w'.heap.size)
    (hb : ∀ b, b < w.heap.size → w'.heap[b]? = w.heap[b]?) (hsz : w.heap.size ≤ w'.heap.size) (h1 : w'.os = w.os) (h2 : w'.tape = w.tape) (h3 : w'.output = w.output) : RelX E s a w' F' ρ fp := by
  have hFb : ∀ b, F b → F' b ∧ w'.heap[b]? = w.heap[b]? := fun b hx => ⟨hF b hx, hb b (h.Fs b hx)⟩
  have hfp : ∀ b ∈ fp, w'.heap[b]? = w.heap[b]? := fun b hx => hb b (h.O.lt b hx)
  refine ⟨h.defers, h.size, fun i => (h.fr i).mono hFb (by simp), h.O.mono hFb hfp, h.nodup, ?_, h.fpE, fun b hx => hF b (h.F0 b hx), ?_, fun b hx => (hF' b hx).2, ?_, Nat.le_trans h.hsize hsz, h1.trans h.os, h2.trans h.tape, h3.trans h.output⟩
  · intro b hx hx'
    rcases (hF' b hx').1 with h4 | h4
    · exact h.fpF b hx h4
    · exact absurd (h.O.lt b hx) (by omega)
  · intro b hx
    rcases (hF' b hx).1 with h4 | h4
    · exact h.Fn b h4
    · exact .inr (Nat.le_trans h.hsize h4)
  · intro b h4 h5
    rw [hb b (Nat.lt_of_lt_of_le h4 h.hsize)]
    exact h.keep b h4 h5

theorem RelX.drew {E s a w F ρ fp} (h : RelX E s a w F ρ fp) : RelX E s a { w with drawn := w.drawn + 1 } F ρ fp :=
  h.world (fun _ hx => hx) (fun b hx => ⟨.inl hx, h.Fs b hx⟩) (fun _ _ => rfl) (Nat.le_refl _) rfl rfl rfl
theorem Rel.drew {E s a w} (h : Rel E s a w) : Rel E s a { w with drawn := w.drawn + 1 } := let ⟨F, ρ, fp, h⟩ := h; ⟨F, ρ, fp, h.drew⟩

def sput (d : Option Tmp) (r : RV) (fr : List RV) : List RV := match d with | some d => lset fr d r | none => fr

theorem getD_set (t : Array Value) (d i : Nat) (y u : Value) : (t.setIfInBounds d y).getD i u = if i = d ∧ d < t.size then y else t.getD i u := by
  simp only [Array.getD_eq_getD_getElem?, Array.getElem?_setIfInBounds]
  by_cases h : d = i
  · subst h; by_cases h2 : d < t.size <;> simp [h2]
  · have : ¬ i = d := fun e => h e.symm
    simp [h, this]

theorem RelX.put {E s a w F ρ fp} (h : RelX E s a w F ρ fp) (d : Option Tmp) {r y} (hv : SV w F ρ r y []) : RelX E ⟨sput d r s.fr, s.O⟩ (a.put d y) w F ρ fp := by
  cases d with
  | none => exact { h with }
  | some d =>
    refine { h with size := ?_, fr := ?_ }
    · simp [Act.put, sput, h.size]
    · intro i
      simp only [Act.put, sput, lget_lset, getD_set, h.size]
      split
      · exact hv
      · exact h.fr i

def St.get (s : St) : Operand → RV
  | .tmp t => lget s.fr t
  | .const x => .v x
  | .func f => .v (.func (.func f) #[] #[])
  | .global _ => .any

theorem RelX.get {E s a w F ρ fp} (h : RelX E s a w F ρ fp) (x : Operand) : SV w F ρ (s.get x) (a.eval x) [] := by
  cases x with
  | tmp t => exact h.fr t
  | const y => exact .one (.v y)
  | func f => exact .one (.v _)
  | global g => exact .one (.any _)

/-- What an exact value stands for. -/
theorem SV.exact {w F ρ x y fp} (h : SV w F ρ (.v x) y fp) : y = x := by
  cases h with
  | one h => cases h with
    | v => rfl
    | cell ha h =>
      generalize hc : [y] = cs at h
      cases h with
      | fz h1 h2 =>
        cases h1 with
        | v x' h1' h3 => cases h3; cases h2; simpa using hc

end Eng
end Go.Proofs.Ytpbokegnbipbjaa
