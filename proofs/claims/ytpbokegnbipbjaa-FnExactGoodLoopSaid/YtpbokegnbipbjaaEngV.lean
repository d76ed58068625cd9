/- The engine, part V: what a row's arguments read, seen as symbolic values; a law that answers true and leaves its arguments as they read. No condition. -/
import Derived.Test.YtpbokegnbipbjaaEngU
import Derived.ProofKit
import Derived.Carry
import Derived.Below
import Derived.Deep.Slices
namespace Go.Proofs.Ytpbokegnbipbjaa
namespace Eng
open Go.ChangeShapes Go.WideShapes Go.ChangeAt Go.RowKit

/-- Below the heap's size. -/
def old (W : World) : Nat → Prop := fun b => b < W.heap.size

/-- Whatever stands for a datum of the type is an f of something that has Q. -/
def Reads (P : Program) (t : TypeId) {α : Type} (k : Nat) (f : α → RV) (Q : α → Prop) : Prop :=
  ∀ {H : Type} (enc : TypeId × Value → H) (W : World) (sp : Nat → Bool) (fuel : Nat) (cs : List Value) (x : DataW H × List MemPlace), DataW.trod enc P W 0 sp true fuel t cs = some x → ∃ y, FE W (old W) k [f y] cs ∧ Q y

theorem reads_int {P : Program} {t : TypeId} {k : IntKind} (ht : P.underlying t = some (.int k)) : Reads P t 1 (fun n => .v (.int k n)) (fun n => (Lit.int k n).wf = true) := by
  intro H enc W sp fuel cs x h
  obtain ⟨n, rfl, _, hw⟩ := DataW.trod_int ht h
  exact ⟨n, .v _ rfl (.nil _), hw⟩
theorem reads_bool {P : Program} {t : TypeId} (ht : P.underlying t = some .bool) : Reads P t 1 RVb (fun _ => True) := by
  intro H enc W sp fuel cs x h
  obtain ⟨b, rfl, _⟩ := DataW.trod_bool ht h
  exact ⟨b, .v _ rfl (.nil _), trivial⟩
theorem reads_string {P : Program} {t : TypeId} (ht : P.underlying t = some .string) : Reads P t 1 RV.str (fun p => p.length ≤ maxLen) := by
  intro H enc W sp fuel cs x h
  obtain ⟨s, rfl, _, hw⟩ := DataW.trod_string ht h
  refine ⟨s.data.toList, ?_, by simpa using hw⟩
  have : RV.str s.data.toList = .v (.string s) := by
    simp [RV.str]
  rw [this]
  exact .v _ rfl (.nil _)
theorem reads_slice {P : Program} {t e : TypeId} {α : Type} {k : Nat} {f : α → RV} {Q : α → Prop} (ht : P.underlying t = some (.slice e)) (hk : P.cellsOf e = k) (h0 : 0 < k) (he : Reads P e k f Q) :
    Reads P t 1 (fun l : List α => .sh (l.map f)) (fun l => l.length ≤ maxLen ∧ ∀ x ∈ l, Q x) := by
  intro H enc W sp fuel cs x h
  rcases Deep.open_slice ht h with ⟨rfl, _⟩ | ⟨a, len, cap, m, n, Dd, Pl, rfl, hb, hl, hm, hmm, _, hx⟩
  · exact ⟨[], .shnil none 0 (.nil _), by simp [maxLen], by simp⟩
  · rw [hk] at hx
    have hlm : len ≤ m := by rw [hmm]; split <;> omega
    have key : ∀ q, q ≤ len → ∃ (l : List α) (cells : List Value), l.length = q ∧ cells.length = q * k ∧ CellsAt W a cells ∧ FE W (old W) k (l.map f) cells ∧ ∀ x ∈ l, Q x := by
      intro q
      induction q with
      | zero => intro _; exact ⟨[], [], rfl, by simp, by intro j x hj; simp at hj, .nil _, by simp⟩
      | succ q ih =>
        intro hq
        obtain ⟨l, cells, h1, h2, h3, h4, h5⟩ := ih (by omega)
        obtain ⟨cs', hc, hd⟩ := hx q (by omega)
        obtain ⟨y, hy, hQ⟩ := he enc W sp n cs' _ hd
        obtain ⟨_, hcl, hce⟩ := World.cells?_some hc
        refine ⟨l ++ [y], cells ++ cs', by simp [h1], by simp [h2, hcl, Nat.add_mul], ?_, ?_, ?_⟩
        · intro j x hj
          by_cases hjl : j < cells.length
          · rw [List.getElem?_append_left hjl] at hj
            exact h3 j x hj
          · rw [List.getElem?_append_right (by omega)] at hj
            have hj2 : j - cells.length < k := by
              have := (List.getElem?_eq_some_iff.1 hj).1; omega
            have := hce (j - cells.length) hj2
            rw [Addr.add_add, show q * k + (j - cells.length) = j by omega, hj] at this
            exact this
        · rw [List.map_append]
          exact h4.append hy
        · intro x hx
          rcases List.mem_append.1 hx with hx | hx
          · exact h5 x hx
          · simp at hx; subst hx; exact hQ
    obtain ⟨l, cells, h1, h2, h3, h4, h5⟩ := key len (Nat.le_refl _)
    refine ⟨l, ?_, by omega, h5⟩
    by_cases hlen : len = 0
    · subst hlen
      have : l = [] := List.eq_nil_of_length_eq_zero h1
      subst this
      exact .shnil (some a) cap (.nil _)
    · have hblk : old W a.block := by
        have hc0 : 0 < cells.length := by rw [h2]; exact Nat.mul_pos (by omega) h0
        have := h3 0 _ (List.getElem?_eq_getElem hc0)
        have e : a.add 0 = a := by simp [Addr.add]
        rw [e] at this
        unfold old
        by_cases hlt : a.block < W.heap.size
        · exact hlt
        · have hn : W.heap[a.block]? = none := by simp; omega
          simp [World.cell?, hn] at this
      have := FE.sh (w := W) (F := old W) a cap k h0 hblk (by simp [h1]; omega) h3 h4 (.nil 1)
      simpa [h1] using this

/-- A struct of one, two, three, four fields of a cell each. -/
theorem reads_struct2 {P : Program} {t : TypeId} {f0 f1 : Field} {α β : Type} {f : α → RV} {g : β → RV} {Q : α → Prop} {R : β → Prop} (ht : P.underlying t = some (.struct #[f0, f1])) (hc : P.cellsOf t = 2) (o0 : f0.offset = 0) (o1 : f1.offset = 1) (c0 : P.cellsOf f0.type = 1) (c1 : P.cellsOf f1.type = 1)
    (h0 : Reads P f0.type 1 f Q) (h1 : Reads P f1.type 1 g R) : Reads P t 2 (fun x : α × β => .agg [f x.1, g x.2]) (fun x => Q x.1 ∧ R x.2) := by
  intro H enc W sp fuel cs x h
  obtain ⟨xs, n, rfl, _, hl, hxs, hf⟩ := DataW.trod_struct ht h
  have e0 := hf 0 f0 rfl
  have e1 := hf 1 f1 rfl
  rw [hc] at hl
  match cs, hl with
  | [u, v], _ =>
    simp only [o0, c0, List.drop_zero, List.take_succ_cons, List.take_zero] at e0
    simp only [o1, c1, List.drop_succ_cons, List.drop_zero, List.take_succ_cons, List.take_zero] at e1
    have hx2 : xs.length = 2 := by simpa using hxs
    rw [List.getElem?_eq_getElem (by omega)] at e0 e1
    obtain ⟨a, ha, hQ⟩ := h0 enc W sp n [u] _ e0
    obtain ⟨b, hb, hR⟩ := h1 enc W sp n [v] _ e1
    refine ⟨(a, b), ?_, hQ, hR⟩
    have := FE.agg (k := 2) (FE.cons ha hb) rfl (.nil 2)
    simpa using this

theorem s1_cell {W : World} {F : Nat → Prop} {ρ : Places} {v : Value} {r : RV} (hr : r.isAgg = false) (hv : v.cells = #[v]) (h : FE W F 1 [r] v.cells.toList) : S1 W F ρ r v [] := by
  rw [hv] at h
  exact .cell hr (OE.of_FE h)
theorem s1_agg {W : World} {F : Nat → Prop} {ρ : Places} {c : Array Value} {l : List RV} {k : Nat} (h : FE W F k [.agg l] (Value.agg c).cells.toList) : S1 W F ρ (.agg l) (.agg c) [] := by
  have h' : FE W F k [.agg l] c.toList := h
  generalize hc : c.toList = cs at h'
  cases h' with
  | agg hl hk h =>
    cases h
    simp only [List.append_nil] at hc
    subst hc
    exact .agg (OE.of_FE hl)

/-- The types that a row can read. -/
def rowTys (P : Program) (ts : List TypeId) : Bool := ts.all fun t => P.readableRec t && decide (t < P.types.size)
theorem trodAll_below {H : Type} {enc : TypeId × Value → H} {P : Program} (hl : laidOutB P = true) {W W' : World} (hb : Below W.heap.size W W') : ∀ {ts : List TypeId} {vs : List Value} {ds : List (DataW H)} {ps : List MemPlace}, rowTys P ts = true → DataW.TrodAll enc P W 0 (fun _ => true) true ts vs ds ps → (∀ x ∈ ps, x.block < W.heap.size) →
    DataW.TrodAll enc P W' 0 (fun b => decide (b < W.heap.size)) true ts vs ds ps
  | [], [], [], _, _, h, _ => h
  | t :: ts, v :: vs, d :: ds, ps, hr, ⟨p, q, h1, h2, e⟩, hlt => by
    simp only [rowTys, List.all_cons, Bool.and_eq_true, decide_eq_true_eq] at hr
    subst e
    exact ⟨p, q, Below.trod hl hr.1.1 hr.1.2 h1 hb (fun x hx => hlt x (by simp [hx])), trodAll_below hl hb hr.2 h2 (fun x hx => hlt x (by simp [hx])), rfl⟩

/-- A law that answers true and leaves its arguments as they read. -/
theorem law_lifted {H : Type} {enc : TypeId × Value → H} {C : Checked} {os : Os} {f : FuncId} {fn : Func} {s : ChangeSpec} {tb : TypeId}
    (own : ownKnob C.prog.godebug = none) (started : os.Started) (noInit : C.prog.inits.idxOf? f = none) (hfn : C.prog.funcs[f]? = some fn)
    (witness : ∃ (w : World) (tape : Tape) (i : Input), w.os = os ∧ (w.forCall tape i).Shaped C.prog ∧ i.vars = [] ∧ Input.okWide C.prog (w.forCall tape i) .any w.heap.size f i ∧
      s.pre6 enc C.prog fn [] false (w.forCall tape i).memory i.args ∧ ({} : Assume).holds C.prog (lone (Frame.enter C.prog f i.args .normal) [] (w.forCall tape i)))
    (hl : laidOutB C.prog = true) (hr : rowTys C.prog fn.params.toList = true) (hvars : s.vars = []) (hrt : fn.resultTypes = #[tb]) (htb : C.prog.underlying tb = some .bool)
    (hs : ∀ ds : List (DataW H), ds.length = fn.params.size → (s.fn H ds).results = [.lit (.bool true)] ∧ (s.fn H ds).args = ds ∧ (s.fn H ds).vars = [])
    (hread : ∀ (W : World) (base : Nat) (args : Array Value) (ds : List (DataW H)) (p : List MemPlace), (∀ (j : Nat) t v, fn.params[j]? = some t → args[j]? = some v → Value.okWide C.prog W .any base t v) → DataW.TrodAll enc C.prog W 0 (fun _ => true) true fn.params.toList args.toList ds p →
      ∃ rvs, SL W (old W) (fun _ => (none, 0, 0)) rvs args.toList [] ∧ FCr C.prog f rvs (.v (.bool true))) :
    ReturnsInHanded {} C os f .any (s.pre6 enc C.prog fn [] false) (s.post enc C.prog fn false true false false) := by
  refine returnsInHanded_of_change own started noInit hfn witness ?_
  intro W base args ds gs before hval hW _ _
  have hW' := hW
  obtain ⟨p, q, hA, hV, hbf, _, _⟩ := hW
  obtain ⟨rvs, hSL, hFC⟩ := hread W base args ds p hval hA
  have hrun := hFC W (old W) _ _ [] hSL .nil List.nodup_nil (fun b hb => nomatch hb) (fun b hb => hb)
  refine hrun.mono fun e W' ⟨v, rv, Oout, F', ρ', fp1, fp2, he, ⟨hrv, _⟩, hsv, _, _, _, _, _, hkeep, hsz, h1, h2, h3⟩ => ?_
  subst hrv
  have hv : v = .bool true := by
    cases hsv with
    | one h => cases h with
      | v => rfl
      | cell _ h =>
        rcases h.single rfl with ⟨h, _⟩ | ⟨_, _, _, _, _, _, _, e, _⟩ | ⟨_, _, _, e, rfl, _⟩ | ⟨_, _, _, e, _⟩ | ⟨_, e, _⟩
        · cases h; rfl
        · cases e
        · cases e
        · cases e
        · cases e
  subst hv
  have hbel : Below W.heap.size W W' := ⟨h1, h2, h3, hsz, fun k hk => hkeep k hk (by simp)⟩
  have hgs : gs = [] ∧ q = [] := by
    rw [hvars] at hV
    cases gs with
    | nil => exact ⟨rfl, hV⟩
    | cons _ _ => simp [DataW.TrodVars] at hV
  obtain ⟨rfl, rfl⟩ := hgs
  have hlen : ds.length = fn.params.size := by
    have key : ∀ {ts : List TypeId} {vs : List Value} {ds : List (DataW H)} {ps : List MemPlace}, DataW.TrodAll enc C.prog W 0 (fun _ => true) true ts vs ds ps → ds.length = ts.length := by
      intro ts
      induction ts with
      | nil => intro vs ds ps h; cases vs <;> cases ds <;> simp [DataW.TrodAll] at h ⊢
      | cons t ts ih =>
        intro vs ds ps h
        cases vs with
        | nil => simp [DataW.TrodAll] at h
        | cons v vs => cases ds with
          | nil => simp [DataW.TrodAll] at h
          | cons d ds =>
            obtain ⟨_, _, _, h2, _⟩ := h
            simp [ih h2]
    have := key hA
    simpa using this
  obtain ⟨hs1, hs2, hs3⟩ := hs ds hlen
  refine ⟨_, he, ds, [], before, [], p, [], hW', ?_, ?_, ?_, hbel.frame _, fun h => by cases h⟩
  · rw [List.append_nil, hs1, hrt]
    exact ⟨[], [], ⟨1, by simp [DataW.trod, htb, Value.cells]⟩, rfl, rfl⟩
  · rw [List.append_nil, hs2]
    exact trodAll_below hl hbel hr hA (fun x hx => hW'.lt x (by rw [hbf]; simp [hx]))
  · rw [List.append_nil, hs3, hvars]; rfl
end Eng
end Go.Proofs.Ytpbokegnbipbjaa
