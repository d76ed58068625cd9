/- Rules of the engine: calls of a function that stands in a slot; a block of frozen lists cut and cleared. No condition. -/
import Derived.Test.YtmfbcipjknjicaaGreatDoorJ8
namespace Go.Proofs.YtmfbcipjknjicaaGreatDoor
set_option linter.unusedSectionVars false
variable [One Bool]
set_option linter.unusedSimpArgs false
set_option linter.unusedVariables false
set_option maxHeartbeats 0
set_option maxRecDepth 100000
namespace Eng
open Go.RowKit
section
variable {P : Program} {s : St} {d : Tmp} {ty : TypeId} {pos : String} {after : Array Edge} {g : Option (Nat × Bool)}
theorem run_callS {o : Oper} {a : Act} {w : World} {t : Tmp} {f args ats} (ho : o.op = .call ⟨.value (.tmp t), args, ats⟩) (hf : a.eval (.tmp t) = .func (.func f) #[] #[]) (hc : callable P f = true) : (execOp a.eval o).run P w = .ok (.enter f (args.map a.eval)) w := by
  unfold callable at hc
  split at hc
  · rename_i fn hfn
    simp only [Bool.and_eq_true, bne_iff_ne] at hc
    obtain ⟨bd, hb⟩ := Option.isSome_iff_exists.1 hc.1
    simp [execOp, ho, resolve, hf, Deferred.ofValue, invoke, callFunc, hfn, hc.2, hb]
  · cases hc
theorem ops_callS {t : Tmp} {f args ats argsR r} (hfn : s.get (.tmp t) = .v (.func (.func f) #[] #[]) := by rfl) (hargs : args.toList.map s.get = argsR := by rfl) (hnt : argsR.all RV.notTup = true := by rfl) (hc : callable P f = true := by kernel_rfl) (hfc : FCr P f argsR r) :
    OpS P ⟨some d, .call ⟨.value (.tmp t), args, ats⟩, ty, pos, after, g⟩ s ⟨lset s.fr d r.fzR, s.O⟩ := by
  rintro E a w ⟨F, ρ, fp, h⟩ K Q hK
  have hA := h.args args.toList (by rw [hargs]; exact hnt)
  rw [hargs] at hA
  simp only [Oper.wp, run_callS (a := a) (w := w) (o := ⟨some d, .call ⟨.value (.tmp t), args, ats⟩, ty, pos, after, g⟩) rfl (h.ex hfn) hc, Oper.upon_enter]
  have hcall := hfc w F ρ _ [] hA (.nil h.O.gok) List.nodup_nil (fun b hb => nomatch hb) h.Fs
  rw [show (args.toList.map a.eval).toArray = args.map a.eval from Array.ext' (by rw [Array.toList_map])] at hcall
  refine hcall.mono ?_
  rintro e w' ⟨v, rv, Oout, F', ρ', fp1, fp2, rfl, ⟨rfl, rfl⟩, hsv, hO2, hnd, hfp, hF, hF', hb, hsz, h1, h2, h3, _⟩
  have hfp1 : ∀ b ∈ fp1, w.heap.size ≤ b := fun b hb => by have := (hfp b (by simp [hb])).2; simpa using this
  have hx := h.world (w' := w') (F' := fun b => F' b ∨ b ∈ fp1) (fun b hb => .inl (hF b hb)) (fun b hb => by
    rcases hb with hb | hb
    · have := hF' b hb; simpa using this
    · exact ⟨.inr (hfp1 b hb), hsv.lt b hb⟩) (fun b hb' => hb b hb' (by simp)) hsz h1 h2 h3
  have hs' : SV w' (fun b => F' b ∨ b ∈ fp1) ρ' rv.fzR v [] := hsv.fzR (fun b hb => .inl hb) (fun b hb => .inr hb)
  refine hK _ _ ⟨_, _, _, hx.put (some d) ?_⟩
  exact hs'.noName (RV.fzR_names _)
theorem fs_callS {RO : Nat → Bool} {t : Tmp} {f : FuncId} {args : Array Operand} {ats : Array TypeId} {argsR : List RV} {r : RV} (hfn : s.get (.tmp t) = .v (.func (.func f) #[] #[]) := by rfl) (hargs : args.toList.map s.get = argsR := by rfl) (hnt : argsR.all RV.notTup = true := by rfl) (hc : callable P f = true := by kernel_rfl) (hfc : FCr P f argsR r) :
    Fs P RO ⟨some d, .call ⟨.value (.tmp t), args, ats⟩, ty, pos, after, g⟩ s r.fzR := by
  intro s2 hs _
  have hg : ∀ x ∈ args.toList, s2.get x = s.get x := fun x hx => hs x (by simp only [Op.operands, Call.operands, Array.toList_append]; simp [hx])
  exact ops_callS (hfn := (hs _ (by simp [Op.operands, Call.operands])).trans hfn) (hargs := by rw [List.map_congr_left hg]; exact hargs) hnt hc hfc
end
section
variable {P : Program} {RO : Nat → Bool} {s : St} {d : Option Tmp} {ty : TypeId} {pos : String} {after : Array Edge} {g : Option (Nat × Bool)}
theorem fs_subn {x y t u} {a b : Nat} (hx : s.get x = .v (.int .i64 (a : Nat))) (hy : s.get y = .v (.int .i64 (b : Nat))) (h : b ≤ a) (h2 : a ≤ 9223372036854775807) : Fs P RO ⟨d, .binOp .sub t x y u, ty, pos, after, g⟩ s (.v (.int .i64 ((a - b : Nat) : Int))) := fun s2 hs hO =>
  ops_subn ((hs _ (by simp [Op.operands])).trans hx) ((hs _ (by simp [Op.operands])).trans hy) h h2
end
theorem le_cutP {fr : List RV} {O O' : List Bk} (n i : Nat) {k : Nat} {els : List RV} (ho : olook n O = some (k, els)) (hk0 : 0 < k) (hp : ∀ {w : World} {F : Nat → Prop} {ρ : Places} {cs : List Value} {fp : List Nat}, OE w F ρ k els cs fp → fp = []) (e2 : oset n (els.take i) O = O') : LE ⟨fr, O⟩ ⟨fr, O'⟩ := by
  subst e2
  refine ⟨?_⟩
  rintro E a w ⟨F, ρ, fp, hr⟩
  obtain ⟨fp', hr'⟩ := hr.front ho
  have ho' : olook n (oset n (els.take i) O) = some (k, els.take i) := olook_oset ho
  have key : ∃ fp2, OL w F ρ ((n, k, els.take i) :: oerase n O) fp2 ∧ fp2 = fp' := by
    cases hr'.O with
    | map => exact absurd hk0 (by omega)
    | nilb hk hρ h => rw [List.take_nil]; exact ⟨_, .nilb hk hρ h, rfl⟩
    | @cons _ b _ _ tb c cells _ fp1 fpr hk hρ hρb hb hs hl hm hc he h =>
      have h0 := hp he
      subst h0
      have he' := he
      rw [← List.take_append_drop i els] at he'
      obtain ⟨c1, c2, f1, f2, e1, e3, hc1, h1, h2⟩ := he'.split
      obtain ⟨rfl, rfl⟩ := List.append_eq_nil_iff.1 e3.symm
      refine ⟨_, .cons (cells := c1) (fp1 := []) hk hρ hρb hb hs (by simp; omega) hm ?_ h1 h, rfl⟩
      have hq : (els.take i).length ≤ els.length := by simp; omega
      have : (c.toList.take (els.length * k)).take ((els.take i).length * k) = c1 := by rw [hc, e1, List.take_left' hc1]
      rw [List.take_take, Nat.min_eq_left (Nat.mul_le_mul_right _ hq)] at this
      exact this
  obtain ⟨fp2, hO, rfl⟩ := key
  have hfin : RelX E ⟨fr, (n, k, els.take i) :: oerase n O⟩ a w F ρ fp2 := { hr' with O := hO }
  have hfin2 : RelX E ⟨fr, (n, k, els.take i) :: oerase n (oset n (els.take i) O)⟩ a w F ρ fp2 := by rw [oerase_oset]; exact hfin
  obtain ⟨fp3, h3⟩ := hfin2.back ho'
  exact ⟨F, ρ, fp3, h3⟩
theorem ris_nofp : ∀ (l : List (List Int)) {w : World} {F : Nat → Prop} {ρ : Places} {cs : List Value} {fp : List Nat}, OE w F ρ 1 (l.map RIs) cs fp → fp = [] := by
  intro l w F ρ cs fp h
  refine h.plain_fpL ?_
  simp [RV.plain]
theorem le_cutH {fr : List RV} {O O' : List Bk} (n i : Nat) {l l' : List (List Int)} (ho : olook n O = some (1, l.map RIs)) (e : l.take i = l') (e2 : oset n (l'.map RIs) O = O') : LE ⟨fr, O⟩ ⟨fr, O'⟩ :=
  le_cutP n i ho (by omega) (ris_nofp l) (by rw [← List.map_take, e]; exact e2)
section
variable {P : Program} {s : St} {d : Option Tmp} {ty : TypeId} {pos : String} {after : Array Edge} {g : Option (Nat × Bool)}
theorem fe_nils {w : World} {F : Nat → Prop} : ∀ m : Nat, FE w F 1 ((List.replicate m ([] : List Int)).map RIs) (List.replicate m (.slice none 0 0))
  | 0 => .nil _
  | m + 1 => by rw [List.replicate_succ, List.replicate_succ, List.map_cons]; exact .shnil _ _ (fe_nils m)
theorem zc_nils (m : Nat) : (Builtin.zeroCells (Value.slice none 0 0).cells m).toList = List.replicate m (Value.slice none 0 0) := by
  apply List.ext_getElem
  · simp [Builtin.zeroCells, Value.cells]
  · intro i h1 h2
    simp only [Builtin.zeroCells, Value.cells]
    simp [Nat.mod_one]
theorem ops_clearH {l : List (List Int)} {x t n off m} (hx : s.get x = .ref n off m) (ho : olook n s.O = some (1, l.map RIs)) (h0 : 0 < m) (h1 : off + m ≤ l.length)
    (ht : P.underlying t = some (.slice (P.elem t))) (hz : zeroOf P (P.elem t) = some (.slice none 0 0)) :
    OpS P ⟨d, .call ⟨.builtin .clear, #[x], #[t]⟩, ty, pos, after, g⟩ s ⟨sput d (.tup []) s.fr, oset n ((l.take off ++ List.replicate m [] ++ l.drop (off + m)).map RIs) s.O⟩ :=
  ops_of fun E a w F ρ fp hr => by
    have h3 := (show SV w F ρ (.ref n off m) (a.eval x) [] from hx ▸ hr.get x).ref_inv
    have hpos := (show SV w F ρ (.ref n off m) (a.eval x) [] from hx ▸ hr.get x).ref_pos
    obtain ⟨fp', hr'⟩ := hr.front ho
    obtain ⟨b, tb, c, fp1, fp2, hk, hρ, hρb, hb, hs, hl, hm, hE, hO2, rfl⟩ := hr'.O.head (by rintro e; have := congrArg List.length e; simp at this; subst this; simp at h1; omega) hpos
    have hnf := ris_nofp l hE
    subst hnf
    simp only [hρb, Option.map_some, hρ, Nat.mul_one] at h3
    simp only [List.length_map, Nat.mul_one] at hl hE hs
    have hlc : l.length ≤ c.size := by omega
    have hst := run_storeCells_at P b off tb (List.replicate m (.slice none 0 0)) 0 c w hb (by simp; omega) (by intro y hy; rw [(List.mem_replicate.1 hy).2]; rfl)
    simp only [Nat.add_zero] at hst
    have hne : c.toList.take off ++ List.replicate m (Value.slice none 0 0) ++ c.toList.drop (off + m) = (c.toList.take off ++ List.replicate m (.slice none 0 0) ++ c.toList.drop (off + (List.replicate m (Value.slice none 0 0)).length)) := by simp
    -- the new cells
    have hsp : OE w F ρ 1 ((l.take off).map RIs ++ ((l.drop off).take m).map RIs ++ (l.drop (off + m)).map RIs) (c.toList.take l.length) [] := by
      have e : (l.take off).map RIs ++ ((l.drop off).take m).map RIs ++ (l.drop (off + m)).map RIs = l.map RIs := by
        rw [← List.map_append, ← List.map_append, List.append_assoc, ← List.drop_drop, List.take_append_drop, List.take_append_drop]
      rw [e]; exact hE
    obtain ⟨q1, q3, f1, f3, e1, e2, hq1, hA, hC⟩ := hsp.split
    obtain ⟨rfl, rfl⟩ := List.append_eq_nil_iff.1 e2.symm
    obtain ⟨p1, p2, g1, g2, e3, e4, hp1, hA1, hA2⟩ := hA.split
    obtain ⟨rfl, rfl⟩ := List.append_eq_nil_iff.1 e4.symm
    subst e3
    have hl1 : p1.length = off := by rw [hp1]; simp; omega
    have hl2 : p2.length = m := by have := hA2.length; rw [this]; simp; omega
    have hl3 : q3.length = l.length - (off + m) := by have := hC.length; rw [this]; simp
    have hnil : OE w F ρ 1 ((List.replicate m ([] : List Int)).map RIs) (List.replicate m (.slice none 0 0)) [] := by
      exact OE.of_FE (fe_nils m)
    have hnew : OE w F ρ 1 ((l.take off ++ List.replicate m [] ++ l.drop (off + m)).map RIs) (p1 ++ List.replicate m (.slice none 0 0) ++ q3) [] := by
      rw [List.map_append, List.map_append]
      exact OE.append (fp1 := []) (OE.append (fp1 := []) hA1 hnil) hC
    have hlen2 : (l.take off ++ List.replicate m [] ++ l.drop (off + m)).length = l.length := by simp; omega
    have ht1 : c.toList.take off = p1 := by
      have := congrArg (List.take off) e1
      rw [List.take_take, Nat.min_eq_left (by omega), List.append_assoc, List.take_left' hl1] at this
      exact this
    have ht3 : (c.toList.drop (off + m)).take (l.length - (off + m)) = q3 := by
      have := congrArg (List.drop (off + m)) e1
      rw [List.drop_take, List.drop_left' (by simp [hl1, hl2])] at this
      exact this
    have hcells : (c.toList.take off ++ List.replicate m (Value.slice none 0 0) ++ c.toList.drop (off + m)).take l.length = p1 ++ List.replicate m (.slice none 0 0) ++ q3 := by
      rw [ht1, List.take_append, List.take_of_length_le (by simp [hl1]; omega)]
      congr 1
      rw [show l.length - (p1 ++ List.replicate m (Value.slice none 0 0)).length = l.length - (off + m) by simp [hl1]]
      exact ht3
    have hfin := hr'.modify (els' := (l.take off ++ List.replicate m [] ++ l.drop (off + m)).map RIs) (ty := tb) (c' := (c.toList.take off ++ List.replicate m (Value.slice none 0 0) ++ c.toList.drop (off + m)).toArray) (fp1' := [])
      (w' := w.setRow b (c.toList.take off ++ List.replicate m (Value.slice none 0 0) ++ c.toList.drop (off + m)).toArray) hk hρ hρb hm hO2 (by simp) (fun j hj => setRow_other w b j _ hj) (setRow_heap w b c _ tb _ hb) (by simp; omega) (by rw [List.length_map, hlen2]; exact hl)
      (by rw [List.length_map, hlen2, Nat.mul_one]; rw [show (c.toList.take off ++ List.replicate m (Value.slice none 0 0) ++ c.toList.drop (off + m)).toArray.toList = c.toList.take off ++ List.replicate m (Value.slice none 0 0) ++ c.toList.drop (off + m) from rfl, hcells]; exact hnew) hr'.nodup (fun x hx => by cases hx) rfl ⟨rfl, .inl (Nat.le_refl _)⟩ rfl
    rw [← oerase_oset n ((l.take off ++ List.replicate m [] ++ l.drop (off + m)).map RIs) s.O] at hfin
    obtain ⟨fp4, h4⟩ := hfin.back (olook_oset ho)
    obtain ⟨m', rfl⟩ : ∃ m', m = m' + 1 := ⟨m - 1, by omega⟩
    refine ⟨_, _, ?_, F, ρ, fp4, h4.put d (.tup .nil)⟩
    have hzz := zc_nils (m' + 1)
    rw [← hne] at hst
    simp [execOp, resolve, invoke, builtin, h3, Builtin.clear_, run_underlying ht, run_zeroValue hz, hzz, hst]
end
end Eng
end Go.Proofs.YtmfbcipjknjicaaGreatDoor
