/- The program's winning moves of misere play. For all arguments. -/
import Derived.Test.YtmfbcipjknjicaaGreatDoorEf
import Derived.Test.YtmfbcipjknjicaaGreatDoorJ37
import Derived.Test.YtmfbcipjknjicaaGreatDoorSpV
namespace Go.Proofs.YtmfbcipjknjicaaGreatDoor
set_option linter.unusedSectionVars false
variable [One Bool]
open Eng
attribute [local irreducible] OpS OpG FC FCr Rel Fl Ef DR Fs
attribute [local simp] RV.fzR_names
set_option linter.unusedSimpArgs false
set_option linter.unusedVariables false
set_option maxHeartbeats 0
set_option maxRecDepth 100000

theorem nx_all {c : List Int} (hc : gcode c = true) : ∃ nx : List Int → Nat → Nat → Mem → Mem, ∀ p t o m, vld p t o → memOk c m → memOk c (nx p t o m) ∧ VC c p t o m (nx p t o m) := by
  classical
  refine ⟨fun p t' o' m => if H : ∃ m', memOk c m' ∧ VC c p t' o' m m' then H.choose else m, fun p t' o' m h1 h3 => ?_⟩
  have H := value_all c hc _ p t' o' m h1 (Nat.lt_succ_self _) h3
  dsimp only
  rw [dif_pos H]
  exact H.choose_spec
end Go.Proofs.YtmfbcipjknjicaaGreatDoor
/- The program's row of misere values of single heaps. For all arguments. -/
namespace Go.Proofs.YtmfbcipjknjicaaGreatDoor
set_option linter.unusedSectionVars false
variable [One Bool]
open Eng
attribute [local irreducible] OpS OpG FC FCr Rel Fl Ef DR Fs
attribute [local simp] RV.fzR_names
set_option linter.unusedSimpArgs false
set_option linter.unusedVariables false
set_option maxHeartbeats 0
set_option maxRecDepth 100000

end Go.Proofs.YtmfbcipjknjicaaGreatDoor
/- The reference's misere values, winning moves and rows. For all arguments. -/
namespace Go.Proofs.YtmfbcipjknjicaaGreatDoor
set_option linter.unusedSectionVars false
variable [One Bool]
open Eng
attribute [local irreducible] OpS OpG FC FCr Rel Fl Ef DR Fs
attribute [local simp] RV.fzR_names
set_option linter.unusedSimpArgs false
set_option linter.unusedVariables false
set_option maxHeartbeats 0
set_option maxRecDepth 100000

theorem sbook_new (c : List Int) : ∃ K0 V0 : List Int, bookOk c K0 V0 ∧ FC Tryz.prog 37 [RIs c] [] fun rv O => rv = .ptr 9 0 0 ∧ O = [(9, 3, [.agg [RIs c, .ref 6 0 8192, .ref 7 0 8192]]), (6, 1, K0.map RVi), (7, 1, V0.map RVi)] := ⟨_, _, bookOk_new c, l19New_ok c⟩
namespace Eng
theorem l_book {P : Program} {d : Tmp} {ty : TypeId} {pos : String} {after : Array Edge} {ops : Array Oper} {rest R} {fr : List RV} {O : List Bk} {f args ats} {c K0 V0 : List Int} (δ n a b : Nat)
    (hfc : FC P f [RIs c] [] fun rv O' => rv = .ptr 9 0 0 ∧ O' = [(9, 3, [.agg [RIs c, .ref 6 0 8192, .ref 7 0 8192]]), (6, 1, K0.map RVi), (7, 1, V0.map RVi)])
    (hn : 9 + δ = n := by rfl) (ha : 6 + δ = a := by rfl) (hb : 7 + δ = b := by rfl)
    (hargs : args.toList.map (⟨fr, O⟩ : St).get = [RIs c] := by rfl) (hc : callable P f = true := by kernel_rfl) (hlt : n < 1000000000000 := by decide)
    (hm : n ∉ RV.namesL fr ∧ a ∉ RV.namesL fr ∧ b ∉ RV.namesL fr := by simp [nm]) (hmO : n ∉ onames O ∧ a ∉ onames O ∧ b ∉ onames O := by simp [nm, onames]) {fr' : List RV} (e : lset fr d (.ptr n 0 0) = fr' := by simp only [lset] <;> rfl)
    (hk : L P ops rest R ⟨fr', (n, 3, [.agg [RIs c, .ref a 0 8192, .ref b 0 8192]]) :: (a, 1, K0.map RVi) :: (b, 1, V0.map RVi) :: O⟩) : L P ops (⟨some d, .call ⟨.value (.func f), args, ats⟩, ty, pos, after, none⟩ :: rest) R ⟨fr, O⟩ := by
  subst hn; subst ha; subst hb; subst e
  have h := ops_callN (P := P) (s := ⟨fr, O⟩) (d := d) (ty := ty) (pos := pos) (after := after) (f := f) (args := args) (ats := ats) δ hfc hargs (by rw [hargs]; rfl) hc (by
    intro q hq
    simp [onames, nm] at hq
    have hq : q = 9 ∨ q = 6 ∨ q = 7 := by omega
    rcases hq with rfl | rfl | rfl
    · exact ⟨hlt, hm.1, hmO.1⟩
    · exact ⟨by omega, hm.2.1, hmO.2.1⟩
    · exact ⟨by omega, hm.2.2, hmO.2.2⟩)
  have e2 : renO (· + δ) [(9, 3, [RV.agg [RIs c, .ref 6 0 8192, .ref 7 0 8192]]), (6, 1, K0.map RVi), (7, 1, V0.map RVi)] ++ O = (9 + δ, 3, [.agg [RIs c, .ref (6 + δ) 0 8192, .ref (7 + δ) 0 8192]]) :: (6 + δ, 1, K0.map RVi) :: (7 + δ, 1, V0.map RVi) :: O := by
    have hi : ∀ l : List Int, RV.renL (· + δ) (l.map RVi) = l.map RVi := fun l => renL_id (by simp [nm])
    have hi2 : RV.renL (· + δ) [RV.agg [RIs c, .ref 6 0 8192, .ref 7 0 8192]] = [RV.agg [RIs c, .ref (6 + δ) 0 8192, .ref (7 + δ) 0 8192]] := by simp [ng]
    simp only [renO, hi, hi2, List.cons_append, List.nil_append]
  rw [e2] at h
  exact l_op rfl h (e := rfl) (hk := hk)
end Eng
theorem srt0_fill {h : List Int} (hg : ghp h = true) : srt0 h = fillH h := by
  simp only [ghp, Bool.and_eq_true, decide_eq_true_eq] at hg
  obtain ⟨h1, h2⟩ := ghpF_pos hg.2
  have e : (h.filter fun x => decide (x ≠ 0)) = fillH h := by
    unfold fillH
    refine List.filter_congr fun x hx => ?_
    have := (h1 x hx).1
    simp only [ne_eq, decide_eq_decide]; omega
  rw [srt0, e]
  exact (srtI_of (List.Perm.refl _) (by unfold fillH; exact h2.filter _)).symm
theorem bx_all {c : List Int} (hc : gcode c = true) : ∃ nx : List Int → Nat → Nat → Bok → Bok, ∀ p t o B, vld p t o → bookOk c B.1 B.2 → bookOk c (nx p t o B).1 (nx p t o B).2 ∧ SVC c p t o B (nx p t o B) := by
  classical
  refine ⟨fun p t' o' B => if H : ∃ B' : Bok, bookOk c B'.1 B'.2 ∧ SVC c p t' o' B B' then H.choose else B, fun p t' o' B h1 h3 => ?_⟩
  have H := svalue_all c hc _ p t' o' B h1 (Nat.lt_succ_self _) h3
  dsimp only
  rw [dif_pos H]
  exact H.choose_spec
end Go.Proofs.YtmfbcipjknjicaaGreatDoor
/- Rules of the engine: arrays as blocks of cells. No condition. -/
namespace Go.Proofs.YtmfbcipjknjicaaGreatDoor
set_option linter.unusedSectionVars false
variable [One Bool]
namespace Eng
open Go.RowKit
set_option linter.unusedSimpArgs false
section
variable {P : Program} {s : St} {d : Option Tmp} {ty : TypeId} {pos : String} {after : Array Edge} {g : Option (Nat × Bool)}
theorem RelX.setAll {E s a w F ρ fp n els} (h : RelX E s a w F ρ fp) (ho : olook n s.O = some (1, els)) (hne : els ≠ []) (hpos : (ρ n).2.1 ≠ 0) :
    ∃ b ty c, (ρ n).1 = some b ∧ (ρ n).2.1 = 1 ∧ w.heap[b]? = some (.cells c ty (0, 0)) ∧ els.length ≤ c.size ∧
      ∀ els' ce', els'.length = els.length → ce'.length = els.length → OE w F ρ 1 els' ce' [] →
        ∃ fp', RelX E ⟨s.fr, oset n els' s.O⟩ a (w.setRow b (ce' ++ c.toList.drop els.length).toArray) F ρ fp' := by
  obtain ⟨fp', hr'⟩ := h.front ho
  obtain ⟨b, ty, c, fp1, fp2, hk, hρ, hρb, hb, hs, hl, hm, hE, hO2, rfl⟩ := hr'.O.head hne hpos
  rw [Nat.mul_one] at hs
  have hcap : els.length ≤ c.size := by omega
  refine ⟨b, ty, c, hρb, hρ, hb, hcap, fun els' ce' h1 h2 hE' => ?_⟩
  have hsz : (ce' ++ c.toList.drop els.length).toArray.size = c.size := by simp [h2]; omega
  have hsubl : (b :: (([] : List Nat) ++ fp2)).Sublist (b :: (fp1 ++ fp2)) := List.Sublist.cons_cons _ (List.Sublist.append (List.nil_sublist _) (List.Sublist.refl _))
  have htk : (ce' ++ c.toList.drop els.length).take (els'.length * 1) = ce' := by
    rw [Nat.mul_one, h1, ← h2, List.take_left]
  have hfin := hr'.modify (els' := els') (ty := ty) (c' := (ce' ++ c.toList.drop els.length).toArray) (fp1' := [])
    (w' := w.setRow b (ce' ++ c.toList.drop els.length).toArray) hk hρ hρb hm hO2 (by simp) (fun j hj => setRow_other w b j _ hj) (setRow_heap w b c _ ty _ hb) (by rw [hsz, hs, Nat.mul_one]) (by omega)
    (by show OE w F ρ 1 els' ((ce' ++ c.toList.drop els.length).take (els'.length * 1)) []; rw [htk]; exact hE') (hr'.nodup.sublist hsubl)
    (fun x hx => by
      have hmem : x ∈ b :: (fp1 ++ fp2) := hsubl.subset (by simp only [List.mem_cons, List.mem_append] at hx ⊢; exact .inr (.inl hx))
      exact ⟨hr'.fpF x hmem, hr'.fpE x hmem⟩) rfl ⟨rfl, .inl (by first | exact Nat.le_refl _ | exact Nat.le_succ _)⟩ rfl
  rw [← oerase_oset n els' s.O] at hfin
  exact hfin.back (olook_oset ho)
theorem ops_build_arr {t n e} {zs : List Value} (hz : zeroOf P t = some (.agg zs.toArray)) (hu : P.underlying t = some (.array n e)) (hw : P.cellsOf e = 1) :
    OpS P ⟨d, .build t #[], ty, pos, after, g⟩ s ⟨sput d (.v (.agg zs.toArray)) s.fr, s.O⟩ :=
  ops_exact fun _ a w _ _ _ hr => by
    simp [execOp, Instr.build, run_zeroValue hz, run_underlying hu, run_sizeOf hw (by omega), Value.cells, Instr.fill]
theorem ops_alloc_arr {d : Tmp} {t} {zs : List Value} (hz : zeroOf P t = some (.agg zs.toArray)) (h1 : zs.all Value.oneCell' = true) (hl : zs.length ≤ 1099511627776) (hd : d < 1000000000000 ∧ d ∉ RV.namesL s.fr) (hO : d ∉ onames s.O) :
    OpS P ⟨some d, .alloc t, ty, pos, after, g⟩ s ⟨lset s.fr d (.ptr d 0 0), (d, 1, zs.map .v) :: s.O⟩ :=
  ops_of fun E a w F ρ fp hr => by
    have h2 : OE w F ρ 1 (zs.map .v) zs [] := OE.vs zs (by simpa using h1)
    obtain ⟨ρ', h4, h5⟩ := hr.alloc d 1 (zs.map .v) t zs.toArray (by omega) (by simp) (by simp [maxLen]; omega) (by simpa using h2) hd hO (by simp [namesL_vs])
    refine ⟨.pointer (some ⟨w.heap.size, 0, none⟩), w.alloc (.cells zs.toArray t), ?_, F, ρ', w.heap.size :: fp, ?_⟩
    · simp [execOp, Instr.alloc, run_zeroValue hz, newVar, newRow, Value.cells]
    · have := h5.put (some d) (SV.ptr_mk h4 0 0); simpa [sput] using this
theorem ops_store_arr {x v t n els} {zs : List Value} (hx : s.get x = .ptr n 0 0) (hv : s.get v = .v (.agg zs.toArray)) (ho : olook n s.O = some (1, els)) (hl : els.length = zs.length) (h0 : 0 < zs.length) (h1 : zs.all Value.oneCell' = true) (ht : P.cellsOf t = zs.length) :
    OpS P ⟨none, .store t x v, ty, pos, after, g⟩ s ⟨s.fr, oset n (zs.map .v) s.O⟩ :=
  ops_of_skip fun E a w F ρ fp hr => by
    have h2 := hr.get x
    rw [hx] at h2
    obtain ⟨b, tb, c, hρb, hρ, hb, hsz, hset⟩ := hr.setAll ho (fun e => by rw [e] at hl; simp at hl; omega) h2.ptr_pos
    obtain ⟨fp', h7⟩ := hset (zs.map .v) zs (by simp [hl]) hl.symm (OE.vs zs (by simpa using h1))
    have hp := h2.ptr_inv
    simp only [hρb, Option.map_some, hρ, Nat.add_zero, Nat.zero_mul] at hp
    have hrun := run_storeCells_at P b 0 tb zs 0 c w hb (by omega) (by simpa using h1)
    simp only [Nat.add_zero, Nat.zero_add, List.take_zero, List.nil_append] at hrun
    rw [hl] at h7
    refine ⟨_, ?_, F, ρ, fp', h7⟩
    simp only [execOp, Instr.storeAt, Instr.sureAddr, hp, storeVar, hr.ex hv, Value.cells, Sem.run_bind, Sem.run_pure, Result.andThen_ok, run_sizeOf ht (by omega)]
    simp [hrun]
theorem ops_idx_arr {x ix c n kk i len e els} (hx : s.get x = .ptr n 0 0) (hi : s.get ix = .v (.int kk (i : Nat))) (ho : olook n s.O = some (1, els)) (hne : els ≠ []) (hl : i < len) (ht : P.underlying c = some (.array len e)) (hw : P.cellsOf e = 1) :
    OpS P ⟨d, .indexAddr c x ix, ty, pos, after, g⟩ s ⟨sput d (.ptr n i 0) s.fr, s.O⟩ :=
  ops_val fun _ a w F ρ fp hr => by
    have h1 := hr.get x
    rw [hx] at h1
    obtain ⟨fp', hr'⟩ := hr.front ho
    obtain ⟨b, _, _, _, _, hk, hkk, hb, _⟩ := hr'.O.head hne h1.ptr_pos
    have h2 := h1.ptr_inv
    simp only [hb, Option.map_some, Nat.zero_mul, Nat.add_zero] at h2
    refine ⟨.pointer (some ⟨b, i * (ρ n).2.1 + 0, none⟩), ?_, ?_⟩
    · have h3 : (0 : Int) ≤ (i : Nat) ∧ ((i : Nat) : Int) < (len : Nat) := by omega
      simp [execOp, h2, hr.ex hi, Instr.indexAt, asIntOf, run_underlying ht, Instr.sureAddr, run_sizeOf hw (by omega), h3, Addr.add_lit, hkk, Nat.not_le.2 hl, hl]
    · have := OE.ptr (w := w) (F := F) (ρ := ρ) n i 0 h1.ptr_pos (.nil _ _)
      simp only [hb, Option.map_some] at this
      exact .one (.cell rfl this)
theorem fs_idx_arr {RO : Nat → Bool} {x ix c n kk i len e els} (hx : s.get x = .ptr n 0 0) (hi : s.get ix = .v (.int kk (i : Nat))) (hro : RO n = true) (ho : olook n s.O = some (1, els)) (hne : els ≠ []) (hl : i < len) (ht : P.underlying c = some (.array len e)) (hw : P.cellsOf e = 1) :
    Fs P RO ⟨d, .indexAddr c x ix, ty, pos, after, g⟩ s (.ptr n i 0) := fun s2 hs hO => ops_idx_arr ((hs _ (by simp [Op.operands])).trans hx) ((hs _ (by simp [Op.operands])).trans hi) ((hO _ hro).trans ho) hne hl ht hw
end
end Eng
end Go.Proofs.YtmfbcipjknjicaaGreatDoor
