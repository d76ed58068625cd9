/- Rules of the engine: arrays as blocks of cells. No condition. -/
import Derived.Test.YtmfbcipjknjicaaEf
namespace Go.Proofs.Ytmfbcipjknjicaa
namespace Eng
open Go.RowKit
set_option linter.unusedSimpArgs false
section
variable {P : Program} {s : St} {d : Option Tmp} {ty : TypeId} {pos : String} {after : Array Edge} {g : Option (Nat × Bool)}
theorem RelX.setAll {E s a w F ρ fp n els} (h : RelX E s a w F ρ fp) (ho : olook n s.O = some (1, els)) (hne : els ≠ []) (hpos : (ρ n).2.1 ≠ 0) :
    ∃ b ty c, (ρ n).1 = some b ∧ (ρ n).2.1 = 1 ∧ w.heap[b]? = some (.cells c ty (0, 0)) ∧ els.length ≤ c.size ∧
      ∀ els' ce', els'.length = els.length → ce'.length = els.length → OE w F ρ 1 els' ce' [] →
        ∃ fp', RelX E ⟨s.fr, oset n els' s.O⟩ a (w.setRow b (ce' ++ c.toList.drop els.length).toArray) F ρ fp' := by
  obtain ⟨fp', hr'⟩ := h.front ho
  obtain ⟨b, ty, c, fp1, fp2, hk, hρ, hρb, hb, hs, hl, hm, hE, hO2, rfl⟩ := hr'.O.head hne hpos
  rw [Nat.mul_one] at hs
  have hcap : els.length ≤ c.size := by omega
  refine ⟨b, ty, c, hρb, hρ, hb, hcap, fun els' ce' h1 h2 hE' => ?_⟩
  have hsz : (ce' ++ c.toList.drop els.length).toArray.size = c.size := by simp [h2]; omega
  have hsubl : (b :: (([] : List Nat) ++ fp2)).Sublist (b :: (fp1 ++ fp2)) := List.Sublist.cons_cons _ (List.Sublist.append (List.nil_sublist _) (List.Sublist.refl _))
  have htk : (ce' ++ c.toList.drop els.length).take (els'.length * 1) = ce' := by
    rw [Nat.mul_one, h1, ← h2, List.take_left]
  have hfin := hr'.modify (els' := els') (ty := ty) (c' := (ce' ++ c.toList.drop els.length).toArray) (fp1' := [])
    (w' := w.setRow b (ce' ++ c.toList.drop els.length).toArray) hk hρ hρb hm hO2 (by simp) (fun j hj => setRow_other w b j _ hj) (setRow_heap w b c _ ty _ hb) (by rw [hsz, hs, Nat.mul_one]) (by omega)
    (by show OE w F ρ 1 els' ((ce' ++ c.toList.drop els.length).take (els'.length * 1)) []; rw [htk]; exact hE') (hr'.nodup.sublist hsubl)
    (fun x hx => by
      have hmem : x ∈ b :: (fp1 ++ fp2) := hsubl.subset (by simp only [List.mem_cons, List.mem_append] at hx ⊢; exact .inr (.inl hx))
      exact ⟨hr'.fpF x hmem, hr'.fpE x hmem⟩) rfl ⟨rfl, by first | exact Nat.le_refl _ | exact Nat.le_succ _⟩ rfl
  rw [← oerase_oset n els' s.O] at hfin
  exact hfin.back (olook_oset ho)
/-- An array written out with nothing in it. -/
theorem ops_build_arr {t n e} {zs : List Value} (hz : zeroOf P t = some (.agg zs.toArray)) (hu : P.underlying t = some (.array n e)) (hw : P.cellsOf e = 1) :
    OpS P ⟨d, .build t #[], ty, pos, after, g⟩ s ⟨sput d (.v (.agg zs.toArray)) s.fr, s.O⟩ :=
  ops_exact fun _ a w _ _ _ hr => by
    simp [execOp, Instr.build, run_zeroValue hz, run_underlying hu, run_sizeOf hw (by omega), Value.cells, Instr.fill]
theorem ops_alloc_arr {d : Tmp} {t} {zs : List Value} (hz : zeroOf P t = some (.agg zs.toArray)) (h1 : zs.all Value.oneCell' = true) (hl : zs.length ≤ 1099511627776) (hd : d < 1000000000000 ∧ d ∉ RV.namesL s.fr) (hO : d ∉ onames s.O) :
    OpS P ⟨some d, .alloc t, ty, pos, after, g⟩ s ⟨lset s.fr d (.ptr d 0 0), (d, 1, zs.map .v) :: s.O⟩ :=
  ops_of fun E a w F ρ fp hr => by
    have h2 : OE w F ρ 1 (zs.map .v) zs [] := OE.vs zs (by simpa using h1)
    obtain ⟨ρ', h4, h5⟩ := hr.alloc d 1 (zs.map .v) t zs.toArray (by omega) (by simp) (by simp [maxLen]; omega) (by simpa using h2) hd hO (by simp [namesL_vs])
    refine ⟨.pointer (some ⟨w.heap.size, 0, none⟩), w.alloc (.cells zs.toArray t), ?_, F, ρ', w.heap.size :: fp, ?_⟩
    · simp [execOp, Instr.alloc, run_zeroValue hz, newVar, newRow, Value.cells]
    · have := h5.put (some d) (SV.ptr_mk h4 0 0); simpa [sput] using this
theorem ops_store_arr {x v t n els} {zs : List Value} (hx : s.get x = .ptr n 0 0) (hv : s.get v = .v (.agg zs.toArray)) (ho : olook n s.O = some (1, els)) (hl : els.length = zs.length) (h0 : 0 < zs.length) (h1 : zs.all Value.oneCell' = true) (ht : P.cellsOf t = zs.length) :
    OpS P ⟨none, .store t x v, ty, pos, after, g⟩ s ⟨s.fr, oset n (zs.map .v) s.O⟩ :=
  ops_of_skip fun E a w F ρ fp hr => by
    have h2 := hr.get x
    rw [hx] at h2
    obtain ⟨b, tb, c, hρb, hρ, hb, hsz, hset⟩ := hr.setAll ho (fun e => by rw [e] at hl; simp at hl; omega) h2.ptr_pos
    obtain ⟨fp', h7⟩ := hset (zs.map .v) zs (by simp [hl]) hl.symm (OE.vs zs (by simpa using h1))
    have hp := h2.ptr_inv
    simp only [hρb, Option.map_some, hρ, Nat.add_zero, Nat.zero_mul] at hp
    have hrun := run_storeCells_at P b 0 tb zs 0 c w hb (by omega) (by simpa using h1)
    simp only [Nat.add_zero, Nat.zero_add, List.take_zero, List.nil_append] at hrun
    rw [hl] at h7
    refine ⟨_, ?_, F, ρ, fp', h7⟩
    simp only [execOp, Instr.storeAt, Instr.sureAddr, hp, storeVar, hr.ex hv, Value.cells, Sem.run_bind, Sem.run_pure, Result.andThen_ok, run_sizeOf ht (by omega)]
    simp [hrun]
theorem ops_idx_arr {x ix c n kk i len e els} (hx : s.get x = .ptr n 0 0) (hi : s.get ix = .v (.int kk (i : Nat))) (ho : olook n s.O = some (1, els)) (hne : els ≠ []) (hl : i < len) (ht : P.underlying c = some (.array len e)) (hw : P.cellsOf e = 1) :
    OpS P ⟨d, .indexAddr c x ix, ty, pos, after, g⟩ s ⟨sput d (.ptr n i 0) s.fr, s.O⟩ :=
  ops_val fun _ a w F ρ fp hr => by
    have h1 := hr.get x
    rw [hx] at h1
    obtain ⟨fp', hr'⟩ := hr.front ho
    obtain ⟨b, _, _, _, _, hk, hkk, hb, _⟩ := hr'.O.head hne h1.ptr_pos
    have h2 := h1.ptr_inv
    simp only [hb, Option.map_some, Nat.zero_mul, Nat.add_zero] at h2
    refine ⟨.pointer (some ⟨b, i * (ρ n).2.1 + 0, none⟩), ?_, ?_⟩
    · have h3 : (0 : Int) ≤ (i : Nat) ∧ ((i : Nat) : Int) < (len : Nat) := by omega
      simp [execOp, h2, hr.ex hi, Instr.indexAt, asIntOf, run_underlying ht, Instr.sureAddr, run_sizeOf hw (by omega), h3, Addr.add_lit, hkk, Nat.not_le.2 hl, hl]
    · have := OE.ptr (w := w) (F := F) (ρ := ρ) n i 0 h1.ptr_pos (.nil _ _)
      simp only [hb, Option.map_some] at this
      exact .one (.cell rfl this)
theorem fs_idx_arr {RO : Nat → Bool} {x ix c n kk i len e els} (hx : s.get x = .ptr n 0 0) (hi : s.get ix = .v (.int kk (i : Nat))) (hro : RO n = true) (ho : olook n s.O = some (1, els)) (hne : els ≠ []) (hl : i < len) (ht : P.underlying c = some (.array len e)) (hw : P.cellsOf e = 1) :
    Fs P RO ⟨d, .indexAddr c x ix, ty, pos, after, g⟩ s (.ptr n i 0) := fun s2 hs hO => ops_idx_arr ((hs _ (by simp [Op.operands])).trans hx) ((hs _ (by simp [Op.operands])).trans hi) ((hO _ hro).trans ho) hne hl ht hw
end
end Eng
end Go.Proofs.Ytmfbcipjknjicaa
