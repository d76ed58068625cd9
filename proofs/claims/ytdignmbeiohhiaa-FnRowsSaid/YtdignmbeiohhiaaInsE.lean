/- slices.Insert of one row, as a contract of the logic. For all rows and places. -/
import Derived.Test.YtdignmbeiohhiaaIns
import Derived.Test.YtdignmbeiohhiaaRws
namespace Go.Proofs.Ytdignmbeiohhiaa
open Eng Go.Shelf Go.RowKit Go.Lib
attribute [local irreducible] OpS OpG FCr Rel Fl Ef DR Fs
set_option linter.unusedSimpArgs false
set_option linter.unusedVariables false
set_option maxHeartbeats 0
set_option maxRecDepth 100000

theorem flat_ins (l : List Rw) (i : Nat) (r : Rw) : (l.take i ++ r :: l.drop i).flatMap (fun x => [Value.string ⟨x.1.toArray⟩, Value.string ⟨x.2.toArray⟩]) =
    (l.flatMap fun x => [Value.string ⟨x.1.toArray⟩, Value.string ⟨x.2.toArray⟩]).take (i * 2) ++ [Value.string ⟨r.1.toArray⟩, Value.string ⟨r.2.toArray⟩] ++ (l.flatMap fun x => [Value.string ⟨x.1.toArray⟩, Value.string ⟨x.2.toArray⟩]).drop (i * 2) := by
  rw [pe_rw.fl_take, pe_rw.fl_drop, List.flatMap_append, List.flatMap_cons, List.append_assoc]
theorem insLow_ok (l : List Rw) (i : Nat) (r : Rw) (hi : i < l.length) (hl : l.length ≤ 1048576) : FC Try.prog 73 [.ref 1000000000000 0 l.length, RVn i, .ref 1000000000001 0 1] [(1000000000000, 2, l.map RRw), (1000000000001, 2, [RRw r])] (fun rv O => rv = ORws (l.take i ++ r :: l.drop i) ∧ O = []) := by
  intro w F ρ vals fp hv hO hnd hfF hFs
  have hvl := hv.length
  obtain ⟨x, y, z, rfl⟩ : ∃ x y z, vals = [x, y, z] := by
    match vals, hvl with
    | [x, y, z], _ => exact ⟨x, y, z, rfl⟩
  have hx := hv.get 0
  have hy := hv.get 1
  have hz := hv.get 2
  simp only [lget, List.getD_cons_zero, List.getD_cons_succ] at hx hy hz
  have hx := hx.ref_inv
  obtain rfl := hy.exact
  have hz := hz.ref_inv
  have h0 : l ≠ [] := by rintro rfl; simp at hi
  obtain ⟨b, tb, C, fp1, fp2, hk, hρ, hρb, hb, hs, hcap, hm, hE, hO2, rfl⟩ := hO.head (by simpa using h0)
  obtain ⟨vb, tv, VC, fp3, fp4, hk2, hρ2, hρb2, hvb, hs2, hcap2, hm2, hE2, hO3, rfl⟩ := hO2.head (by simp)
  cases hO3
  rw [List.length_map] at hcap hE
  obtain ⟨hcl, rfl⟩ := pe_rw.linv hE
  obtain ⟨hcl2, rfl⟩ := pe_rw.linv (l := [r]) hE2
  simp only [List.length_singleton, Nat.one_mul, List.flatMap_cons, List.flatMap_nil, List.append_nil, List.length_cons, List.length_nil, Nat.zero_add] at hcl2 hcap2
  have hfl := pe_rw.fl_len l
  have hf1 := pe_rw.fl_one l
  have hfi := flat_ins l i r
  have hLl : (l.take i ++ r :: l.drop i).length = l.length + 1 := by simp; omega
  have hLn : RV.namesL ((l.take i ++ r :: l.drop i).map RRw) = [] := namesL_map0 _ _ fun _ => rfl
  have hLE : ∀ w' F' ρ', OE w' F' ρ' 2 ((l.take i ++ r :: l.drop i).map RRw) ((l.take i ++ r :: l.drop i).flatMap fun x => [Value.string ⟨x.1.toArray⟩, Value.string ⟨x.2.toArray⟩]) [] := fun w' F' ρ' => pe_rw.list _
  generalize l.take i ++ r :: l.drop i = L at *
  rw [hfi] at hLE
  have hf2 := pe_rw.one r
  simp only [hρb, hρ, hρb2, hρ2, Option.map_some, Nat.zero_mul, Nat.sub_zero] at hx hz
  subst hx
  subst hz
  generalize (l.flatMap fun x => [Value.string ⟨x.1.toArray⟩, Value.string ⟨x.2.toArray⟩]) = cs at *
  have hvs : ([Value.string ⟨r.1.toArray⟩, Value.string ⟨r.2.toArray⟩] : List Value).length = 2 := rfl
  generalize [Value.string ⟨r.1.toArray⟩, Value.string ⟨r.2.toArray⟩] = vs at *
  generalize l.length = n at *
  generalize (ρ 1000000000000).2.2 = c at *
  generalize (ρ 1000000000001).2.2 = vc at *
  have hne : vb ≠ b := by
    simp at hnd
    exact fun e => hnd e.symm
  by_cases hroom : n + 1 ≤ c
  · refine (insR_room b n c i vb vc C VC tb tv cs vs w hi hroom (by unfold maxLen at hm; omega) hne hb hs hfl hcl hvb hvs hcl2 hf1 hf2).mono ?_
    rintro e w' ⟨rfl, R, hR, rfl⟩
    have hRl : R.size = c * 2 := by
      have e : R.size = R.toList.length := by simp
      rw [e, hR]
      simp only [List.length_append, List.length_take, List.length_drop, hfl, hvs, Array.length_toList, hs]
      omega
    have hb' : (w.drew.setRow b R).heap[b]? = some (.cells R tb (0, 0)) := setRow_heap w.drew b C R tb (0, 0) hb
    refine ⟨_, ORws L, [], F, ρ, [b], [], rfl, ⟨rfl, rfl⟩, .one (.cell rfl ?_), .nil, by simp, ?_, fun b hb => hb, fun q hq => ⟨.inl hq, ?_⟩, fun q hq hqf => ?_, by simp, rfl, rfl, rfl, fun _ _ => rfl⟩
    · have h := OE.ow (w := w.drew.setRow b R) (F := F) (ρ := ρ) b c tb R (k := 2) (els := L.map RRw) (es := []) (cs := []) (by omega) hb' hRl (by rw [List.length_map, hLl]; omega) hm (by
        rw [List.length_map, hLl, hR, List.take_append_of_le_length (by simp only [List.length_append, List.length_take, List.length_drop, hfl, hvs]; omega), List.take_of_length_le (by simp only [List.length_append, List.length_take, List.length_drop, hfl, hvs]; omega)]) hLn (hLE _ _ _) (.nil _ _)
      rw [List.length_map, hLl] at h
      simpa using h
    · intro q hq
      simp at hq
      subst hq
      exact ⟨hfF _ (by simp), .inl (by simp)⟩
    · have := hFs q hq
      simpa using this
    · exact setRow_other _ _ _ _ (fun e => hqf (by simp [e]))
  · refine (insR_grow b n c i vb vc C VC tb tv cs vs w hi (by omega) (by omega) (by omega) hne hb hfl hcl hvb hvs hcl2 hf1 hf2).mono ?_
    rintro e w' ⟨G, hG1, hG2, rfl, R, Z, hR, hRs, hN, hold, hsz, h1, h2, h3⟩
    refine ⟨_, ORws L, [], F, ρ, [w.heap.size], [], rfl, ⟨rfl, rfl⟩, .one (.cell rfl ?_), .nil, by simp, ?_, fun b hb => hb, fun q hq => ⟨.inl hq, ?_⟩, fun q hq _ => hold q hq, by omega, h1, h2, h3, fun _ _ => rfl⟩
    · have h := OE.ow (w := w') (F := F) (ρ := ρ) w.heap.size G 31 R (k := 2) (els := L.map RRw) (es := []) (cs := []) (by omega) hN hRs (by rw [List.length_map, hLl]; omega) hG2 (by
        rw [List.length_map, hLl, hR, List.take_append_of_le_length (by simp only [List.length_append, List.length_take, List.length_drop, hfl, hvs]; omega), List.take_of_length_le (by simp only [List.length_append, List.length_take, List.length_drop, hfl, hvs]; omega)]) hLn (hLE _ _ _) (.nil _ _)
      rw [List.length_map, hLl] at h
      simpa using h
    · intro q hq
      simp at hq
      subst hq
      exact ⟨fun h => absurd (hFs _ h) (by omega), .inr (Nat.le_refl _)⟩
    · have := hFs q hq
      omega
/-- The end of a slice, whose value is not looked at. -/
theorem ops_rcute {P : Program} {s : St} {d : Option Tmp} {ty : TypeId} {pos : String} {after : Array Edge} {g : Option (Nat × Bool)} {x lo t n len k1 kk els} {l : Nat} (hx : s.get x = .ref n 0 len) (hlo : s.get lo = .v (.int k1 (l : Nat))) (ho : olook n s.O = some (kk, els)) (h1 : l ≤ len) (h2 : len ≤ els.length) (ht : P.underlying t = some (.slice (P.elem t))) (hw : P.cellsOf (P.elem t) = kk) (hk : 0 < kk) :
    OpS P ⟨d, .slice t x (some lo) none none, ty, pos, after, g⟩ s ⟨sput d .any s.fr, s.O⟩ :=
  ops_val fun _ a w F ρ _ hr => by
    have h3 := (show SV w F ρ (.ref n 0 len) (a.eval x) [] from hx ▸ hr.get x).ref_inv
    obtain ⟨y, hy⟩ : ∃ y : Option Addr, y = (ρ n).1.map fun b => ⟨b, 0 * (ρ n).2.1, none⟩ := ⟨_, rfl⟩
    rw [← hy] at h3
    refine ⟨.slice (if (ρ n).2.2 - 0 = l then y else y.map (·.add (l * kk))) (len - l) ((ρ n).2.2 - 0 - l), ?_, .one (.any _)⟩
    simp [execOp, h3, hr.ex hlo, Instr.sliceAt, Instr.slice, Instr.sliceBounds, run_underlying ht, run_bound h1, run_size hw hk]
theorem insEnd_ok (l : List Rw) (r : Rw) (hl : l.length ≤ 1048576) : FC Try.prog 73 [.ref 1000000000000 0 l.length, RVn l.length, .ref 1000000000001 0 1] [(1000000000000, 2, l.map RRw), (1000000000001, 2, [RRw r])] (fun rv O => rv = ORws (l ++ [r]) ∧ O = []) := by
  refine (fc_in Try.func73 rfl (by simp only [Try.ntmps73, anys, List.length_cons, List.length_nil, Nat.reduceAdd, Nat.reduceSub, List.replicate_succ, List.replicate_zero, List.cons_append, List.nil_append] <;> rfl) ?_)
  repeat' first
    | refine w_seq ?_
    | refine w_region ?_
    | refine l_nil ?_
    | refine rt_n ?_
    | refine w_ret ?_
    | refine rt_ret ?_
    | refine w_skip ?_
    | refine w_cond_t rfl ?_
    | refine w_cond_f rfl ?_
    | refine w_cnd rfl (fun hc => ?_) (fun hc => ?_)
    | refine w_cd rfl (fun hc => ?_) (fun hc => ?_)
    | refine w_cn rfl (fun hc => ?_) (fun hc => ?_)
    | refine w_cond rfl (fun hc => ?_) (fun hc => ?_)
    | (exfalso; omega)
    | (refine l_o ?_; first | refine l_eqnil rfl (by kernel_rfl) (by intro b; simp only [nz]; rfl) (fun b hb => ?_) | refine l_op rfl (by first | (apply k_slice; first | exact ops_rcute (els := l.map RRw) rfl rfl rfl (by omega) (by rw [List.length_map]; omega) (by kernel_rfl) (by kernel_rfl) (by omega) | fail) | (apply k_append; first | exact ops_append_new (els := l.map RRw) (els2 := [RRw r]) (m := 25) (by rw [List.length_map]; rfl) rfl rfl rfl (by decide) (by simp) (by decide) (by simp [nm, nset, -List.map_take, -List.map_drop]) (by simp [nm, nset, -List.map_take, -List.map_drop]) (by kernel_rfl) (by kernel_rfl) (by kernel_rfl) (by kernel_rfl) (by rw [List.length_map]; simp; omega) | fail) | fail) (hk := ?_) | refine l_op (hk := ?_))
    | refine d_nil ?_
    | (refine d_o ?_; first | refine d_fl rfl (by first | exact .pl (by first | (apply q_slice; first | exact fs_rcute (els := l.map RRw) rfl rfl rfl (by omega) (by rw [List.length_map]; omega) (by kernel_rfl) (by kernel_rfl) (by omega) | fail) | fail) | fail) (hk := ?_) | refine d_fl (hk := ?_) | refine d_ef (hk := ?_))
    | (refine w_o ?_; first | refine w_draw (id := 11) (fun _ => true) (fun k => [8].contains k) [[]] 64 (by kernel_rfl) rfl (by kernel_rfl) (by simp [nm, nset, -List.map_take, -List.map_drop]) ?_ | refine w_draw (id := 15) (fun _ => true) (fun k => [8].contains k) [[]] 64 (by kernel_rfl) rfl (by kernel_rfl) (by simp [nm, nset, -List.map_take, -List.map_drop]) ?_)
  rw [show l.length + 1 = (l ++ [(r.1, r.2)]).length by simp]
  refine en_end (hf := Try.results73) (hr := ?_); simp only [ne, nf, nl, nr, lget, reduceIte, Nat.reduceEqDiff]; first | rfl | refine congrArg RVb ?_ | refine congrArg RVi ?_ | skip
/-- One row put into rows, wherever. -/
theorem insRow_ok (l : List Rw) (i : Nat) (r : Rw) (hi : i ≤ l.length) (hl : l.length ≤ 1048576) : FC Try.prog 73 [.ref 1000000000000 0 l.length, RVn i, .ref 1000000000001 0 1] [(1000000000000, 2, l.map RRw), (1000000000001, 2, [RRw r])] (fun rv O => rv = ORws (l.take i ++ r :: l.drop i) ∧ O = []) := by
  by_cases h : i < l.length
  · exact insLow_ok l i r h hl
  · obtain rfl : i = l.length := by omega
    rw [List.take_length, List.drop_length]
    exact insEnd_ok l r hl
end Go.Proofs.Ytdignmbeiohhiaa
