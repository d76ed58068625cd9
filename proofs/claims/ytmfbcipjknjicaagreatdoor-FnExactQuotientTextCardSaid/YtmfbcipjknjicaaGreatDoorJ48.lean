/- Lists of ints marked and looked at again, as the drawn laws do it. For all lists of the lengths that the theorem names. -/
import Derived.ChangeVars
import Derived.JoinedOf
import Derived.LaidLaws
import Derived.LaidHandle
import Derived.Stop.Joined
import Derived.Test.YtmfbcipjknjicaaGreatDoorEd
import Derived.Test.YtmfbcipjknjicaaGreatDoorJ6
import Derived.Test.YtmfbcipjknjicaaGreatDoorQuoU
namespace Go.Proofs.YtmfbcipjknjicaaGreatDoor
open Eng
attribute [local irreducible] OpS OpG FC FCr Rel Fl Ef DR Fs
set_option linter.unusedSimpArgs false
set_option maxHeartbeats 0
set_option maxRecDepth 100000

end Go.Proofs.YtmfbcipjknjicaaGreatDoor
/- The law FnExactQuotientText answers true. For all arguments. -/
namespace Go.Proofs.YtmfbcipjknjicaaGreatDoor
open Eng
attribute [local irreducible] OpS OpG FC FCr Rel Fl Ef DR Fs
attribute [local simp] RV.fzR_names
set_option linter.unusedSimpArgs false
set_option linter.unusedVariables false
set_option maxHeartbeats 0
set_option maxRecDepth 100000

theorem toBoxQ_ok (s m : Int) : FCr Tryz.prog 27 [RBx s m] (RBx s m) := by
  refine (fcr_in Tryz.func27 rfl (by simp only [Tryz.ntmps27, anys, List.length_cons, List.length_nil, Nat.reduceAdd, Nat.reduceSub, List.replicate_succ, List.replicate_zero, List.cons_append, List.nil_append] <;> rfl) ?_)
  repeat' first
    | refine w_seq ?_
    | refine w_region ?_
    | refine l_nil ?_
    | refine rt_n ?_
    | refine w_ret ?_
    | refine rt_ret ?_
    | refine w_skip ?_
    | (refine l_o ?_; first | refine l_op (hk := ?_))
  refine en_end (hf := Tryz.results27) (hr := ?_); simp only [ne, nf, nl, nr, lget, reduceIte, Nat.reduceEqDiff]; first | rfl | refine congrArg RVb ?_ | refine congrArg RVi ?_ | skip
theorem txR_ex (c : List Int) (s m : Int) : ∃ S o, txR c s m = .tup [RV.str S, RVb o] := by
  unfold txR
  split
  · exact ⟨_, _, rfl⟩
  · exact ⟨_, _, rfl⟩
theorem lawQt_ok (c : List Int) (s m : Int) : FCr Tryz.prog 5 [RIs c, RBx s m] (RVb true) := by
  by_cases h1 : (1048576 : Int) < (c.length : Nat)
  · refine (fcr_in Tryz.func5 rfl (by simp only [Tryz.ntmps5, anys, List.length_cons, List.length_nil, Nat.reduceAdd, Nat.reduceSub, List.replicate_succ, List.replicate_zero, List.cons_append, List.nil_append] <;> rfl) ?_)
    repeat' first
      | refine w_seq ?_
      | refine w_region ?_
      | refine l_nil ?_
      | refine rt_n ?_
      | refine w_ret ?_
      | refine rt_ret ?_
      | refine w_skip ?_
      | refine w_cond_t rfl ?_
      | refine w_cond_f rfl ?_
      | refine w_cnd rfl (fun hc => ?_) (fun hc => ?_)
      | refine w_cd rfl (fun hc => ?_) (fun hc => ?_)
      | refine w_cn rfl (fun hc => ?_) (fun hc => ?_)
      | refine w_cond rfl (fun hc => ?_) (fun hc => ?_)
      | (exfalso; omega)
      | (refine l_o ?_; first | refine l_op (hk := ?_) | (refine l_g ?_; first | refine l_y rfl rfl rfl ?_ | refine l_n rfl rfl rfl rfl (hk := ?_) | refine l_n' rfl rfl rfl (hk := ?_) | refine l_spnd rfl rfl rfl (h1 := fun hc => ?_) (h2 := fun hc => ?_) | refine l_spd rfl rfl rfl (h1 := fun hc => ?_) (h2 := fun hc => ?_) | refine l_spn rfl rfl rfl (h1 := fun hc => ?_) (h2 := fun hc => ?_) | refine l_sp rfl rfl rfl (h1 := fun hc => ?_) (h2 := fun hc => ?_)))
      | refine d_nil ?_
      | (refine d_o ?_; first | refine d_fl (hk := ?_) | refine d_ef (hk := ?_) | (refine d_g ?_; first | refine d_spnd rfl rfl rfl (h1 := fun hc => ?_) (h2 := fun hc => ?_) | refine d_spd rfl rfl rfl (h1 := fun hc => ?_) (h2 := fun hc => ?_) | refine d_spn rfl rfl rfl (h1 := fun hc => ?_) (h2 := fun hc => ?_) | refine d_sp rfl rfl rfl (h1 := fun hc => ?_) (h2 := fun hc => ?_)))
      | (refine w_o ?_; first | refine w_draw (id := 3) (fun _ => true) (fun k => [1, 3, 4].contains k) [[], [], []] 64 (by kernel_rfl) rfl (by kernel_rfl) (by simp [nm, nset, -List.map_take, -List.map_drop]) ?_)
    refine en_one (hf := Tryz.results5) (h := ?_); simp only [lget]; first | refine congrArg RVb ?_ | refine congrArg RVi ?_ | skip
  have hI := quotientText_ok c s m (by omega)
  have hS := sQuotientText_ok c s m (by omega)
  obtain ⟨S, o, e⟩ := txR_ex c s m
  rw [e] at hI hS
  refine (fcr_in Tryz.func5 rfl (by simp only [Tryz.ntmps5, anys, List.length_cons, List.length_nil, Nat.reduceAdd, Nat.reduceSub, List.replicate_succ, List.replicate_zero, List.cons_append, List.nil_append] <;> rfl) ?_)
  repeat' first
    | refine w_seq ?_
    | refine w_region ?_
    | refine l_nil ?_
    | refine rt_n ?_
    | refine w_ret ?_
    | refine rt_ret ?_
    | refine w_skip ?_
    | refine w_cond_t rfl ?_
    | refine w_cond_f rfl ?_
    | refine w_cnd rfl (fun hc => ?_) (fun hc => ?_)
    | refine w_cd rfl (fun hc => ?_) (fun hc => ?_)
    | refine w_cn rfl (fun hc => ?_) (fun hc => ?_)
    | refine w_cond rfl (fun hc => ?_) (fun hc => ?_)
    | (exfalso; omega)
    | (exfalso; exact absurd rfl hc)
    | (refine l_o ?_; first | refine l_op rfl (by first | (apply k_callf; first | exact ops_callf (d := 15) (hfc := toIntS_ok c (by omega)) | exact ops_callf (d := 17) (hfc := toBoxQ_ok s m) | exact ops_callf (d := 18) (hfc := hS) | exact ops_callv (d := 22) (hfc := toIntS_ok c (by omega)) | exact ops_callf (d := 26) (hfc := toBoxQ_ok s m) | exact ops_callz (d := 27) (hfc := hI) | exact ops_callf (d := 40) (hfc := toIntS_ok c (by omega)) | exact ops_callz (d := 41) (hfc := eqIntS_ok c c) | fail) | fail) (hk := ?_) | refine l_op (hk := ?_) | (refine l_g ?_; first | refine l_y rfl rfl rfl ?_ | refine l_n rfl rfl rfl rfl (hk := ?_) | refine l_n' rfl rfl rfl (hk := ?_) | refine l_spnd rfl rfl rfl (h1 := fun hc => ?_) (h2 := fun hc => ?_) | refine l_spd rfl rfl rfl (h1 := fun hc => ?_) (h2 := fun hc => ?_) | refine l_spn rfl rfl rfl (h1 := fun hc => ?_) (h2 := fun hc => ?_) | refine l_sp rfl rfl rfl (h1 := fun hc => ?_) (h2 := fun hc => ?_)))
    | refine d_nil ?_
    | (refine d_o ?_; first | refine d_fl (hk := ?_) | refine d_ef rfl (by first | exact .callf (d := 15) (hfc := toIntS_ok c (by omega)) | exact .callf (d := 17) (hfc := toBoxQ_ok s m) | exact .callf (d := 18) (hfc := hS) | exact .callv (d := 22) (hfc := toIntS_ok c (by omega)) | exact .callf (d := 26) (hfc := toBoxQ_ok s m) | exact .callz (d := 27) (hfc := hI) | exact .callf (d := 40) (hfc := toIntS_ok c (by omega)) | exact .callz (d := 41) (hfc := eqIntS_ok c c) | exact .callfY (d := 15) (hfc := toIntS_ok c (by omega)) | exact .callfY (d := 17) (hfc := toBoxQ_ok s m) | exact .callfY (d := 18) (hfc := hS) | exact .callvY (d := 22) (hfc := toIntS_ok c (by omega)) | exact .callfY (d := 26) (hfc := toBoxQ_ok s m) | exact .callzY (d := 27) (hfc := hI) | exact .callfY (d := 40) (hfc := toIntS_ok c (by omega)) | exact .callzY (d := 41) (hfc := eqIntS_ok c c) | fail) (hk := ?_) | refine d_ef (hk := ?_) | (refine d_g ?_; first | refine d_spnd rfl rfl rfl (h1 := fun hc => ?_) (h2 := fun hc => ?_) | refine d_spd rfl rfl rfl (h1 := fun hc => ?_) (h2 := fun hc => ?_) | refine d_spn rfl rfl rfl (h1 := fun hc => ?_) (h2 := fun hc => ?_) | refine d_sp rfl rfl rfl (h1 := fun hc => ?_) (h2 := fun hc => ?_)))
    | (refine w_o ?_; first | refine w_draw (id := 3) (fun _ => true) (fun k => [1, 3, 4].contains k) [[], [], []] 64 (by kernel_rfl) rfl (by kernel_rfl) (by simp [nm, nset, -List.map_take, -List.map_drop]) ?_)
  all_goals first
    | exact absurd rfl hc
    | (exfalso; omega)
    | (refine en_one (hf := Tryz.results5) (h := ?_); simp only [lget]; first | refine congrArg RVb ?_ | refine congrArg RVi ?_ | skip; done)
    | trace_state
end Go.Proofs.YtmfbcipjknjicaaGreatDoor
/- What the parameters of the laws on loops read. No condition. -/
namespace Go.Proofs.YtmfbcipjknjicaaGreatDoor
open Eng Go.ChangeShapes Go.WideShapes Go.ChangeAt Go.RowKit
set_option maxHeartbeats 0
set_option maxRecDepth 100000

theorem own : ownKnob Tryz.prog.godebug = none := by kernel_rfl
theorem laidOut : laidOutB Tryz.prog = true := by kernel_rfl

theorem head_cut : (behindMainWord (wordsSigns Tryz.prog.initOrder.toList)).head? = some "cut".toList := by
  have h := toList_of (s := Tryz.prog.initOrder) (_ :: _ :: _ :: _ :: _ :: _ :: _ :: _ :: _ :: _ :: _ :: _ :: _ :: _ :: _ :: _ :: _ :: _ :: _ :: _ :: _ :: _ :: _ :: _ :: _ :: _ :: _ :: _ :: _ :: _ :: _ :: _ :: _ :: _ :: _ :: _ :: _ :: _ :: _ :: _ :: _ :: _ :: _ :: _ :: _ :: _ :: _ :: _ :: _ :: _ :: _ :: _ :: _ :: _ :: _ :: _ :: _ :: _ :: _ :: _ :: _ :: _ :: _ :: _ :: _ :: _ :: _ :: _ :: _ :: _ :: _ :: _ :: _ :: _ :: _ :: _ :: _ :: _ :: _ :: _) rfl
  generalize Tryz.prog.initOrder.toList = l at h ⊢
  subst h
  decide +kernel
theorem p_make : Tryz.prog.make = some .cut := cut_make head_cut
theorem p_final : Tryz.prog.liftsFinal = false := cut_final head_cut
theorem p_enter : Tryz.prog.mayEnter = true := cut_enter head_cut (by decide +kernel) (by decide +kernel) (by decide +kernel)
end Go.Proofs.YtmfbcipjknjicaaGreatDoor
/- What the parameters of the misere laws read: lists of numbers, boxes. No condition. -/
namespace Go.Proofs.YtmfbcipjknjicaaGreatDoor
open Eng Go.ChangeShapes Go.WideShapes Go.ChangeAt Go.RowKit
set_option maxHeartbeats 0
set_option maxRecDepth 100000

theorem prd_ints : PRd Tryz.prog 24 RIs (fun l => l.length ≤ maxLen ∧ ∀ n ∈ l, (Lit.int .i64 n).wf = true) := prd_slice Tryz.underlying24 (by kernel_rfl) (by omega) (reads_int Tryz.underlying3)
theorem reads_box : Reads Tryz.prog 48 2 (fun x : Int × Int => .agg [RVi x.1, RVi x.2]) (fun x => (Lit.int .i64 x.1).wf = true ∧ (Lit.int .i64 x.2).wf = true) :=
  reads_struct2 Tryz.underlying48 (by kernel_rfl) rfl rfl (by kernel_rfl) (by kernel_rfl) (reads_int Tryz.underlying3) (reads_int Tryz.underlying3)
theorem prd_box : PRd Tryz.prog 48 (fun x : Int × Int => .agg [RVi x.1, RVi x.2]) (fun x => (Lit.int .i64 x.1).wf = true ∧ (Lit.int .i64 x.2).wf = true) := prd_struct Tryz.underlying48 reads_box
end Go.Proofs.YtmfbcipjknjicaaGreatDoor
/- Laws whose rows list package-level variables: lifted to the row's form. No condition. -/
namespace Go.Proofs.YtmfbcipjknjicaaGreatDoor
namespace Eng
open Go.ChangeShapes Go.WideShapes Go.ChangeAt Go.RowKit
set_option linter.unusedSimpArgs false
set_option maxHeartbeats 0
set_option maxRecDepth 100000
theorem law_liftedL {H : Type} {enc : TypeId × Value → H} {C : Checked} {os : Os} {f : FuncId} {fn : Func} {s : ChangeSpec} {tb : TypeId} {l : List (String × DataW Unit)}
    (own : ownKnob C.prog.godebug = none) (started : os.Started) (noInit : C.prog.inits.idxOf? f = none) (hfn : C.prog.funcs[f]? = some fn)
    (witness : ∃ (w : World) (tape : Tape) (i : Input), w.os = os ∧ (w.forCall tape i).Shaped C.prog ∧ i.vars = [] ∧ Input.okWide C.prog (w.forCall tape i) .any w.heap.size f i ∧
      ((s.pre enc C.prog fn [] false (w.forCall tape i).memory i.args ∧ laidMetH C.prog l (w.forCall tape i).memory) ∧ sizedMet enc C.prog fn (OpenSpec.ofChange s) false (w.forCall tape i).memory i.args) ∧ ({} : Assume).holds C.prog (lone (Frame.enter C.prog f i.args .normal) [] (w.forCall tape i)))
    (hl : laidOutB C.prog = true) (hr : rowTys C.prog fn.params.toList = true) (hvars : s.vars = []) (hrt : fn.resultTypes = #[tb]) (htb : C.prog.underlying tb = some .bool)
    (hs : ∀ ds : List (DataW H), ds.length = fn.params.size → (s.fn H ds).results = [.lit (.bool true)] ∧ (s.fn H ds).args = ds ∧ (s.fn H ds).vars = [])
    (hread : ∀ (W : World) (base : Nat) (args : Array Value) (ds : List (DataW H)) (p : List MemPlace), (∀ (j : Nat) t v, fn.params[j]? = some t → args[j]? = some v → Value.okWide C.prog W .any base t v) → DataW.TrodAll enc C.prog W 0 (fun _ => true) true fn.params.toList args.toList ds p →
      ∃ rvs, SL W (old W) (fun _ => (none, 0, 0)) rvs args.toList [] ∧ FCr C.prog f rvs (.v (.bool true)))
    (hgok : ∀ W : World, laidMetH C.prog l W → GOK W (old W)) :
    ReturnsInHanded {} C os f .any (fun w args => (s.pre enc C.prog fn [] false w args ∧ laidMetH C.prog l w) ∧ sizedMet enc C.prog fn (OpenSpec.ofChange s) false w args) (s.post enc C.prog fn false true false false) := by
  refine returnsInHanded_of_change_and (X := fun w _ => laidMetH C.prog l w) (fun _ _ _ hh h => h.of_heap hh) own started noInit hfn witness ?_
  intro W base args ds gs before hval hW _ _ hL _
  have hW' := hW
  obtain ⟨p, q, hA, hV, hbf, _, _⟩ := hW
  obtain ⟨rvs, hSL, hFC⟩ := hread W base args ds p hval hA
  have hrun := hFC W (old W) _ _ [] hSL (.nil (hgok W hL)) List.nodup_nil (fun b hb => nomatch hb) (fun b hb => hb)
  refine hrun.mono fun e W' ⟨v, rv, Oout, F', ρ', fp1, fp2, he, ⟨hrv, _⟩, hsv, _, _, _, _, _, hkeep, hsz, h1, h2, h3, _⟩ => ?_
  subst hrv
  have hv : v = .bool true := by
    cases hsv with
    | one h => cases h with
      | v => rfl
      | cell _ h =>
        rcases h.single rfl with ⟨h, _⟩ | ⟨_, _, _, _, _, _, _, e, _⟩ | ⟨_, _, _, e, rfl, _⟩ | ⟨_, _, _, e, _⟩ | ⟨_, e, _⟩
        · cases h; rfl
        · cases e
        · cases e
        · cases e
        · cases e
  subst hv
  have hbel : Below W.heap.size W W' := ⟨h1, h2.1, h3, hsz, fun k hk => hkeep k hk (by simp)⟩
  have hgs : gs = [] ∧ q = [] := by
    rw [hvars] at hV
    cases gs with
    | nil => exact ⟨rfl, hV⟩
    | cons _ _ => simp [DataW.TrodVars] at hV
  obtain ⟨rfl, rfl⟩ := hgs
  have hlen : ds.length = fn.params.size := by
    have key : ∀ {ts : List TypeId} {vs : List Value} {ds : List (DataW H)} {ps : List MemPlace}, DataW.TrodAll enc C.prog W 0 (fun _ => true) true ts vs ds ps → ds.length = ts.length := by
      intro ts
      induction ts with
      | nil => intro vs ds ps h; cases vs <;> cases ds <;> simp [DataW.TrodAll] at h ⊢
      | cons t ts ih =>
        intro vs ds ps h
        cases vs with
        | nil => simp [DataW.TrodAll] at h
        | cons v vs => cases ds with
          | nil => simp [DataW.TrodAll] at h
          | cons d ds =>
            obtain ⟨_, _, _, h2, _⟩ := h
            simp [ih h2]
    have := key hA
    simpa using this
  obtain ⟨hs1, hs2, hs3⟩ := hs ds hlen
  refine ⟨_, he, ds, [], before, [], p, [], hW', ?_, ?_, ?_, hbel.frame _, fun h => by cases h⟩
  · rw [List.append_nil, hs1, hrt]
    exact ⟨[], [], ⟨1, by simp [DataW.trod, htb, Value.cells]⟩, rfl, rfl⟩
  · rw [List.append_nil, hs2]
    exact trodAll_below hl hbel hr hA (fun x hx => hW'.lt x (by rw [hbf]; simp [hx]))
  · rw [List.append_nil, hs3, hvars]; rfl
end Eng
end Go.Proofs.YtmfbcipjknjicaaGreatDoor
