/- Functions that the model gives itself (finding a byte, comparing texts); bytes as a text. For all texts. -/
import Derived.Laws.Externs
import Derived.Laws.BytesArg
import Derived.Lib.Bytealg
import Derived.Test.YtpcckakchpblcaaGreatDoorJ6
namespace Go.Proofs.YtpcckakchpblcaaGreatDoor
namespace Eng
open Go.RowKit
/-- A call of a function that the model gives itself. -/
theorem run_calle {P : Program} {o : Oper} {a : Act} {w : World} {f args ats} {fn : Func} {e : Array Value → Sem Value} (ho : o.op = .call ⟨.value (.func f), args, ats⟩) (hf : P.funcs[f]? = some fn) (hname : (fn.name == "runtime.NumGoroutine") = false) (hb : fn.body.isNone = true) (hn : Extern.findNext fn = none) (he : Extern.find fn = some e) :
    (execOp a.eval o).run P w = ((e (args.map a.eval)).run P w).andThen fun v w' => .ok (.value v) w' := by
  rw [← run_callFunc_extern hf hname hb hn he (args.map a.eval) w]
  simp [execOp, ho, resolve, Deferred.ofValue, invoke, Act.eval]
section
variable {P : Program} {s : St} {d : Option Tmp} {ty : TypeId} {pos : String} {after : Array Edge} {g : Option (Nat × Bool)}
theorem ops_ext2 {f x y ats} {fn : Func} {e : Array Value → Sem Value} {p q z : Value} (hx : s.get x = .v p) (hy : s.get y = .v q) (hf : P.funcs[f]? = some fn) (hname : (fn.name == "runtime.NumGoroutine") = false) (hb : fn.body.isNone = true) (hn : Extern.findNext fn = none) (he : Extern.find fn = some e)
    (h : ∀ w, (e #[p, q]).run P w = .ok z w) : OpS P ⟨d, .call ⟨.value (.func f), #[x, y], ats⟩, ty, pos, after, g⟩ s ⟨sput d (.v z) s.fr, s.O⟩ :=
  ops_exact fun _ a w _ _ _ hr => by
    rw [run_calle rfl hf hname hb hn he]
    simp [hr.ex hx, hr.ex hy, h]
theorem ops_indexByte {f x y ats} {fn : Func} {p : List UInt8} {b : UInt8} (hx : s.get x = .str p) (hy : s.get y = .v (.int .u8 (b.toNat : Nat))) (hf : P.funcs[f]? = some fn) (hname : (fn.name == "runtime.NumGoroutine") = false) (hb : fn.body.isNone = true) (hn : Extern.findNext fn = none) (he : Extern.find fn = some Extern.BytealgIndexByte.indexByte) :
    OpS P ⟨d, .call ⟨.value (.func f), #[x, y], ats⟩, ty, pos, after, g⟩ s ⟨sput d (.v (.int .i64 (Lib.indexByte p b))) s.fr, s.O⟩ :=
  ops_ext2 hx hy hf hname hb hn he fun w => by
    rw [Lib.run_indexByteString]
    simp
theorem ops_compare {f x y ats} {fn : Func} {p q : List UInt8} (hx : s.get x = .str p) (hy : s.get y = .str q) (hf : P.funcs[f]? = some fn) (hname : (fn.name == "runtime.NumGoroutine") = false) (hb : fn.body.isNone = true) (hn : Extern.findNext fn = none) (he : Extern.find fn = some Extern.BytealgCompare.compare) :
    OpS P ⟨d, .call ⟨.value (.func f), #[x, y], ats⟩, ty, pos, after, g⟩ s ⟨sput d (.v (.int .i64 (Lib.compareBytes p q))) s.fr, s.O⟩ :=
  ops_ext2 hx hy hf hname hb hn he fun w => by
    rw [Lib.run_compareString]
/-- Bytes as a text. -/
theorem ops_convs {x t u e} {l : List UInt8} (hx : s.get x = .sh (l.map RVy)) (hs : P.underlying t = some (.slice e)) (he : P.underlying e = some (.int .u8)) (hd : P.underlying u = some .string) :
    OpS P ⟨d, .convert t u x, ty, pos, after, g⟩ s ⟨sput d (.str l) s.fr, s.O⟩ :=
  ops_exact fun _ a w F ρ fp hr => by
    have h1 := hr.get x
    rw [hx] at h1
    rcases h1.sh_inv with ⟨_, ⟨h0, a', cap, h2⟩ | ⟨a', cap, k, cells, h2, hk, hF, hm, hc, hf⟩⟩
    · have hl : l = [] := by simpa using h0
      subst hl
      cases a' with
      | none => simp [execOp, h2, run_convert_bytes_nil w t e hs he 0 cap u hd]; rfl
      | some a' =>
        rw [show (execOp a.eval ⟨d, .convert t u x, ty, pos, after, g⟩).run P w = ((convert t u (a.eval x)).run P w).andThen fun v w' => .ok (.value v) w' from by simp [execOp]]
        rw [h2, run_convert_bytes_string w t u e (some a') 0 cap hs he hd, run_bytesToString w a' 0 cap [] (by simpa using run_loadCells_list (P := P) w a' [] (by simp))]
        rfl
    · have key : ∀ (l : List UInt8) (k : Nat) (cells : List Value), FE w F k (l.map RVy) cells → 0 < l.length → cells = (l.map fun b => Value.int .u8 ((b.toNat : Nat) : Int)) := by
        intro l
        induction l with
        | nil => intro k cells hf h0; simp at h0
        | cons b l ih =>
          intro k cells hf _
          rw [List.map_cons] at hf
          cases hf with
          | v _ h1 h =>
            rcases Nat.eq_zero_or_pos l.length with hl | hl
            · have hl0 : l = [] := List.eq_nil_of_length_eq_zero hl
              subst hl0
              cases h
              rfl
            · rw [ih _ _ h hl]; rfl
      rcases Nat.eq_zero_or_pos l.length with hl | hl
      · have hl0 : l = [] := List.eq_nil_of_length_eq_zero hl
        subst hl0
        rw [show (execOp a.eval ⟨d, .convert t u x, ty, pos, after, g⟩).run P w = ((convert t u (a.eval x)).run P w).andThen fun v w' => .ok (.value v) w' from by simp [execOp]]
        rw [h2, run_convert_bytes_string w t u e (some a') _ cap hs he hd, run_bytesToString w a' _ cap [] (by simpa using run_loadCells_list (P := P) w a' [] (by simp))]
        rfl
      · have hcs := key l k cells hf hl
        subst hcs
        rw [show (execOp a.eval ⟨d, .convert t u x, ty, pos, after, g⟩).run P w = ((convert t u (a.eval x)).run P w).andThen fun v w' => .ok (.value v) w' from by simp [execOp]]
        have hld := run_loadCells_list (P := P) w a' (l.map fun b : UInt8 => Value.int .u8 ((b.toNat : Nat) : Int)) hc
        rw [h2, run_convert_bytes_string w t u e (some a') _ cap hs he hd, run_bytesToString w a' _ cap (l.map fun b : UInt8 => ((b.toNat : Nat) : Int)) (by simpa [List.map_map, Function.comp_def] using hld), foldl_push_bytes]
        simp [ByteArray.empty, ByteArray.emptyWithCapacity, Function.comp_def]
        rfl
theorem ops_half {x y t u k} {m : Nat} (hx : s.get x = RVu m) (hy : s.get y = .v (.int k 1)) : OpS P ⟨d, .binOp .shr t x y u, ty, pos, after, g⟩ s ⟨sput d (RVu (m / 2)) s.fr, s.O⟩ := by
  have := ops_shru (P := P) (d := d) (t := t) (u := u) (ty := ty) (pos := pos) (after := after) (g := g) (n := 1) hx hy (by omega)
  rwa [shrW, Nat.pow_one] at this
end
section
variable {P : Program} {s : St} {d : Tmp} {ty : TypeId} {pos : String} {after : Array Edge} {g : Option (Nat × Bool)}
/-- A call of a function value that caught nothing, on frozen values. -/
theorem ops_callfV {t : Tmp} {f args ats argsR r} (hfn : lget s.fr t = .v (.func (.func f) #[] #[]) := by rfl) (hargs : args.toList.map s.get = argsR := by rfl) (hnt : argsR.all RV.notTup = true := by rfl) (hc : callable P f = true := by kernel_rfl) (hfc : FCr P f argsR r) :
    OpS P ⟨some d, .call ⟨.value (.tmp t), args, ats⟩, ty, pos, after, g⟩ s ⟨lset s.fr d r.fzR, s.O⟩ := by
  rintro E a w ⟨F, ρ, fp, h⟩ K Q hK
  have hA := h.args args.toList (by rw [hargs]; exact hnt)
  rw [hargs] at hA
  have hy : a.eval (.tmp t) = .func (.func f) #[] #[] := h.ex (x := .tmp t) hfn
  have hrun : (execOp a.eval ⟨some d, .call ⟨.value (.tmp t), args, ats⟩, ty, pos, after, g⟩).run P w = .ok (.enter f (args.map a.eval)) w := by
    unfold callable at hc
    split at hc
    · rename_i fn hfn2
      simp only [Bool.and_eq_true, bne_iff_ne] at hc
      obtain ⟨bd, hb⟩ := Option.isSome_iff_exists.1 hc.1
      simp [execOp, resolve, hy, Deferred.ofValue, invoke, callFunc, hfn2, hc.2, hb]
    · cases hc
  simp only [Oper.wp, hrun, Oper.upon_enter]
  have hcall := hfc w F ρ _ [] hA (.nil h.O.gok) List.nodup_nil (fun b hb => nomatch hb) h.Fs
  rw [show (args.toList.map a.eval).toArray = args.map a.eval from Array.ext' (by rw [Array.toList_map])] at hcall
  refine hcall.mono ?_
  rintro e w' ⟨v, rv, Oout, F', ρ', fp1, fp2, rfl, ⟨rfl, rfl⟩, hsv, hO2, hnd, hfp, hF, hF', hb, hsz, h1, h2, h3, _⟩
  have hfp1 : ∀ b ∈ fp1, w.heap.size ≤ b := fun b hb => by have := (hfp b (by simp [hb])).2; simpa using this
  have hx := h.world (w' := w') (F' := fun b => F' b ∨ b ∈ fp1) (fun b hb => .inl (hF b hb)) (fun b hb => by
    rcases hb with hb | hb
    · have := hF' b hb; simpa using this
    · exact ⟨.inr (hfp1 b hb), hsv.lt b hb⟩) (fun b hb' => hb b hb' (by simp)) hsz h1 h2 h3
  exact hK _ _ ⟨_, ρ, fp, hx.put (some d) ((hsv.fzR (fun b hb => .inl hb) (fun b hb => .inr hb)).noName (RV.fzR_names _))⟩
end
end Eng
open Eng
attribute [local irreducible] OpS OpG FC FCr Rel Fl Ef DR Fs
set_option linter.unusedSimpArgs false
set_option maxHeartbeats 0
set_option maxRecDepth 100000

end Go.Proofs.YtpcckakchpblcaaGreatDoor
