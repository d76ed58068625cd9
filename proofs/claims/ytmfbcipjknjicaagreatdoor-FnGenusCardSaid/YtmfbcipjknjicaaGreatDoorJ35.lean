/- Maps in a walk: made, looked up, written. No condition. -/
import Derived.Test.YtmfbcipjknjicaaGreatDoorExt
import Derived.Test.YtmfbcipjknjicaaGreatDoorHpR
import Derived.Test.YtmfbcipjknjicaaGreatDoorJ6
import Derived.Test.YtmfbcipjknjicaaGreatDoorMisK
import Derived.Test.YtmfbcipjknjicaaGreatDoorMp
namespace Go.Proofs.YtmfbcipjknjicaaGreatDoor
set_option linter.unusedSectionVars false
variable [One Bool]
set_option linter.unusedSimpArgs false
set_option linter.unusedVariables false
set_option maxHeartbeats 0
set_option maxRecDepth 100000
namespace Eng
open Go.RowKit
theorem lookup_put {α β : Type} [BEq α] [LawfulBEq α] (l : List (α × β)) (k : α) (v : β) (x : α) : (sput2 l k v).lookup x = if x == k then some v else l.lookup x := by
  have happ : ∀ (l : List (α × β)), (l ++ [(k, v)]).lookup x = (l.lookup x).or (if x == k then some v else none) := by
    intro l
    induction l with
    | nil => simp only [List.nil_append, List.lookup_cons, List.lookup_nil]; split <;> simp_all
    | cons y ys ih =>
      obtain ⟨a, b⟩ := y
      rw [List.cons_append, List.lookup_cons, List.lookup_cons, ih]
      split <;> simp
  have hmap : ∀ (l : List (α × β)), (l.map fun p => if p.1 == k then (k, v) else p).lookup x = if x == k then (if l.any (fun p => p.1 == k) then some v else none) else l.lookup x := by
    intro l
    induction l with
    | nil => simp
    | cons y ys ih =>
      obtain ⟨a, b⟩ := y
      rw [List.map_cons, List.any_cons]
      by_cases ha : a == k
      · have ha' := LawfulBEq.eq_of_beq ha
        subst ha'
        simp only [ha, if_true, Bool.true_or, List.lookup_cons]
        by_cases hx : x == a
        · simp [hx]
        · simp only [hx, if_false, ih]; simp
      · have ha2 : (a == k) = false := by simpa using ha
        rw [show (if (a, b).1 == k then (k, v) else (a, b)) = (a, b) from by simp [ha2], List.lookup_cons, List.lookup_cons, ih]
        by_cases hx : x == k
        · have hx' := LawfulBEq.eq_of_beq hx
          subst hx'
          have : (x == a) = false := by
            cases h : x == a with
            | false => rfl
            | true => have := LawfulBEq.eq_of_beq h; subst this; simp at ha
          rw [this]
          simp only [BEq.rfl, if_true, ha2, Bool.false_or]
        · have hx2 : (x == k) = false := by simpa using hx
          rw [hx2]
          simp
  unfold sput2
  split
  · rename_i h
    rw [hmap, h]; simp
  · rename_i h
    rw [happ]
    by_cases hx : x == k
    · have hx' := LawfulBEq.eq_of_beq hx
      subst hx'
      cases hl : l.lookup x with
      | none => simp
      | some u => exact absurd (List.any_eq_true.2 ⟨_, lookup_mem hl, by simp⟩) h
    · simp [hx]
section
variable {P : Program} {ops : Array Oper} {d : Tmp} {ty : TypeId} {pos : String} {after : Array Edge}
theorem l_makeIB {rest R} {fr : List RV} {O : List Bk} {t} {fr' : Nat → List RV} (hd : d < 1000000000000 ∧ d ∉ RV.namesL fr := by simp [nm]) (hO : d ∉ onames O := by simp [nm, onames]) (e : ∀ b, lset fr d (.v (.map (some b))) = fr' b := by intro b; simp only [lset] <;> rfl)
    (hk : ∀ b, L P ops rest R ⟨fr' b, (d, 0, MIB b []) :: O⟩) : L P ops (⟨some d, .makeMap t none, ty, pos, after, none⟩ :: rest) R ⟨fr, O⟩ :=
  l_opx' rfl (opx_makeMap hd hO) fun b _ => by have := hk b; rw [← e b] at this; exact this
theorem l_makeSI {rest R} {fr : List RV} {O : List Bk} {t} {fr' : Nat → List RV} (hd : d < 1000000000000 ∧ d ∉ RV.namesL fr := by simp [nm]) (hO : d ∉ onames O := by simp [nm, onames]) (e : ∀ b, lset fr d (.v (.map (some b))) = fr' b := by intro b; simp only [lset] <;> rfl)
    (hk : ∀ b, L P ops rest R ⟨fr' b, (d, 0, MSI b []) :: O⟩) : L P ops (⟨some d, .makeMap t none, ty, pos, after, none⟩ :: rest) R ⟨fr, O⟩ :=
  l_opx' rfl (opx_makeMap hd hO) fun b _ => by have := hk b; rw [← e b] at this; exact this
end
section
variable {P : Program} {s : St} {d : Tmp} {ty : TypeId} {pos : String} {after : Array Edge} {g : Option (Nat × Bool)}
theorem ops_getIBv {t x y b n l kt et} {key : Int} {v : Bool} (ho1 : Once l) (hx : s.get x = .v (.map (some b))) (hy : s.get y = RVi key) (ho : olook n s.O = some (0, MIB b l)) (ht : P.underlying t = some (.map kt et)) (hd : P.underlying kt = some (.int .i64)) (hz : zeroOf P et = some (.bool false)) (hv : (l.lookup key).getD false = v) :
    OpS P ⟨some d, .lookup t x y false, ty, pos, after, g⟩ s ⟨lset s.fr d (RVb v), s.O⟩ := by
  subst hv
  exact ops_getIB ho1 hx hy ho ht hd hz
theorem ops_getSIv {t x y b n l kt et} {key : List UInt8} {v : Int} {k : Bool} (ho1 : Once l) (hx : s.get x = .v (.map (some b))) (hy : s.get y = .str key) (ho : olook n s.O = some (0, MSI b l)) (ht : P.underlying t = some (.map kt et)) (hd : P.underlying kt = some .string) (hz : zeroOf P et = some (.int .i64 0)) (hv : (l.lookup key).getD 0 = v) (hk : (l.lookup key).isSome = k) :
    OpS P ⟨some d, .lookup t x y true, ty, pos, after, g⟩ s ⟨lset s.fr d (.tup [RVi v, RVb k]), s.O⟩ := by
  subst hv; subst hk
  exact ops_getSI ho1 hx hy ho ht hd hz
theorem ops_conv8I {x t u k0} {d : Option Tmp} {m : Int} (hx : s.get x = .v (.int k0 m)) (hs : (P.underlying t).isSome = true) (ht : P.underlying u = some (.int .u8)) (h2 : 0 ≤ m ∧ m ≤ 255) : OpS P ⟨d, .convert t u x, ty, pos, after, g⟩ s ⟨sput d (RVy (UInt8.ofNat (m % 256).toNat)) s.fr, s.O⟩ := by
  obtain ⟨k, rfl⟩ : ∃ k : Nat, m = (k : Int) := ⟨m.toNat, by omega⟩
  have := ops_conv8 (P := P) (d := d) (ty := ty) (pos := pos) (after := after) (g := g) (s := s) hx hs ht (by omega)
  rwa [show ((k : Int) % 256).toNat = k by omega]
end
end Eng
end Go.Proofs.YtmfbcipjknjicaaGreatDoor
/- The program's key of a position, and the least number that is left out. For all positions of the sizes that the theorems name. -/
namespace Go.Proofs.YtmfbcipjknjicaaGreatDoor
set_option linter.unusedSectionVars false
variable [One Bool]
open Eng
attribute [local irreducible] OpS OpG FC FCr Rel Fl Ef DR Fs
attribute [local simp] RV.fzR_names
set_option linter.unusedSimpArgs false
set_option linter.unusedVariables false
set_option maxHeartbeats 0
set_option maxRecDepth 100000

theorem keyOf_ok (h : List Int) (t o : Nat) (ht : t ≤ 255) (ho : o ≤ 255) (hx : ∀ x ∈ h, 0 < x ∧ x ≤ 20) (hl : h.length ≤ 20) : FCr Tryz.prog 80 [RIs h, RVn t, RVn o] (.str (keyT h t o)) := by
  refine (fcr_in Tryz.func80 rfl (by simp only [Tryz.ntmps80, anys, List.length_cons, List.length_nil, Nat.reduceAdd, Nat.reduceSub, List.replicate_succ, List.replicate_zero, List.cons_append, List.nil_append] <;> rfl) ?_)
  repeat' first | apply w_seq | apply w_block | apply rb_n | apply rb_ret | apply rb_eq | refine rb_ne (by rfl) ?_ | apply w_exit | apply rt_exit | apply w_region | apply l_nil | apply rt_n | apply w_ret | apply rt_ret | apply w_skip | refine w_cond_t rfl ?_ | refine w_cond_f rfl ?_ | ((first | refine w_cnd rfl ?_ ?_ | refine w_cd rfl ?_ ?_ | refine w_cn rfl ?_ ?_ | refine w_cond rfl ?_ ?_) <;> intro hc) | (refine l_o ?_; first | refine l_op rfl (by first | (apply k_convert; first | exact ops_conv8I rfl (by kernel_rfl) (by kernel_rfl) (by omega) | fail) | fail) (hk := ?_) | refine l_op (hk := ?_))
  refine w_loopm (ι := Nat × List UInt8) (fun q => [(17, RVn q.1), (7, .ref 14 0 q.2.length), (14, .any)]) (fun q => [(14, 1, q.2.map RVy)]) (fun q => q.1 ≤ h.length ∧ q.2.length = q.1 + 2 ∧ q.2 = byt t :: byt o :: (h.take q.1).map byt) (fun q => h.length - q.1) (0, [byt t, byt o]) (h0 := ?_) (hs := ?_) (round := ?_)
  · exact ⟨Nat.zero_le _, rfl, rfl⟩
  · refine le_eq (by (repeat' first | exact .nil | refine .keep ?_ | refine .any ?_); first | done | fail) rfl rfl
  · intro ⟨k, L⟩ ⟨hk, hLl, hL⟩
    dsimp only at hk hLl hL ⊢
    by_cases hk2 : k < h.length
    · have hxk := hx _ (List.getElem_mem hk2)
      repeat' first | apply w_seq | apply w_block | apply rb_n | apply rb_ret | apply rb_eq | refine rb_ne (by rfl) ?_ | apply w_exit | apply rt_exit | apply w_region | apply l_nil | apply rt_n | apply w_ret | apply rt_ret | apply w_skip | refine w_cond_t rfl ?_ | refine w_cond_f rfl ?_ | ((first | refine w_cnd rfl ?_ ?_ | refine w_cd rfl ?_ ?_ | refine w_cn rfl ?_ ?_ | refine w_cond rfl ?_ ?_) <;> intro hc) | (exfalso; omega) | (refine l_o ?_; first | refine l_op rfl (by first | (apply k_convert; first | exact ops_conv8I rfl (by kernel_rfl) (by kernel_rfl) (by omega) | fail) | fail) (hk := ?_) | refine l_op (hk := ?_))
      refine rn_mk (k + 1, L ++ [byt h[k]]) ?_ (by first | omega | (dsimp only; omega)) (le_eq (by (repeat' first | exact .nil | refine .keep ?_ | refine .any ?_); first | done | fail) rfl rfl)
      refine ⟨hk2, by dsimp only; simp; omega, ?_⟩
      dsimp only
      rw [hL, List.take_succ_eq_append_getElem hk2, List.map_append]
      rfl
    · obtain rfl : k = h.length := by omega
      rw [List.take_length] at hL
      have hL : L = keyT h t o := hL
      subst hL
      refine w_le _ (le_freeze 14 rfl (by simp only [nz, nf, nl, nb, nr, ng, nq, nu, reduceIte, Nat.reduceEqDiff, Nat.reduceAdd]; rfl) (by simp only [nz, nf, nl, nb, nr, ng, nq, nu, reduceIte, Nat.reduceEqDiff, Nat.reduceAdd]; rfl)) ?_
      repeat' first | apply w_seq | apply w_block | apply rb_n | apply rb_ret | apply rb_eq | refine rb_ne (by rfl) ?_ | apply w_exit | apply rt_exit | apply w_region | apply l_nil | apply rt_n | apply w_ret | apply rt_ret | apply w_skip | refine w_cond_t rfl ?_ | refine w_cond_f rfl ?_ | ((first | refine w_cnd rfl ?_ ?_ | refine w_cd rfl ?_ ?_ | refine w_cn rfl ?_ ?_ | refine w_cond rfl ?_ ?_) <;> intro hc) | (exfalso; omega) | (refine l_o ?_; first | refine l_op rfl (by first | (apply k_convert; first | exact ops_convs (l := keyT h t o) rfl Tryz.underlying22 Tryz.underlying5 Tryz.underlying9 | fail) | fail) (hk := ?_) | refine l_op (hk := ?_))
      refine en_one (hf := Tryz.results80) (h := ?_); simp only [lget]; first | refine congrArg RVb ?_ | refine congrArg RVi ?_ | skip
theorem mexOf_ok (l : List Int) (hl : l.length ≤ 1048576) : FCr Tryz.prog 82 [RIs l] (RVi ((mexL l : Nat) : Int)) := by
  refine (fcr_in Tryz.func82 rfl (by simp only [Tryz.ntmps82, anys, List.length_cons, List.length_nil, Nat.reduceAdd, Nat.reduceSub, List.replicate_succ, List.replicate_zero, List.cons_append, List.nil_append] <;> rfl) ?_)
  repeat' first | apply w_seq | apply w_block | apply rb_n | apply rb_ret | apply rb_eq | refine rb_ne (by rfl) ?_ | apply w_exit | apply rt_exit | apply w_region | apply l_nil | apply rt_n | apply w_ret | apply rt_ret | apply w_skip | refine w_cond_t rfl ?_ | refine w_cond_f rfl ?_ | ((first | refine w_cnd rfl ?_ ?_ | refine w_cd rfl ?_ ?_ | refine w_cn rfl ?_ ?_ | refine w_cond rfl ?_ ?_) <;> intro hc) | (refine l_o ?_; first | refine l_op (hk := ?_))
  refine l_makeIB (hk := fun b => ?_)
  repeat' first | apply w_seq | apply w_block | apply rb_n | apply rb_ret | apply rb_eq | refine rb_ne (by rfl) ?_ | apply w_exit | apply rt_exit | apply w_region | apply l_nil | apply rt_n | apply w_ret | apply rt_ret | apply w_skip | refine w_cond_t rfl ?_ | refine w_cond_f rfl ?_ | ((first | refine w_cnd rfl ?_ ?_ | refine w_cd rfl ?_ ?_ | refine w_cn rfl ?_ ?_ | refine w_cond rfl ?_ ?_) <;> intro hc) | (refine l_o ?_; first | refine l_op (hk := ?_))
  refine w_loopm (ι := Nat × List (Int × Bool)) (fun q => [(10, RVn q.1), (5, .any), (12, .any), (13, .any)]) (fun q => [(7, 0, MIB b q.2)]) (fun q => q.1 ≤ l.length ∧ Once q.2 ∧ ∀ x, (q.2.lookup x).getD false = decide (x ∈ l.take q.1)) (fun q => l.length - q.1) (0, []) (h0 := ?_) (hs := ?_) (round := ?_)
  · exact ⟨Nat.zero_le _, by simp [Once], by simp⟩
  · refine le_eq (by (repeat' first | exact .nil | refine .keep ?_ | refine .any ?_); first | done | fail) rfl rfl
  · intro ⟨k, m⟩ ⟨hk, hO, hm⟩
    dsimp only at hk hO hm ⊢
    by_cases hk2 : k < l.length
    · repeat' first | apply w_seq | apply w_block | apply rb_n | apply rb_ret | apply rb_eq | refine rb_ne (by rfl) ?_ | apply w_exit | apply rt_exit | apply w_region | apply l_nil | apply rt_n | apply w_ret | apply rt_ret | apply w_skip | refine w_cond_t rfl ?_ | refine w_cond_f rfl ?_ | ((first | refine w_cnd rfl ?_ ?_ | refine w_cd rfl ?_ ?_ | refine w_cn rfl ?_ ?_ | refine w_cond rfl ?_ ?_) <;> intro hc) | (exfalso; omega) | (refine l_o ?_; first | refine l_op rfl (by first | (apply k_mapUpdate; first | exact ops_putIB (val := true) (n := 7) hO rfl rfl rfl rfl Tryz.underlying119 Tryz.underlying3 | fail) | fail) (hk := ?_) | refine l_op (hk := ?_))
      refine rn_mk (k + 1, sput2 m l[k] true) ?_ (by first | omega | (dsimp only; omega)) (le_eq (by (repeat' first | exact .nil | refine .keep ?_ | refine .any ?_); first | done | fail) rfl rfl)
      refine ⟨hk2, once_put hO _ _, fun x => ?_⟩
      have e : (x ∈ l.take (k + 1)) = (x ∈ l.take k ∨ x = l[k]) := by rw [List.take_succ_eq_append_getElem hk2, List.mem_append, List.mem_singleton]
      simp only [lookup_put, e]
      by_cases hx : x = l[k]
      · simp [hx]
      · have := hm x
        simp [hx, this]
    · obtain rfl : k = l.length := by omega
      rw [List.take_length] at hm
      repeat' first | apply w_seq | apply w_block | apply rb_n | apply rb_ret | apply rb_eq | refine rb_ne (by rfl) ?_ | apply w_exit | apply rt_exit | apply w_region | apply l_nil | apply rt_n | apply w_ret | apply rt_ret | apply w_skip | refine w_cond_t rfl ?_ | refine w_cond_f rfl ?_ | ((first | refine w_cnd rfl ?_ ?_ | refine w_cd rfl ?_ ?_ | refine w_cn rfl ?_ ?_ | refine w_cond rfl ?_ ?_) <;> intro hc) | (exfalso; omega) | (refine l_o ?_; first | refine l_op (hk := ?_))
      refine w_loopm (ι := Nat) (fun n => [(6, RVn n), (17, .any), (18, .any), (19, .any), (20, .any), (21, .any)]) (fun _ => [(7, 0, MIB b m)]) (fun n => ∀ j < n, ((j : Nat) : Int) ∈ l) (fun n => l.length + 1 - n) 0 (h0 := ?_) (hs := ?_) (round := ?_)
      · intro j hj; omega
      · refine le_eq (by (repeat' first | exact .nil | refine .keep ?_ | refine .any ?_); first | done | fail) rfl rfl
      · intro n hb
        have hnl := below_len hb
        have hmn := hm (n : Int)
        by_cases hn : (n : Int) ∈ l
        · have hmn : (List.lookup (n : Int) m).getD false = true := by rw [hmn]; simpa using hn
          repeat' first | apply w_seq | apply w_block | apply rb_n | apply rb_ret | apply rb_eq | refine rb_ne (by rfl) ?_ | apply w_exit | apply rt_exit | apply w_region | apply l_nil | apply rt_n | apply w_ret | apply rt_ret | apply w_skip | refine w_cond_t rfl ?_ | refine w_cond_f rfl ?_ | ((first | refine w_cnd rfl ?_ ?_ | refine w_cd rfl ?_ ?_ | refine w_cn rfl ?_ ?_ | refine w_cond rfl ?_ ?_) <;> intro hc) | (refine l_o ?_; first | refine l_op rfl (by first | (apply k_lookup; first | exact ops_getIBv (n := 7) hO rfl rfl rfl Tryz.underlying119 Tryz.underlying3 (by kernel_rfl) hmn | fail) | fail) (hk := ?_) | refine l_op (hk := ?_))
          refine rn_mk (n + 1) ?_ (by first | omega | (dsimp only; omega)) (le_eq (by (repeat' first | exact .nil | refine .keep ?_ | refine .any ?_); first | done | fail) rfl rfl)
          intro j hj
          rcases Nat.lt_or_ge j n with h | h
          · exact hb j h
          · obtain rfl : j = n := by omega
            exact hn
        · have hmn : (List.lookup (n : Int) m).getD false = false := by rw [hmn]; simpa using hn
          repeat' first | apply w_seq | apply w_block | apply rb_n | apply rb_ret | apply rb_eq | refine rb_ne (by rfl) ?_ | apply w_exit | apply rt_exit | apply w_region | apply l_nil | apply rt_n | apply w_ret | apply rt_ret | apply w_skip | refine w_cond_t rfl ?_ | refine w_cond_f rfl ?_ | ((first | refine w_cnd rfl ?_ ?_ | refine w_cd rfl ?_ ?_ | refine w_cn rfl ?_ ?_ | refine w_cond rfl ?_ ?_) <;> intro hc) | (refine l_o ?_; first | refine l_op rfl (by first | (apply k_lookup; first | exact ops_getIBv (n := 7) hO rfl rfl rfl Tryz.underlying119 Tryz.underlying3 (by kernel_rfl) hmn | fail) | fail) (hk := ?_) | refine l_op (hk := ?_))
          refine en_one (hf := Tryz.results82) (h := ?_); simp only [lget]; first | refine congrArg RVb ?_ | refine congrArg RVi ?_ | skip
          rw [mexL_eq hn hb]
end Go.Proofs.YtmfbcipjknjicaaGreatDoor
