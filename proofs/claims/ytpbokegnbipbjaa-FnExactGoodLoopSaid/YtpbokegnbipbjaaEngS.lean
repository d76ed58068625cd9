/- The engine, part S: calls in drawn regions. No condition. -/
import Derived.Test.YtpbokegnbipbjaaEngR
namespace Go.Proofs.Ytpbokegnbipbjaa
namespace Eng
open Go.RowKit

def roL (l : List Nat) : Nat → Bool := fun n => l.contains n
theorem ro_of {l : List Nat} {O O' : List Bk} (h : ∀ n ∈ l, olook n O' = olook n O) : ∀ n, roL l n = true → olook n O' = olook n O := fun n hn => h n (by simpa [roL] using hn)

theorem Ef.callv {P ops new d f args ats ty pos after s argsR r} (hargs : args.toList.map (fun x => view1 s.O (s.get x)) = argsR) (hsee : (args.toList.map s.get).all RV.seeOk = true) (hc : callable P f = true) (hfc : FCr P f argsR r) (hr : r.resOkT = true) (hns : r.noSh = true) (hnb : (bnames (openR d r).2).Nodup)
    (hnew : bnames (openR d r).2 = new) (hf : ∀ m ∈ new, m ∉ onames s.O) : Ef P ops new ⟨some d, .call ⟨.value (.func f), args, ats⟩, ty, pos, after, none⟩ s (openR d r).1 ((openR d r).2 ++ s.O) := by
  subst hnew
  refine Ef.plain fun s2 hs hO hn => ?_
  have hg : ∀ x ∈ args.toList, s2.get x = s.get x := fun x hx => hs x (by simp only [Op.operands, Call.operands, Array.toList_append]; simp [hx])
  rw [← hO]
  refine ops_callv ?_ ?_ hc hfc hr hns hnb fun m hm => ⟨hn m hm, by rw [hO]; exact hf m hm⟩
  · rw [← hargs, hO]
    exact List.map_congr_left fun x hx => by rw [hg x hx]
  · rw [List.map_congr_left hg]; exact hsee
theorem Ef.callvY {P ops new d f args ats ty pos after s argsR r j want t b} (hj : gslot ops j = some t) (ht : lget s.fr t = .v (.bool b)) (hb : b = want) (hargs : args.toList.map (fun x => view1 s.O (s.get x)) = argsR) (hsee : (args.toList.map s.get).all RV.seeOk = true) (hc : callable P f = true) (hfc : FCr P f argsR r) (hr : r.resOkT = true) (hns : r.noSh = true) (hnb : (bnames (openR d r).2).Nodup)
    (hnew : bnames (openR d r).2 = new) (hf : ∀ m ∈ new, m ∉ onames s.O) : Ef P ops new ⟨some d, .call ⟨.value (.func f), args, ats⟩, ty, pos, after, some (j, want)⟩ s (openR d r).1 ((openR d r).2 ++ s.O) := by
  subst hnew
  refine Ef.yes hj ht hb fun s2 hs hO hn => ?_
  have hg : ∀ x ∈ args.toList, s2.get x = s.get x := fun x hx => hs x (by simp only [Op.operands, Call.operands, Array.toList_append]; simp [hx])
  rw [← hO]
  refine ops_callv ?_ ?_ hc hfc hr hns hnb fun m hm => ⟨hn m hm, by rw [hO]; exact hf m hm⟩
  · rw [← hargs, hO]
    exact List.map_congr_left fun x hx => by rw [hg x hx]
  · rw [List.map_congr_left hg]; exact hsee

section
variable {P : Program} {ops : Array Oper} {RO : Nat → Bool} {d : Option Tmp} {ty : TypeId} {pos : String} {after : Array Edge} {s : St} {j : Nat} {want : Bool} {t : Tmp} {b : Bool}
theorem Fl.move {x} : Fl P ops RO ⟨d, .move x, ty, pos, after, none⟩ s (s.get x) := .plain fun s2 hs _ => by
  have h := ops_move (P := P) (d := d) (ty := ty) (pos := pos) (after := after) (g := none) (s := s2) (x := x)
  rwa [hs x (by simp [Op.operands])] at h
theorem Fl.assign {x} : Fl P ops RO ⟨d, .assign x, ty, pos, after, none⟩ s (s.get x) := .plain fun s2 hs _ => by
  have h := ops_assign (P := P) (d := d) (ty := ty) (pos := pos) (after := after) (g := none) (s := s2) (x := x)
  rwa [hs x (by simp [Op.operands])] at h
theorem Fl.pick_t {c x y} (hc : s.get c = .v (.bool true)) : Fl P ops RO ⟨d, .pick c x y, ty, pos, after, none⟩ s (s.get x) := .plain fun s2 hs _ => by
  have h := ops_pick_t (P := P) (d := d) (ty := ty) (pos := pos) (after := after) (g := none) (s := s2) (c := c) (x := x) (y := y) ((hs c (by simp [Op.operands])).trans hc)
  rwa [hs x (by simp [Op.operands])] at h
theorem Fl.pick_f {c x y} (hc : s.get c = .v (.bool false)) : Fl P ops RO ⟨d, .pick c x y, ty, pos, after, none⟩ s (s.get y) := .plain fun s2 hs _ => by
  have h := ops_pick_f (P := P) (d := d) (ty := ty) (pos := pos) (after := after) (g := none) (s := s2) (c := c) (x := x) (y := y) ((hs c (by simp [Op.operands])).trans hc)
  rwa [hs y (by simp [Op.operands])] at h
theorem Fl.moveY {x} (hj : gslot ops j = some t) (ht : lget s.fr t = .v (.bool b)) (hb : b = want) : Fl P ops RO ⟨d, .move x, ty, pos, after, some (j, want)⟩ s (s.get x) := .yes hj ht hb fun s2 hs _ => by
  have h := ops_move (P := P) (d := d) (ty := ty) (pos := pos) (after := after) (g := some (j, want)) (s := s2) (x := x)
  rwa [hs x (by simp [Op.operands])] at h
theorem Fl.assignY {x} (hj : gslot ops j = some t) (ht : lget s.fr t = .v (.bool b)) (hb : b = want) : Fl P ops RO ⟨d, .assign x, ty, pos, after, some (j, want)⟩ s (s.get x) := .yes hj ht hb fun s2 hs _ => by
  have h := ops_assign (P := P) (d := d) (ty := ty) (pos := pos) (after := after) (g := some (j, want)) (s := s2) (x := x)
  rwa [hs x (by simp [Op.operands])] at h
theorem Fl.pick_tY {c x y} (hj : gslot ops j = some t) (ht : lget s.fr t = .v (.bool b)) (hb : b = want) (hc : s.get c = .v (.bool true)) : Fl P ops RO ⟨d, .pick c x y, ty, pos, after, some (j, want)⟩ s (s.get x) := .yes hj ht hb fun s2 hs _ => by
  have h := ops_pick_t (P := P) (d := d) (ty := ty) (pos := pos) (after := after) (g := some (j, want)) (s := s2) (c := c) (x := x) (y := y) ((hs c (by simp [Op.operands])).trans hc)
  rwa [hs x (by simp [Op.operands])] at h
theorem Fl.pick_fY {c x y} (hj : gslot ops j = some t) (ht : lget s.fr t = .v (.bool b)) (hb : b = want) (hc : s.get c = .v (.bool false)) : Fl P ops RO ⟨d, .pick c x y, ty, pos, after, some (j, want)⟩ s (s.get y) := .yes hj ht hb fun s2 hs _ => by
  have h := ops_pick_f (P := P) (d := d) (ty := ty) (pos := pos) (after := after) (g := some (j, want)) (s := s2) (c := c) (x := x) (y := y) ((hs c (by simp [Op.operands])).trans hc)
  rwa [hs y (by simp [Op.operands])] at h
end

end Eng
end Go.Proofs.Ytpbokegnbipbjaa
