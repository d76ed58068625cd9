/- Calls that look at owned blocks in regions that draw their order, whose results are new blocks. No condition. -/
import Derived.Test.YtdignmbeiohhiaaOpsN
import Derived.Test.YtdignmbeiohhiaaPush
namespace Go.Proofs.Ytdignmbeiohhiaa
open Eng
namespace Eng
theorem names_args {s : St} {n : Nat} : ∀ (l : List Operand) (x : Operand), x ∈ l → n ∈ (s.get x).names → n ∈ RV.namesL (l.map s.get)
  | [], _, h, _ => by cases h
  | y :: ys, x, h, hn => by
    rw [List.map_cons, RV.namesL, List.mem_append]
    rcases List.mem_cons.1 h with rfl | h
    · exact .inl hn
    · exact .inr (names_args ys x h hn)
theorem Gf.callv {P ops RO new d f args ats ty pos after s argsR r} (hargs : args.toList.map (fun x => view1 s.O (s.get x)) = argsR) (hsee : (args.toList.map s.get).all RV.seeOk = true) (hro : ∀ n ∈ RV.namesL (args.toList.map s.get), RO n = true) (hc : callable P f = true) (hfc : FCr P f argsR r) (hr : r.resOkT = true) (hns : r.noSh = true) (hnb : (bnames (openR d r).2).Nodup) (hnew : bnames (openR d r).2 = new) (hf : ∀ m ∈ new, m < 1000000000000) : Gf P ops RO new ⟨some d, .call ⟨.value (.func f), args, ats⟩, ty, pos, after, none⟩ s (openR d r).1 (openR d r).2 := by
  subst hnew
  intro s2 ha hO hn
  have hg : ∀ x ∈ args.toList, s2.get x = s.get x := fun x hx => ha.1 x (by simp only [Op.operands, Call.operands, Array.toList_append]; simp [hx])
  refine .plain rfl (ops_callv (hargs := ?_) (hsee := ?_) (hc := hc) (hfc := hfc) (hr := hr) (hns := hns) (hnb := hnb) (hf := fun m hm => ⟨hf m hm, (hn m hm).1, (hn m hm).2⟩))
  · rw [← hargs]
    refine List.map_congr_left fun x hx => ?_
    rw [hg x hx]
    exact view1_congr fun n hn => hO n (hro n (names_args _ x hx hn))
  · rw [List.map_congr_left hg]; exact hsee
end Eng
end Go.Proofs.Ytdignmbeiohhiaa
