/-
  'for k := range m' inside a fence, over a map that is a list of entries; what an iterator of a map owes.
-/
import Derived.Test.YtjhpdmiafecdnaaRange
import Derived.Sort.MapsRangeIn
import Derived.RangeFuncNested
import Derived.RangeFuncBound
import Derived.RangeFuncCalls
import Derived.RangeFuncLeaves
import Derived.Shelf.Abstract
import Derived.Shelf.RegionOpen
import Derived.WalkKit
import Derived.OwnWalkIn
import Derived.TacticsInMore
import Derived.LoopNIn
import Derived.LoopIn
namespace Go.Cob
open Go Go.RowKit
set_option linter.unusedSectionVars false
set_option linter.unusedSimpArgs false
set_option linter.unusedVariables false
section
variable {α β : Type} {encK : α → Value} {encV : β → Value} {P : Program} {kt vt : TypeId} {F : Fence} {n : Nat}

theorem Ch.grows {S : Nat → Prop} {w : World} {r : Nat} (p : Ch S w) (hS : ∀ b, S b → b = r) : w.grownBy p.w (some r) :=
  ⟨p.os, p.tape, p.output, p.size, fun k hk hne => p.same k hk (fun hs => hne (by rw [hS k hs]))⟩
theorem Ranging.of_walks {w w' : World} {m r : Nat} {l left : List (α × β)} (h : Ranging encK encV w m r l left) (hk : KeepsWalks w w') : Ranging encK encV w' m r l left := by
  obtain ⟨bs, cl, seen, h1, h2, h3, h4, h5, h6⟩ := h
  exact ⟨bs, cl, seen, hk.same m _ h1 rfl, h2, h3, h4, hk.same r _ h5 rfl, h6⟩
theorem Ranging.walk {w : World} {m r : Nat} {l left : List (α × β)} (h : Ranging encK encV w m r l left) : ∃ o : Obj, w.heap[r]? = some o ∧ o.isWalk = true := by
  obtain ⟨bs, cl, seen, h1, h2, h3, h4, h5, h6⟩ := h
  exact ⟨_, h5, rfl⟩
theorem MapAt.below {w w' : World} {m n0 : Nat} {l : List (α × β)} [DecidableEq α] (h : MapAt encK encV w m l) (hb : Below n0 w w') (hm : m < n0) : MapAt encK encV w' m l := h.keep (hb.block m hm)

theorem wpListIn_mrange {w : World} {ops : Array Oper} {rest : List Oper} {o : Oper} {a : Act} {Q : Exit → Act → World → Prop} (hg : o.guard = none) (m : Operand) (t : TypeId) (hop : o.op = Op.range t m) (ht : P.underlying t = some (.map kt vt)) {b : Nat} {l : List (α × β)}
    (hm : a.eval m = .map (some b)) (h : MapAt encK encV w b l)
    (hK : ∀ ob, Ranging encK encV (w.alloc ob) b w.heap.size l l → wpListIn F n P ops Q rest (a.put o.dst (.pointer (some ⟨w.heap.size, 0, none⟩))) (w.alloc ob)) :
    wpListIn F n P ops Q (o :: rest) a w := by
  refine wpListIn_plain hg fun K' hK' => ?_
  obtain ⟨ob, hrun, h1⟩ := h.range ht
  unfold Oper.wpIn
  refine ⟨by simp [Oper.about, hop], ?_⟩
  rw [Oper.semAt_plain F _ _ (by rw [hop]; intro c hc'; cases hc')]
  simp [execOp, hop, hm, hrun, Result.andThen]
  exact hK' _ _ (hK ob h1)
theorem wpListIn_mnext {w : World} {ops : Array Oper} {rest : List Oper} {o : Oper} {a : Act} {Q : Exit → Act → World → Prop} (hg : o.guard = none) (it : Operand) (hop : o.op = Op.next it false) {m r : Nat} {l left : List (α × β)}
    (hit : a.eval it = .pointer (some ⟨r, 0, none⟩)) (h : Ranging encK encV w m r l left)
    (hDone : left = [] → wpListIn F n P ops Q rest (a.put o.dst (.tuple #[.bool false])) w)
    (hMore : ∀ l1 k v l2, ∀ p : Ch (fun b => b = r) w, left = l1 ++ (k, v) :: l2 → Ranging encK encV p.w m r l (l1 ++ l2) → (Instr.entry (.pointer (some ⟨r, 0, none⟩))).run P p.w = .ok (.tuple #[encK k, encV v]) p.w →
      wpListIn F n P ops Q rest (a.put o.dst (.tuple #[.bool true, encK k, encV v])) p.w) :
    wpListIn F n P ops Q (o :: rest) a w := by
  refine wpListIn_plain hg fun K' hK' => ?_
  unfold Oper.wpIn
  refine ⟨by simp [Oper.about, hop], ?_⟩
  rw [Oper.semAt_plain F _ _ (by rw [hop]; intro c hc'; cases hc')]
  rcases h.next (P := P) o.type with ⟨h0, hrun⟩ | ⟨l1, x, l2, p, he, hrun, h1, hen⟩
  · simp [execOp, hop, hit, hrun, Result.andThen]
    exact hK' _ _ (hDone h0)
  · simp [execOp, hop, hit, hrun, Result.andThen]
    exact hK' _ _ (hMore l1 x.1 x.2 l2 p he h1 hen)
end
end Go.Cob
