/-
  Deleting and appending in a region of any order; rows that grow.
-/
import Derived.Test.YtjhpdmiafecdnaaMem
import Derived.Test.YtjhpdmiafecdnaaMixB
import Derived.Maps.AppendAt
import Derived.Deep.AppendLies
import Derived.Laws.OwnMore
namespace Go.Cob
open Go Go.RowKit
set_option linter.unusedVariables false
section
variable {α β : Type} [DecidableEq α] {P : Program} {kt vt : TypeId} {encK : α → Value} {encV : β → Value}

theorem wpMix_del {w : World} {C : World → Prop} {ops : Array Oper} {rest : List Oper} {o : Oper} {a : Act} {Q : Act → World → Prop} {b : Nat} {l : List (α × β)} {t : TypeId} {k : α} (hg : Region.wanted o (yielded ops a.tmps) = true) (m x : Operand) (t2 : TypeId)
    (hop : o.op = .call { callee := .builtin .delete, args := #[m, x], argTypes := #[t, t2] }) (K : KeyLaw P kt encK) (ht : P.underlying t = some (.map kt vt)) (hm : a.eval m = .map (some b)) (hx : a.eval x = encK k)
    (h : MapAt encK encV w b l) (hK : ∀ ob, MapAt encK encV (putO w b ob) b (adel l k) → C (putO w b ob) ∧ wpMix P ops C Q rest (a.put o.dst (.tuple #[])) (putO w b ob)) :
    wpMix P ops C Q (o :: rest) a w := by
  obtain ⟨ob, hr, h'⟩ := h.del (ty := o.type) K ht k #[t, t2] rfl
  unfold wpMix
  refine ⟨trivial, ?_⟩
  rw [if_pos hg, if_pos (by simp [isEff, hop])]
  refine ⟨trivial, ?_⟩
  unfold effAt execOp
  simp only [hop, resolve, invoke, builtin, Sem.run_bind, Sem.run_pure, Result.andThen_ok, List.map_toArray, List.map_cons, List.map_nil, hm, hx, hr, effUpon]
  exact hK ob h'

theorem wpMix_append {w : World} {C : World → Prop} {ops : Array Oper} {rest : List Oper} {o : Oper} {a : Act} {Q : Act → World → Prop} (hg : Region.wanted o (yielded ops a.tmps) = true) (s x : Operand) (t : TypeId)
    (ho : o.op = .call { callee := .builtin .append, args := #[s, x], argTypes := #[t, t] })
    (e : TypeId) (i : TypeInfo) (z : Value) (size bytes : Nat) (ht : P.underlying t = some (.slice e)) (hi : P.info? e = some i) (hz : i.zero = some z)
    (hsize : i.size = size) (hby : i.bytes = bytes) (hzs : z.cells.size = size) (hsz : 0 < size)
    (v : Value) (n : Nat) (xs : List Value) (hs : a.eval s = v) (hown : w.ownsRow 0 e size v n xs)
    (ad : Addr) (m c : Nat) (news : List Value) (hx : a.eval x = .slice (some ad) m c) (hl : news.length = m * size) (hnews : ∀ j u, news[j]? = some u → w.cell? (ad.add j) = some u) (h1 : ∀ u ∈ news, u.oneCell' = true)
    (hm : 0 < m) (h63 : n + m ≤ maxLen) (hbytes : (n + m) * bytes ≤ 140737488355328)
    (h : ∀ g cap w', w'.ownsRow 0 e size (.slice (some ⟨g, 0, none⟩) (n + m) cap) (n + m) (xs ++ news) → w.grownBy w' v.ownBlock → (v.ownBlock = some g ∨ g = w.heap.size) → g < w'.heap.size →
      C w' ∧ wpMix P ops C Q rest (a.put o.dst (.slice (some ⟨g, 0, none⟩) (n + m) cap)) w') :
    wpMix P ops C Q (o :: rest) a w := by
  obtain ⟨g, cap, w', hr, h2, h3, h4, h5⟩ := run_append_lies (P := P) w t o.type 0 e i z size bytes ht hi hz hsize hby hzs hsz v n xs hown ad m c news hl hnews h1 hm h63 hbytes (Nat.zero_le _) w.heap.size rfl
  unfold wpMix
  refine ⟨trivial, ?_⟩
  rw [if_pos hg, if_pos (by simp [isEff, ho])]
  refine ⟨trivial, ?_⟩
  unfold effAt execOp
  simp only [ho, resolve, invoke, builtin, Sem.run_bind, Sem.run_pure, Result.andThen_ok, List.map_toArray, List.map_cons, List.map_nil, hs, hx, hr, effUpon]
  exact h g cap w' h2 h3 h4 h5
end
/-- What an append leaves, as a world of a class. -/
def Ch.grown {S : Nat → Prop} {w0 w' : World} {row : Option Nat} (p : Ch S w0) (h : p.w.grownBy w' row) (hr : ∀ b, b < w0.heap.size → row = some b → S b) : Ch S w0 :=
  ⟨w', h.os.trans p.os, h.tape.trans p.tape, h.output.trans p.output, Nat.le_trans p.size h.size, fun b hb hS => (h.block b (Nat.lt_of_lt_of_le hb p.size) (fun e => hS (hr b hb e.symm))).trans (p.same b hb hS)⟩
@[simp] theorem Ch.grown_w {S : Nat → Prop} {w0 w' : World} {row : Option Nat} (p : Ch S w0) (h : p.w.grownBy w' row) (hr : ∀ b, b < w0.heap.size → row = some b → S b) : (p.grown h hr).w = w' := rfl
theorem MapAt.ext {α β : Type} [DecidableEq α] {encK : α → Value} {encV : β → Value} {w : World} {m : Nat} {l : List (α × β)} (h : MapAt encK encV w m l) (p : Ext w) : MapAt encK encV p.w m l := h.keep (p.same _ h.lt id)

/-! ### the last operation apart -/
inductive Split : List Oper → List Oper → Oper → Prop
  | one (o : Oper) : Split [o] [] o
  | cons (o : Oper) {l l' : List Oper} {x : Oper} (h : Split l l' x) : Split (o :: l) (o :: l') x
theorem Split.eq {l l' : List Oper} {x : Oper} (h : Split l l' x) : l = l' ++ [x] := by
  induction h with
  | one => rfl
  | cons o _ ih => rw [ih]; rfl
theorem last_step {P : Program} {ops : Array Oper} {Q : Act → World → Prop} {o : Oper} {a : Act} {w : World}
    (h : ∀ K : Act → World → Prop, (∀ a w, Q a w → K a w) →
      if Region.wanted o (yielded ops a.tmps) = true then
        if isEff o = true then effAt P o a w K else ∃ v, readsAt P o a w v ∧ K (a.put o.dst v) w
      else K (a.put o.dst undef) w) : LastStep P ops o Q a w := h _ fun _ _ h => h
theorem last_put {α β : Type} [DecidableEq α] {P : Program} {kt vt : TypeId} {encK : α → Value} {encV : β → Value} {w : World} {ops : Array Oper} {o : Oper} {a : Act} {Q : Act → World → Prop} {b : Nat} {l : List (α × β)} {t : TypeId} {k : α} {u : β} (hg : Region.wanted o (yielded ops a.tmps) = true) (m x v : Operand)
    (hop : o.op = .mapUpdate t m x v) (K : KeyLaw P kt encK) (ht : P.underlying t = some (.map kt vt)) (hm : a.eval m = .map (some b)) (hx : a.eval x = encK k) (hv : a.eval v = encV u)
    (h : MapAt encK encV w b l) (hK : ∀ ob, MapAt encK encV (putO w b ob) b (aput l k u) → Q (a.put o.dst undef) (putO w b ob)) :
    LastStep P ops o Q a w := by
  obtain ⟨ob, hr, h'⟩ := h.put K ht k u
  unfold LastStep
  rw [if_pos hg, if_pos (by simp [isEff, hop])]
  unfold effAt
  simp [execOp, hop, hm, hx, hv, hr, Result.andThen, effUpon]
  exact hK ob h'
theorem last_del {α β : Type} [DecidableEq α] {P : Program} {kt vt : TypeId} {encK : α → Value} {encV : β → Value} {w : World} {ops : Array Oper} {o : Oper} {a : Act} {Q : Act → World → Prop} {b : Nat} {l : List (α × β)} {t : TypeId} {k : α} (hg : Region.wanted o (yielded ops a.tmps) = true) (m x : Operand) (t2 : TypeId)
    (hop : o.op = .call { callee := .builtin .delete, args := #[m, x], argTypes := #[t, t2] }) (K : KeyLaw P kt encK) (ht : P.underlying t = some (.map kt vt)) (hm : a.eval m = .map (some b)) (hx : a.eval x = encK k)
    (h : MapAt encK encV w b l) (hK : ∀ ob, MapAt encK encV (putO w b ob) b (adel l k) → Q (a.put o.dst (.tuple #[])) (putO w b ob)) :
    LastStep P ops o Q a w := by
  obtain ⟨ob, hr, h'⟩ := h.del (ty := o.type) K ht k #[t, t2] rfl
  unfold LastStep
  rw [if_pos hg, if_pos (by simp [isEff, hop])]
  unfold effAt execOp
  simp only [hop, resolve, invoke, builtin, Sem.run_bind, Sem.run_pure, Result.andThen_ok, List.map_toArray, List.map_cons, List.map_nil, hm, hx, hr, effUpon]
  exact hK ob h'
/-- A region whose last operation waits for all: the class of the others. -/
theorem wp_region_lch {P : Program} {id : Nat} {Q : Exit → Act → World → Prop} {a : Act} {w : World} {l l' : List Oper} {ol : Oper} (S : Nat → Prop) (hm : P.follows .mixedOrders = true) (hs : Split l l' ol) (hB : mixB l.toArray = true) (hlate : lateB l.toArray = true)
    (h : ∀ p : Ch S w, p.w.heap = w.heap → wpMix P l.toArray (fun w' => ∃ p : Ch S w, w' = p.w) (LastStep P l.toArray ol (Q .normal)) l' a p.w) : (Code.region id l.toArray true).wp P Q a w :=
  wp_region_late (C := fun w' => ∃ p : Ch S w, w' = p.w) hm hB l' ol hs.eq hlate ⟨⟨{ w with drawn := w.drawn + 1 }, rfl, rfl, rfl, Nat.le_refl _, fun _ _ _ => rfl⟩, rfl⟩ (h ⟨{ w with drawn := w.drawn + 1 }, rfl, rfl, rfl, Nat.le_refl _, fun _ _ _ => rfl⟩ rfl)
end Go.Cob
