/-
  A scene: the blocks that a run has laid and still knows, beside a store of cells.
-/
import Derived.Test.YtjhpdmiafecdnaaCellG
namespace Go.Proofs.Cob
open Go Go.RowKit Go.Cob
set_option linter.unusedSimpArgs false
set_option linter.unusedVariables false

abbrev Box := Nat × TypeId × Array Value
/-- The blocks laid since w0 that are none of the boxes. -/
abbrev Wide (w0 : World) (bs : List Box) : Nat → Prop := fun b => w0.heap.size ≤ b ∧ ∀ x ∈ bs, b ≠ x.1

structure Scene (w0 W : World) (bs : List Box) : Prop where
  bx : ∀ x ∈ bs, W.heap[x.1]? = some (.cells x.2.2 x.2.1 (0, 0)) ∧ w0.heap.size ≤ x.1
  fin : ∃ p : Ext w0, W = p.w

theorem Scene.refl (w0 : World) : Scene w0 w0 [] := ⟨by simp, Ch.refl NoS w0, rfl⟩
theorem Scene.size {w0 W : World} {bs : List Box} (h : Scene w0 W bs) : w0.heap.size ≤ W.heap.size := by
  obtain ⟨p, rfl⟩ := h.fin; exact p.size
theorem Scene.wide {w0 W : World} {bs : List Box} (h : Scene w0 W bs) : ∀ b, W.heap.size ≤ b → Wide w0 bs b := fun b hb =>
  ⟨by have := h.size; omega, fun x hx => by have := lt_of_blk (h.bx x hx).1; omega⟩
theorem Scene.ch {w0 W : World} {bs : List Box} (h : Scene w0 W bs) (q : Ch (Wide w0 bs) W) : Scene w0 q.w bs := by
  refine ⟨fun x hx => ⟨q.blk (h.bx x hx).1 fun hw => hw.2 x hx rfl, (h.bx x hx).2⟩, ?_⟩
  obtain ⟨p, hp⟩ := h.fin
  exact ⟨p.onto hp q (fun b hb hw => absurd hw.1 (by omega)), rfl⟩
theorem Scene.ext {w0 W : World} {bs : List Box} (h : Scene w0 W bs) (q : Ext W) : Scene w0 q.w bs := h.ch (q.up _)
theorem Scene.alloc {w0 W : World} {bs : List Box} (h : Scene w0 W bs) (c : Array Value) (t : TypeId) : Scene w0 (W.alloc (.cells c t)) ((W.heap.size, t, c) :: bs) := by
  have hs := h.size
  obtain ⟨hb, p, rfl⟩ := h
  refine ⟨fun x hx => ?_, p.alloc _, rfl⟩
  rcases List.mem_cons.1 hx with rfl | hx
  · exact ⟨heap_alloc_at _ _, hs⟩
  · exact ⟨heap_alloc_blk _ (hb x hx).1, (hb x hx).2⟩
theorem Scene.drop {w0 W : World} {b : Box} {bs : List Box} (h : Scene w0 W (b :: bs)) : Scene w0 W bs := ⟨fun x hx => h.bx x (List.mem_cons_of_mem _ hx), h.fin⟩
theorem StM.box {w0 W : World} {bs : List Box} {I : Ids} {A : ArenaSt} {L : List (Key × Cl)} (h : StM W I A L (Wide w0 bs)) (c : Array Value) (t : TypeId) : StM (W.alloc (.cells c t)) I A L (Wide w0 ((W.heap.size, t, c) :: bs)) := by
  have := (h.mono (G := Wide w0 ((W.heap.size, t, c) :: bs)) fun b hb hw => ⟨hw.1, fun x hx => by
    rcases List.mem_cons.1 hx with rfl | hx
    · exact Nat.ne_of_lt hb
    · exact hw.2 x hx⟩)
  exact this.ext ((Ch.refl NoS W).alloc _)
theorem Scene.cell {w0 W : World} {bs : List Box} (h : Scene w0 W bs) {n : Nat} {t : TypeId} {c : Array Value} (hx : (n, t, c) ∈ bs) : W.heap[n]? = some (.cells c t (0, 0)) := (h.bx _ hx).1
end Go.Proofs.Cob
