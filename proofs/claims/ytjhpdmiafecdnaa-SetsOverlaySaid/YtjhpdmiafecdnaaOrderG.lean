/-
  The order of keys: what it leaves in memory: new blocks behind the old ones, and draws.
-/
import Derived.Test.YtjhpdmiafecdnaaOrder
import Derived.Sort.Grow
import Derived.Deep.Draws
namespace Go.Proofs.Cob
open Go Go.RowKit Go.Cob Go.Sort
set_option linter.unusedSimpArgs false
set_option linter.unusedVariables false

structure Gr (w0 : World) where
  n : Nat
  os : Array Obj
instance (w0 : World) : Inhabited (Gr w0) := ⟨⟨0, #[]⟩⟩
instance (w0 : World) : Nonempty (Gr w0) := ⟨⟨0, #[]⟩⟩
def Gr.w {w0 : World} (p : Gr w0) : World := grow (w0.drewN p.n) p.os
theorem Gr.heap {w0 : World} (p : Gr w0) : p.w.heap = w0.heap ++ p.os := rfl
theorem Gr.blk {w0 : World} (p : Gr w0) {b : Nat} {o : Obj} (h : w0.heap[b]? = some o) : p.w.heap[b]? = some o := by
  rw [p.heap, Array.getElem?_append_left (lt_of_blk h)]; exact h
def Gr.alloc {w0 : World} (p : Gr w0) (o : Obj) : Gr w0 := ⟨p.n, p.os.push o⟩
theorem Gr.alloc_w {w0 : World} (p : Gr w0) (o : Obj) : p.w.alloc o = (p.alloc o).w := by
  show ({ w0 with drawn := _, heap := (w0.heap ++ p.os).push o } : World) = { w0 with drawn := _, heap := w0.heap ++ p.os.push o }
  rw [Array.append_push]
  rfl
theorem wp_region_gr {P : Program} {id : Nat} {Q : Exit → Go.Act → World → Prop} {a : Go.Act} {w : World} {l : List Oper} (hm : P.follows .mixedOrders = true) (hB : mixB l.toArray = true)
    (h : ∀ p : Gr w, wpMix P l.toArray (fun w' => ∃ p : Gr w, w' = p.w) (Q .normal) l a p.w) : (Code.region id l.toArray true).wp P Q a w := by
  have e : ({ w with drawn := w.drawn + 1 } : World) = (⟨1, #[]⟩ : Gr w).w := by
    show _ = ({ w with drawn := w.drawn + 1, heap := w.heap ++ #[] } : World)
    rw [Array.append_empty]
  refine wp_region_mix (C := fun w' => ∃ p : Gr w, w' = p.w) hm hB ⟨⟨1, #[]⟩, e⟩ ?_
  rw [e]
  exact h _

set_option maxHeartbeats 800000 in
theorem order_gr (a b : Key) (w : World) : Calls Try.prog 22 #[keyV a, keyV b] w fun e w' => e = .returned (.int .i64 (ordK a b)) ∧ ∃ q os', w' = grow (w.drewN q) os' := by
  obtain ⟨W, hW⟩ : ∃ W, W = (w.alloc (.cells (keyCells a.kind a.a a.b a.s) 23)).alloc (.cells (keyCells b.kind b.a b.b b.s) 23) := ⟨_, rfl⟩
  have ha : W.heap[w.heap.size]? = some (.cells (keyCells a.kind a.a a.b a.s) 23 (0, 0)) := by rw [hW]; exact heap_alloc_blk _ (heap_alloc_at _ _)
  have hb : W.heap[w.heap.size + 1]? = some (.cells (keyCells b.kind b.a b.b b.s) 23 (0, 0)) := by rw [hW]; exact heap_alloc_eq _ (by simp)
  have fin : ∀ p : Gr W, ∃ q os', p.w = grow (w.drewN q) os' := fun p => by
    subst hW
    refine ⟨p.n, (#[.cells (keyCells a.kind a.a a.b a.s) 23, .cells (keyCells b.kind b.a b.b b.s) 23] : Array Obj) ++ p.os, ?_⟩
    show ({ w with drawn := _, heap := (w.heap.push _).push _ ++ p.os } : World) = { w with drawn := _, heap := w.heap ++ _ }
    rw [← Array.append_assoc]
    rfl
  have a0 : ∀ p : Gr W, p.w.cell? ⟨w.heap.size, 0, none⟩ = some (.int .i64 a.kind) := fun p => cell_at 0 (p.blk ha)
  have a1 : ∀ p : Gr W, p.w.cell? ⟨w.heap.size, 1, none⟩ = some (.int .i64 a.a) := fun p => cell_at 1 (p.blk ha)
  have a2 : ∀ p : Gr W, p.w.cell? ⟨w.heap.size, 2, none⟩ = some (.int .i64 a.b) := fun p => cell_at 2 (p.blk ha)
  have a3 : ∀ p : Gr W, p.w.cell? ⟨w.heap.size, 3, none⟩ = some (.string a.s) := fun p => cell_at 3 (p.blk ha)
  have b0 : ∀ p : Gr W, p.w.cell? ⟨w.heap.size + 1, 0, none⟩ = some (.int .i64 b.kind) := fun p => cell_at 0 (p.blk hb)
  have b1 : ∀ p : Gr W, p.w.cell? ⟨w.heap.size + 1, 1, none⟩ = some (.int .i64 b.a) := fun p => cell_at 1 (p.blk hb)
  have b2 : ∀ p : Gr W, p.w.cell? ⟨w.heap.size + 1, 2, none⟩ = some (.int .i64 b.b) := fun p => cell_at 2 (p.blk hb)
  have b3 : ∀ p : Gr W, p.w.cell? ⟨w.heap.size + 1, 3, none⟩ = some (.string b.s) := fun p => cell_at 3 (p.blk hb)
  go_enter Try.func22, Try.ntmps22
  go_wp2_with fail
  rw [← hW]
  clear hW
  refine wp_region_gr (by kernel_rfl) (by kernel_rfl) (fun p => ?_)
  (repeat (first | (refine wpMix_skip rfl rfl ?_) | (refine wpMix_step (fun K hK => ?_); go_simp; (with_reducible (refine hK _ _ ?_)); clear hK K)))
  refine wpMix_step (fun K hK => ?_); go_simp; refine (cmpI_any _ _ _).mono ?_; rintro e w' ⟨rfl, rfl⟩; refine ⟨⟨p, rfl⟩, hK _ _ ?_⟩; clear hK K
  (repeat (first | (refine wpMix_skip rfl rfl ?_) | (refine wpMix_step (fun K hK => ?_); go_simp; (with_reducible (refine hK _ _ ?_)); clear hK K)))
  refine wpMix_step (fun K hK => ?_); go_simp; refine (cmpI_any _ _ _).mono ?_; rintro e w' ⟨rfl, rfl⟩; refine ⟨⟨p, rfl⟩, hK _ _ ?_⟩; clear hK K
  (repeat (first | (refine wpMix_skip rfl rfl ?_) | (refine wpMix_step (fun K hK => ?_); go_simp; (with_reducible (refine hK _ _ ?_)); clear hK K)))
  refine wpMix_step (fun K hK => ?_); go_simp; refine (cmpI_any _ _ _).mono ?_; rintro e w' ⟨rfl, rfl⟩; refine ⟨⟨p, rfl⟩, hK _ _ ?_⟩; clear hK K
  (repeat (first | (refine wpMix_skip rfl rfl ?_) | (refine wpMix_step (fun K hK => ?_); go_simp; (with_reducible (refine hK _ _ ?_)); clear hK K)))
  refine wpMix_step (fun K hK => ?_); go_simp; refine (cmpS_any _ _ _).mono ?_; rintro e w' ⟨rfl, rfl⟩; refine ⟨⟨p, rfl⟩, hK _ _ ?_⟩; clear hK K
  (repeat (first | (refine wpMix_skip rfl rfl ?_) | (refine wpMix_step (fun K hK => ?_); go_simp; (with_reducible (refine hK _ _ ?_)); clear hK K)))
  refine wpMix_step (fun K hK => ?_); go_simp
  refine ⟨⟨p.alloc _, p.alloc_w _⟩, hK _ _ ?_⟩; clear hK K
  (repeat (first | (refine wpMix_skip rfl rfl ?_) | (refine wpMix_step (fun K hK => ?_); go_simp; (with_reducible (refine hK _ _ ?_)); clear hK K)))
  refine wpMix_step (fun K hK => ?_); go_simp
  refine (or_any _ _ _ _ _ _ (heap_alloc_at _ _)).mono ?_
  rintro e w' ⟨rfl, rfl⟩
  refine ⟨⟨p.alloc _, p.alloc_w _⟩, hK _ _ ?_⟩; clear hK K
  (repeat (first | (refine wpMix_skip rfl rfl ?_) | (refine wpMix_step (fun K hK => ?_); go_simp; (with_reducible (refine hK _ _ ?_)); clear hK K)))
  refine wpMix_nil ?_
  go_wp2
  go_ret
  rw [p.alloc_w]
  exact ⟨rfl, fin (p.alloc _)⟩
end Go.Proofs.Cob
