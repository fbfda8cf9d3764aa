/-
  The order of keys. The order of keys: what it leaves in memory: new blocks behind the old ones, and draws. The law's own gate: awake answers true. The reference's order of keys. CellOrders: the walk. 'for k, v := range m' over a map that is a list of entries. The cells' store (layer 9): the keys of the cells of which something is so. The cells' store (layer 9): the question that Held asks of a slot. slices.SortFunc of keys by cell.Order: the library's contract laid over this program. The cells' store (layer 9): Held and Keys. The cells' store (layer 9): Handle and Look.
-/
import Derived.Test.YtjhpdmiafecdnaaJb
import Derived.Lib.Bytealg
import Derived.Handy
import Derived.Sort.Grow
import Derived.Deep.Draws
import Derived.WalkKit
import Derived.Test.YtjhpdmiafecdnaaJa
import Derived.Maps.RangeRun
import Derived.Maps.Range
import Derived.Test.YtjhpdmiafecdnaaJc
import Derived.Test.YtjhpdmiafecdnaaJe
import Derived.Shelf.SlGeneric
import Derived.Shelf.SlSortCmp.NoneTotal
namespace Go.Proofs.Cob
open Go Go.RowKit Go.Cob
set_option linter.unusedSimpArgs false
set_option linter.unusedVariables false

def cmpI (x y : Int) : Int := if x < y then -1 else if y < x then 1 else 0

theorem cmpI_any (x y : Int) (w : World) : Calls Try.prog 111 #[.int .i64 x, .int .i64 y] w fun e w' => e = .returned (.int .i64 (cmpI x y)) ∧ w = w' := by
  have nan : ∀ z : Int, (z != z) = false := fun z => by simp
  have nx := nan x
  have ny := nan y
  clear nan
  rcases Int.lt_trichotomy x y with h | h | h
  · have e : cmpI x y = -1 := by unfold cmpI; rw [if_pos h]
    rw [e]
    clear e
    go_enter Try.func111, Try.ntmps111
    go_wp2
    go_ret
    exact ⟨rfl, rfl⟩
  · subst h
    have e : cmpI x x = 0 := by unfold cmpI; simp
    rw [e]
    clear e
    go_enter Try.func111, Try.ntmps111
    go_wp2
    go_ret
    exact ⟨rfl, rfl⟩
  · have h' : ¬ x < y := by omega
    have e : cmpI x y = 1 := by unfold cmpI; rw [if_neg h', if_pos h]
    rw [e]
    clear e
    go_enter Try.func111, Try.ntmps111
    go_wp2
    go_ret
    exact ⟨rfl, rfl⟩

def cmpS (a b : ByteArray) : Int := Lib.compareBytes a.data.toList b.data.toList

theorem call223 (a b : ByteArray) (w : World) : (callFunc 223 #[.string a, .string b]).run Try.prog w = .ok (.value (.int .i64 (cmpS a b))) w := by
  rw [run_callFunc_extern Try.func223 (by kernel_rfl) (by kernel_rfl) (by kernel_rfl) (e := Extern.BytealgCompare.compare) (by kernel_rfl), Lib.run_compareString]
  rfl
theorem cmpS_any0 (a b : ByteArray) (w : World) : Calls Try.prog 192 #[.string a, .string b] w fun e w' => e = .returned (.int .i64 (cmpS a b)) ∧ w = w' := by
  have hc := call223 a b
  go_enter Try.func192, Try.ntmps192
  go_wp2
  go_ret
  exact ⟨rfl, rfl⟩
theorem cmpS_any (a b : ByteArray) (w : World) : Calls Try.prog 112 #[.string a, .string b] w fun e w' => e = .returned (.int .i64 (cmpS a b)) ∧ w = w' := by
  go_enter Try.func112, Try.ntmps112
  go_wp2_with (go_at_call 192; go_must (refine (cmpS_any0 _ _ _).mono ?_); rintro e w' ⟨rfl, rfl⟩)
  go_ret
  exact ⟨rfl, rfl⟩

def or4 (x0 x1 x2 x3 : Int) : Int := if x0 ≠ 0 then x0 else if x1 ≠ 0 then x1 else if x2 ≠ 0 then x2 else x3

set_option maxHeartbeats 800000 in
theorem or_any (g : Nat) (x0 x1 x2 x3 : Int) (w : World) (hb : w.heap[g]? = some (.cells #[.int .i64 x0, .int .i64 x1, .int .i64 x2, .int .i64 x3] 3 (0, 0))) :
    Calls Try.prog 110 #[.slice (some ⟨g, 0, none⟩) 4 4] w fun e w' => e = .returned (.int .i64 (or4 x0 x1 x2 x3)) ∧ w = w' := by
  have c0 := cell_at 0 hb
  have c1 := cell_at 1 hb
  have c2 := cell_at 2 hb
  have c3 := cell_at 3 hb
  clear hb
  by_cases h0 : x0 = 0
  · by_cases h1 : x1 = 0
    · by_cases h2 : x2 = 0
      · have e : or4 x0 x1 x2 x3 = x3 := by simp [or4, h0, h1, h2]
        rw [e]
        clear e
        subst h0 h1 h2
        by_cases h3 : x3 = 0
        · subst h3
          go_enter Try.func110, Try.ntmps110
          go_wp2
          go_rounds 6
          all_goals (go_ret; exact ⟨rfl, rfl⟩)
        · have h3' : (x3 != 0) = true := by simpa using h3
          clear h3
          go_enter Try.func110, Try.ntmps110
          go_wp2
          go_rounds 6
          all_goals (go_ret; exact ⟨rfl, rfl⟩)
      · have e : or4 x0 x1 x2 x3 = x2 := by simp [or4, h0, h1, h2]
        rw [e]
        clear e
        subst h0 h1
        have h3' : (x2 != 0) = true := by simpa using h2
        clear h2
        go_enter Try.func110, Try.ntmps110
        go_wp2
        go_rounds 6
        all_goals (go_ret; exact ⟨rfl, rfl⟩)
    · have e : or4 x0 x1 x2 x3 = x1 := by simp [or4, h0, h1]
      rw [e]
      clear e
      subst h0
      have h3' : (x1 != 0) = true := by simpa using h1
      clear h1
      go_enter Try.func110, Try.ntmps110
      go_wp2
      go_rounds 6
      all_goals (go_ret; exact ⟨rfl, rfl⟩)
  · have e : or4 x0 x1 x2 x3 = x0 := by simp [or4, h0]
    rw [e]
    clear e
    have h3' : (x0 != 0) = true := by simpa using h0
    clear h0
    go_enter Try.func110, Try.ntmps110
    go_wp2
    go_rounds 6
    all_goals (go_ret; exact ⟨rfl, rfl⟩)

def ordK (a b : Key) : Int := or4 (cmpI a.kind b.kind) (cmpI a.a b.a) (cmpI a.b b.b) (cmpS a.s b.s)

set_option maxHeartbeats 800000 in
theorem order_any (a b : Key) (w : World) : Calls Try.prog 22 #[keyV a, keyV b] w fun e w' => e = .returned (.int .i64 (ordK a b)) ∧ ∃ p : Ext w, w' = p.w := by
  obtain ⟨W, hW⟩ : ∃ W, W = (w.alloc (.cells (keyCells a.kind a.a a.b a.s) 23)).alloc (.cells (keyCells b.kind b.a b.b b.s) 23) := ⟨_, rfl⟩
  have ha : W.heap[w.heap.size]? = some (.cells (keyCells a.kind a.a a.b a.s) 23 (0, 0)) := by rw [hW]; exact heap_alloc_blk _ (heap_alloc_at _ _)
  have hb : W.heap[w.heap.size + 1]? = some (.cells (keyCells b.kind b.a b.b b.s) 23 (0, 0)) := by rw [hW]; exact heap_alloc_eq _ (by simp)
  have fin : ∀ p : Ext W, ∃ q : Ext w, p.w = q.w := fun p => ⟨(((Ch.refl NoS w).alloc _).alloc _).onto hW p (fun b hb h => h), rfl⟩
  have a0 : ∀ p : Ext W, p.w.cell? ⟨w.heap.size, 0, none⟩ = some (.int .i64 a.kind) := fun p => cell_at 0 (p.blkE ha)
  have a1 : ∀ p : Ext W, p.w.cell? ⟨w.heap.size, 1, none⟩ = some (.int .i64 a.a) := fun p => cell_at 1 (p.blkE ha)
  have a2 : ∀ p : Ext W, p.w.cell? ⟨w.heap.size, 2, none⟩ = some (.int .i64 a.b) := fun p => cell_at 2 (p.blkE ha)
  have a3 : ∀ p : Ext W, p.w.cell? ⟨w.heap.size, 3, none⟩ = some (.string a.s) := fun p => cell_at 3 (p.blkE ha)
  have b0 : ∀ p : Ext W, p.w.cell? ⟨w.heap.size + 1, 0, none⟩ = some (.int .i64 b.kind) := fun p => cell_at 0 (p.blkE hb)
  have b1 : ∀ p : Ext W, p.w.cell? ⟨w.heap.size + 1, 1, none⟩ = some (.int .i64 b.a) := fun p => cell_at 1 (p.blkE hb)
  have b2 : ∀ p : Ext W, p.w.cell? ⟨w.heap.size + 1, 2, none⟩ = some (.int .i64 b.b) := fun p => cell_at 2 (p.blkE hb)
  have b3 : ∀ p : Ext W, p.w.cell? ⟨w.heap.size + 1, 3, none⟩ = some (.string b.s) := fun p => cell_at 3 (p.blkE hb)
  go_enter Try.func22, Try.ntmps22
  go_wp2_with fail
  rw [← hW]
  clear hW
  refine wp_region_ch NoS (by kernel_rfl) (by kernel_rfl) (fun p hp => ?_)
  clear hp
  (repeat (first | (refine wpMix_skip rfl rfl ?_) | (refine wpMix_step (fun K hK => ?_); go_simp; (with_reducible (refine hK _ _ ?_)); clear hK K)))
  refine wpMix_step (fun K hK => ?_); go_simp; refine (cmpI_any _ _ _).mono ?_; rintro e w' ⟨rfl, rfl⟩; refine ⟨⟨p, rfl⟩, hK _ _ ?_⟩; clear hK K
  (repeat (first | (refine wpMix_skip rfl rfl ?_) | (refine wpMix_step (fun K hK => ?_); go_simp; (with_reducible (refine hK _ _ ?_)); clear hK K)))
  refine wpMix_step (fun K hK => ?_); go_simp; refine (cmpI_any _ _ _).mono ?_; rintro e w' ⟨rfl, rfl⟩; refine ⟨⟨p, rfl⟩, hK _ _ ?_⟩; clear hK K
  (repeat (first | (refine wpMix_skip rfl rfl ?_) | (refine wpMix_step (fun K hK => ?_); go_simp; (with_reducible (refine hK _ _ ?_)); clear hK K)))
  refine wpMix_step (fun K hK => ?_); go_simp; refine (cmpI_any _ _ _).mono ?_; rintro e w' ⟨rfl, rfl⟩; refine ⟨⟨p, rfl⟩, hK _ _ ?_⟩; clear hK K
  (repeat (first | (refine wpMix_skip rfl rfl ?_) | (refine wpMix_step (fun K hK => ?_); go_simp; (with_reducible (refine hK _ _ ?_)); clear hK K)))
  refine wpMix_step (fun K hK => ?_); go_simp; refine (cmpS_any _ _ _).mono ?_; rintro e w' ⟨rfl, rfl⟩; refine ⟨⟨p, rfl⟩, hK _ _ ?_⟩; clear hK K
  (repeat (first | (refine wpMix_skip rfl rfl ?_) | (refine wpMix_step (fun K hK => ?_); go_simp; (with_reducible (refine hK _ _ ?_)); clear hK K)))
  refine wpMix_step (fun K hK => ?_); go_simp
  refine ⟨⟨p.alloc _, rfl⟩, hK _ _ ?_⟩; clear hK K
  (repeat (first | (refine wpMix_skip rfl rfl ?_) | (refine wpMix_step (fun K hK => ?_); go_simp; (with_reducible (refine hK _ _ ?_)); clear hK K)))
  refine wpMix_step (fun K hK => ?_); go_simp
  refine (or_any _ _ _ _ _ _ (heap_alloc_at _ _)).mono ?_
  rintro e w' ⟨rfl, rfl⟩
  refine ⟨⟨p.alloc _, rfl⟩, hK _ _ ?_⟩; clear hK K
  (repeat (first | (refine wpMix_skip rfl rfl ?_) | (refine wpMix_step (fun K hK => ?_); go_simp; (with_reducible (refine hK _ _ ?_)); clear hK K)))
  refine wpMix_nil ?_
  go_wp2
  go_ret
  exact ⟨rfl, fin (p.alloc _)⟩
end Go.Proofs.Cob

namespace Go.Proofs.Cob
open Go Go.RowKit Go.Cob Go.Sort
set_option linter.unusedSimpArgs false
set_option linter.unusedVariables false

structure Gr (w0 : World) where
  n : Nat
  os : Array Obj
instance (w0 : World) : Inhabited (Gr w0) := ⟨⟨0, #[]⟩⟩
instance (w0 : World) : Nonempty (Gr w0) := ⟨⟨0, #[]⟩⟩
def Gr.w {w0 : World} (p : Gr w0) : World := grow (w0.drewN p.n) p.os
theorem Gr.heap {w0 : World} (p : Gr w0) : p.w.heap = w0.heap ++ p.os := rfl
theorem Gr.blk {w0 : World} (p : Gr w0) {b : Nat} {o : Obj} (h : w0.heap[b]? = some o) : p.w.heap[b]? = some o := by
  rw [p.heap, Array.getElem?_append_left (lt_of_blk h)]; exact h
def Gr.alloc {w0 : World} (p : Gr w0) (o : Obj) : Gr w0 := ⟨p.n, p.os.push o⟩
theorem Gr.alloc_w {w0 : World} (p : Gr w0) (o : Obj) : p.w.alloc o = (p.alloc o).w := by
  show ({ w0 with drawn := _, heap := (w0.heap ++ p.os).push o } : World) = { w0 with drawn := _, heap := w0.heap ++ p.os.push o }
  rw [Array.append_push]
  rfl
theorem wp_region_gr {P : Program} {id : Nat} {Q : Exit → Go.Act → World → Prop} {a : Go.Act} {w : World} {l : List Oper} (hm : P.follows .mixedOrders = true) (hB : mixB l.toArray = true)
    (h : ∀ p : Gr w, wpMix P l.toArray (fun w' => ∃ p : Gr w, w' = p.w) (Q .normal) l a p.w) : (Code.region id l.toArray true).wp P Q a w := by
  have e : ({ w with drawn := w.drawn + 1 } : World) = (⟨1, #[]⟩ : Gr w).w := by
    show _ = ({ w with drawn := w.drawn + 1, heap := w.heap ++ #[] } : World)
    rw [Array.append_empty]
  refine wp_region_mix (C := fun w' => ∃ p : Gr w, w' = p.w) hm hB ⟨⟨1, #[]⟩, e⟩ ?_
  rw [e]
  exact h _

set_option maxHeartbeats 800000 in
theorem order_gr (a b : Key) (w : World) : Calls Try.prog 22 #[keyV a, keyV b] w fun e w' => e = .returned (.int .i64 (ordK a b)) ∧ ∃ q os', w' = grow (w.drewN q) os' := by
  obtain ⟨W, hW⟩ : ∃ W, W = (w.alloc (.cells (keyCells a.kind a.a a.b a.s) 23)).alloc (.cells (keyCells b.kind b.a b.b b.s) 23) := ⟨_, rfl⟩
  have ha : W.heap[w.heap.size]? = some (.cells (keyCells a.kind a.a a.b a.s) 23 (0, 0)) := by rw [hW]; exact heap_alloc_blk _ (heap_alloc_at _ _)
  have hb : W.heap[w.heap.size + 1]? = some (.cells (keyCells b.kind b.a b.b b.s) 23 (0, 0)) := by rw [hW]; exact heap_alloc_eq _ (by simp)
  have fin : ∀ p : Gr W, ∃ q os', p.w = grow (w.drewN q) os' := fun p => by
    subst hW
    refine ⟨p.n, (#[.cells (keyCells a.kind a.a a.b a.s) 23, .cells (keyCells b.kind b.a b.b b.s) 23] : Array Obj) ++ p.os, ?_⟩
    show ({ w with drawn := _, heap := (w.heap.push _).push _ ++ p.os } : World) = { w with drawn := _, heap := w.heap ++ _ }
    rw [← Array.append_assoc]
    rfl
  have a0 : ∀ p : Gr W, p.w.cell? ⟨w.heap.size, 0, none⟩ = some (.int .i64 a.kind) := fun p => cell_at 0 (p.blk ha)
  have a1 : ∀ p : Gr W, p.w.cell? ⟨w.heap.size, 1, none⟩ = some (.int .i64 a.a) := fun p => cell_at 1 (p.blk ha)
  have a2 : ∀ p : Gr W, p.w.cell? ⟨w.heap.size, 2, none⟩ = some (.int .i64 a.b) := fun p => cell_at 2 (p.blk ha)
  have a3 : ∀ p : Gr W, p.w.cell? ⟨w.heap.size, 3, none⟩ = some (.string a.s) := fun p => cell_at 3 (p.blk ha)
  have b0 : ∀ p : Gr W, p.w.cell? ⟨w.heap.size + 1, 0, none⟩ = some (.int .i64 b.kind) := fun p => cell_at 0 (p.blk hb)
  have b1 : ∀ p : Gr W, p.w.cell? ⟨w.heap.size + 1, 1, none⟩ = some (.int .i64 b.a) := fun p => cell_at 1 (p.blk hb)
  have b2 : ∀ p : Gr W, p.w.cell? ⟨w.heap.size + 1, 2, none⟩ = some (.int .i64 b.b) := fun p => cell_at 2 (p.blk hb)
  have b3 : ∀ p : Gr W, p.w.cell? ⟨w.heap.size + 1, 3, none⟩ = some (.string b.s) := fun p => cell_at 3 (p.blk hb)
  go_enter Try.func22, Try.ntmps22
  go_wp2_with fail
  rw [← hW]
  clear hW
  refine wp_region_gr (by kernel_rfl) (by kernel_rfl) (fun p => ?_)
  (repeat (first | (refine wpMix_skip rfl rfl ?_) | (refine wpMix_step (fun K hK => ?_); go_simp; (with_reducible (refine hK _ _ ?_)); clear hK K)))
  refine wpMix_step (fun K hK => ?_); go_simp; refine (cmpI_any _ _ _).mono ?_; rintro e w' ⟨rfl, rfl⟩; refine ⟨⟨p, rfl⟩, hK _ _ ?_⟩; clear hK K
  (repeat (first | (refine wpMix_skip rfl rfl ?_) | (refine wpMix_step (fun K hK => ?_); go_simp; (with_reducible (refine hK _ _ ?_)); clear hK K)))
  refine wpMix_step (fun K hK => ?_); go_simp; refine (cmpI_any _ _ _).mono ?_; rintro e w' ⟨rfl, rfl⟩; refine ⟨⟨p, rfl⟩, hK _ _ ?_⟩; clear hK K
  (repeat (first | (refine wpMix_skip rfl rfl ?_) | (refine wpMix_step (fun K hK => ?_); go_simp; (with_reducible (refine hK _ _ ?_)); clear hK K)))
  refine wpMix_step (fun K hK => ?_); go_simp; refine (cmpI_any _ _ _).mono ?_; rintro e w' ⟨rfl, rfl⟩; refine ⟨⟨p, rfl⟩, hK _ _ ?_⟩; clear hK K
  (repeat (first | (refine wpMix_skip rfl rfl ?_) | (refine wpMix_step (fun K hK => ?_); go_simp; (with_reducible (refine hK _ _ ?_)); clear hK K)))
  refine wpMix_step (fun K hK => ?_); go_simp; refine (cmpS_any _ _ _).mono ?_; rintro e w' ⟨rfl, rfl⟩; refine ⟨⟨p, rfl⟩, hK _ _ ?_⟩; clear hK K
  (repeat (first | (refine wpMix_skip rfl rfl ?_) | (refine wpMix_step (fun K hK => ?_); go_simp; (with_reducible (refine hK _ _ ?_)); clear hK K)))
  refine wpMix_step (fun K hK => ?_); go_simp
  refine ⟨⟨p.alloc _, p.alloc_w _⟩, hK _ _ ?_⟩; clear hK K
  (repeat (first | (refine wpMix_skip rfl rfl ?_) | (refine wpMix_step (fun K hK => ?_); go_simp; (with_reducible (refine hK _ _ ?_)); clear hK K)))
  refine wpMix_step (fun K hK => ?_); go_simp
  refine (or_any _ _ _ _ _ _ (heap_alloc_at _ _)).mono ?_
  rintro e w' ⟨rfl, rfl⟩
  refine ⟨⟨p.alloc _, p.alloc_w _⟩, hK _ _ ?_⟩; clear hK K
  (repeat (first | (refine wpMix_skip rfl rfl ?_) | (refine wpMix_step (fun K hK => ?_); go_simp; (with_reducible (refine hK _ _ ?_)); clear hK K)))
  refine wpMix_nil ?_
  go_wp2
  go_ret
  rw [p.alloc_w]
  exact ⟨rfl, fin (p.alloc _)⟩
end Go.Proofs.Cob

namespace Go.Proofs.Cob
open Go Go.RowKit Go.Cob
set_option linter.unusedSimpArgs false
set_option linter.unusedVariables false

abbrev key1 : Key := ⟨1, 1, 0, ⟨#[]⟩⟩
abbrev xS : ByteArray := ⟨#[120]⟩

abbrev L1 : List (Key × Cl) := [(key1, ⟨0, 0, lockZ (absentZ 0 true), ⟨#[]⟩, 7⟩)]
abbrev L2 : List (Key × Cl) := [(key1, ⟨0, 0, 5, xS, 7⟩)]
abbrev L3 : List (Key × Cl) := [(key1, ⟨0, 0, lockZ 5, xS, 1⟩)]
abbrev A1 : ArenaSt := ⟨4, 1, [], [(0, true)], []⟩
theorem aw1 : lockM ⟨4, 0, [], [], []⟩ [] key1 7 = ((0, 0), A1, L1) := by kernel_rfl
theorem aw2 : installM L1 key1 7 5 xS true = (0, L2) := by kernel_rfl
theorem aw3 : readM L2 key1 = (seenV 5 xS true, 0) := by kernel_rfl
theorem aw4 : lockM A1 L2 key1 1 = ((5, 0), A1, L3) := by kernel_rfl
theorem aw5 : lockM A1 L3 key1 2 = ((0, 60), A1, L3) := by kernel_rfl
theorem aw6 : readM L3 key1 = (seenV 0 ⟨#[]⟩ false, 60) := by kernel_rfl
theorem aw7 : stillM L3 key1 1 5 true = true := by kernel_rfl
theorem aw8 : stillM L3 key1 2 5 true = false := by kernel_rfl

set_option maxHeartbeats 3200000 in
theorem awake_any (w : World) : Calls Try.prog 21 #[] w fun e w' => e = .returned (.bool true) ∧ ∃ p : Ext w, w' = p.w := by
  go_enter Try.func21, Try.ntmps21
  go_wp2_with (first
    | (go_at_call 24; go_must (refine (cellNew_m 4 _ (by decide) (by decide)).mono ?_); rintro e w' ⟨I, rfl, p, rfl, hS⟩; have HS : Hid (StM p.w I ⟨4, 0, [], [], []⟩ [] (Wide w [])) := hS.mono (fun b _ h => ⟨h, by simp⟩); have HC : Hid (Scene w p.w []) := (Scene.refl w).ext p; clear hS; generalize p.w = W at HS HC ⊢; clear p)
    | (go_at_call 88; go_must (refine (key_any _ _).mono ?_); rintro e w' ⟨rfl, q, rfl⟩; replace HS : Hid _ := HS.out.ext q; replace HC : Hid _ := HC.out.ext q; generalize q.w = W' at HS HC ⊢; clear q)
    | (go_at_call 27; go_must (refine (seen_any _ _).mono ?_); rintro e w' ⟨rfl, q, rfl⟩; replace HS : Hid _ := HS.out.ext q; replace HC : Hid _ := HC.out.ext q; generalize q.w = W' at HS HC ⊢; clear q)
    | (go_at_call 25; go_must (have := lock_m I _ _ _ key1 7 _ HS.out HC.out.wide; rw [aw1] at this; refine this.mono ?_); clear this; rintro e w' ⟨rfl, q, rfl, hS⟩; replace HS : Hid _ := hS; replace HC : Hid _ := HC.out.ch q; clear hS; generalize q.w = W' at HS HC ⊢; clear q)
    | (go_at_call 26; go_must (have := install_m I _ _ _ key1 7 5 0 xS true _ HS.out; rw [aw2] at this; refine this.mono ?_); clear this; rintro e w' ⟨rfl, q, rfl, hS⟩; replace HS : Hid _ := hS; replace HC : Hid _ := HC.out.ch q; clear hS; generalize q.w = W' at HS HC ⊢; clear q)
    | (go_at_call 28; go_must (have := read_m I _ _ _ key1 _ HS.out; rw [aw3] at this; refine this.mono ?_); clear this; rintro e w' ⟨rfl, q, rfl⟩; replace HS : Hid _ := HS.out.ext q; replace HC : Hid _ := HC.out.ext q; generalize q.w = W' at HS HC ⊢; clear q))
  obtain ⟨b4, hb4⟩ : ∃ n, n = W'.heap.size := ⟨_, rfl⟩; replace HS : Hid _ := HS.out.box #[.int .u64 5, .string xS, .bool true] 37; replace HC : Hid _ := HC.out.alloc #[.int .u64 5, .string xS, .bool true] 37; rw [← hb4] at HS HC ⊢; clear hb4; generalize World.alloc W' _ = W4 at HS HC ⊢
  (go_at_call 88; go_must (refine (key_any _ _).mono ?_); rintro e w' ⟨rfl, q, rfl⟩; replace HS : Hid _ := HS.out.ext q; replace HC : Hid _ := HC.out.ext q; generalize q.w = W' at HS HC ⊢; clear q)
  go_wp2_with (first
    | (go_at_call 88; go_must (refine (key_any _ _).mono ?_); rintro e w' ⟨rfl, q, rfl⟩; replace HS : Hid _ := HS.out.ext q; replace HC : Hid _ := HC.out.ext q; generalize q.w = W' at HS HC ⊢; clear q)
    | (go_at_call 25; go_must (first | (have := lock_m I _ _ _ key1 1 _ HS.out HC.out.wide; rw [aw4] at this; refine this.mono ?_) | (have := lock_m I _ _ _ key1 2 _ HS.out HC.out.wide; rw [aw5] at this; refine this.mono ?_)); clear this; rintro e w' ⟨rfl, q, rfl, hS⟩; replace HS : Hid _ := hS; replace HC : Hid _ := HC.out.ch q; clear hS; generalize q.w = W' at HS HC ⊢; clear q)
    | (go_at_call 28; go_must (have := read_m I _ _ _ key1 _ HS.out; rw [aw6] at this; refine this.mono ?_); clear this; rintro e w' ⟨rfl, q, rfl⟩; replace HS : Hid _ := HS.out.ext q; replace HC : Hid _ := HC.out.ext q; generalize q.w = W' at HS HC ⊢; clear q))
  obtain ⟨b8, hb8⟩ : ∃ n, n = W'.heap.size := ⟨_, rfl⟩; replace HS : Hid _ := HS.out.box #[.int .u64 0, .string ⟨#[]⟩, .bool false] 37; replace HC : Hid _ := HC.out.alloc #[.int .u64 0, .string ⟨#[]⟩, .bool false] 37; rw [← hb8] at HS HC ⊢; clear hb8; generalize World.alloc W' _ = W8 at HS HC ⊢
  have e0 : ∀ p : Ext W8, p.w.cell? ⟨b4, 0, none⟩ = some (.int .u64 5) := fun p => cell_at 0 (p.blkE (HC.out.cell (.tail _ (.head _))))
  have e1 : ∀ p : Ext W8, p.w.cell? ⟨b4, 1, none⟩ = some (.string xS) := fun p => cell_at 1 (p.blkE (HC.out.cell (.tail _ (.head _))))
  have e2 : ∀ p : Ext W8, p.w.cell? ⟨b4, 2, none⟩ = some (.bool true) := fun p => cell_at 2 (p.blkE (HC.out.cell (.tail _ (.head _))))
  have s1 : ∀ p : Ext W8, Calls Try.prog 33 #[.pointer (some ⟨I.s, 0, none⟩), keyV key1, .int .i64 1, seenV 5 xS true] p.w fun e w' => e = .returned (.bool true) ∧ ∃ q : Ext p.w, w' = q.w := fun p => by
    have := still_m I _ _ _ key1 1 5 xS true _ (HS.out.ext p)
    rw [aw7] at this
    exact this
  have s2 : ∀ p : Ext W8, Calls Try.prog 33 #[.pointer (some ⟨I.s, 0, none⟩), keyV key1, .int .i64 2, seenV 5 xS true] p.w fun e w' => e = .returned (.bool false) ∧ ∃ q : Ext p.w, w' = q.w := fun p => by
    have := still_m I _ _ _ key1 2 5 xS true _ (HS.out.ext p)
    rw [aw8] at this
    exact this
  refine wp_region_ch NoS (by kernel_rfl) (by kernel_rfl) (fun p hp => ?_)
  clear hp
  (repeat (first | (refine wpMix_skip rfl rfl ?_) | (refine wpMix_step (fun K hK => ?_); go_simp; (with_reducible (refine hK _ _ ?_)); clear hK K)))
  refine wpMix_step (fun K hK => ?_); go_simp; refine (Calls.inCh (key_any _ _)).mono ?_; rintro e w' ⟨rfl, p, rfl⟩; refine ⟨⟨p, rfl⟩, hK _ _ ?_⟩; clear hK K
  (repeat (first | (refine wpMix_skip rfl rfl ?_) | (refine wpMix_step (fun K hK => ?_); go_simp; (with_reducible (refine hK _ _ ?_)); clear hK K)))
  refine wpMix_step (fun K hK => ?_); go_simp; refine (Calls.inCh (s1 _)).mono ?_; rintro e w' ⟨rfl, p, rfl⟩; refine ⟨⟨p, rfl⟩, hK _ _ ?_⟩; clear hK K
  (repeat (first | (refine wpMix_skip rfl rfl ?_) | (refine wpMix_step (fun K hK => ?_); go_simp; (with_reducible (refine hK _ _ ?_)); clear hK K)))
  refine wpMix_step (fun K hK => ?_); go_simp; refine (Calls.inCh (key_any _ _)).mono ?_; rintro e w' ⟨rfl, p, rfl⟩; refine ⟨⟨p, rfl⟩, hK _ _ ?_⟩; clear hK K
  (repeat (first | (refine wpMix_skip rfl rfl ?_) | (refine wpMix_step (fun K hK => ?_); go_simp; (with_reducible (refine hK _ _ ?_)); clear hK K)))
  refine wpMix_step (fun K hK => ?_); go_simp; refine (Calls.inCh (s2 _)).mono ?_; rintro e w' ⟨rfl, p, rfl⟩; refine ⟨⟨p, rfl⟩, hK _ _ ?_⟩; clear hK K
  (repeat (first | (refine wpMix_skip rfl rfl ?_) | (refine wpMix_step (fun K hK => ?_); go_simp; (with_reducible (refine hK _ _ ?_)); clear hK K)))
  refine wpMix_nil ?_
  go_wp2
  obtain ⟨q, hq⟩ := (HC.out.ext p).fin
  go_ret
  exact ⟨rfl, q, hq⟩
end Go.Proofs.Cob

namespace Go.Proofs.Cob
open Go Go.RowKit Go.Cob
set_option linter.unusedSimpArgs false
set_option linter.unusedVariables false

theorem sign_any (b : Bool) (w : World) : Calls Try.prog 193 #[.bool b] w fun e w' => e = .returned (.int .i64 (if b then -1 else 1)) ∧ w = w' := by
  cases b <;> (go_enter Try.func193, Try.ntmps193; go_wp2; go_ret; exact ⟨rfl, rfl⟩)

theorem num_any (x y : Int) (w : World) : Calls Try.prog 113 #[.int .i64 x, .int .i64 y] w fun e w' => e = .returned (.int .i64 (cmpI x y)) ∧ w = w' := by
  rcases Int.lt_trichotomy x y with h | h | h
  · have e : cmpI x y = -1 := by unfold cmpI; rw [if_pos h]
    rw [e]
    clear e
    go_enter Try.func113, Try.ntmps113
    go_wp2
    go_ret
    exact ⟨rfl, rfl⟩
  · subst h
    have e : cmpI x x = 0 := by unfold cmpI; simp
    rw [e]
    clear e
    go_enter Try.func113, Try.ntmps113
    go_wp2
    go_ret
    exact ⟨rfl, rfl⟩
  · have h' : ¬ x < y := by omega
    have e : cmpI x y = 1 := by unfold cmpI; rw [if_neg h', if_pos h]
    rw [e]
    clear e
    go_enter Try.func113, Try.ntmps113
    go_wp2
    go_ret
    exact ⟨rfl, rfl⟩

theorem drop_step (a : ByteArray) (k : Nat) (h : k < a.size) : a.data.toList.drop k = a[k] :: a.data.toList.drop (k + 1) := by
  have h' : k < a.data.toList.length := by simpa using h
  rw [List.drop_eq_getElem_cons h']
  rfl

theorem cmpS_step (a b : ByteArray) (k : Nat) (ha : k < a.size) (hb : k < b.size) :
    Lib.compareBytes (a.data.toList.drop k) (b.data.toList.drop k) = if a[k] < b[k] then -1 else if b[k] < a[k] then 1 else Lib.compareBytes (a.data.toList.drop (k + 1)) (b.data.toList.drop (k + 1)) := by
  rw [drop_step a k ha, drop_step b k hb, Lib.compareBytes]

theorem cmpS_endA (a b : ByteArray) (k : Nat) (ha : a.size = k) (hb : b.size = k) : Lib.compareBytes (a.data.toList.drop k) (b.data.toList.drop k) = 0 := by
  rw [List.drop_eq_nil_of_le (by simpa using Nat.le_of_eq ha), List.drop_eq_nil_of_le (by simpa using Nat.le_of_eq hb), Lib.compareBytes]
theorem cmpS_endB (a b : ByteArray) (k : Nat) (ha : a.size = k) (hb : k < b.size) : Lib.compareBytes (a.data.toList.drop k) (b.data.toList.drop k) = -1 := by
  rw [List.drop_eq_nil_of_le (by simpa using Nat.le_of_eq ha), drop_step b k hb, Lib.compareBytes]
theorem cmpS_endC (a b : ByteArray) (k : Nat) (ha : k < a.size) (hb : b.size = k) : Lib.compareBytes (a.data.toList.drop k) (b.data.toList.drop k) = 1 := by
  have e : b.data.toList.drop k = [] := List.drop_eq_nil_of_le (by simpa using Nat.le_of_eq hb)
  rw [drop_step a k ha, e, Lib.compareBytes]


set_option maxHeartbeats 1600000 in
theorem ref02_any (a b : ByteArray) (w : World) (ha : a.size < 4611686018427387904) (hb : b.size < 4611686018427387904) :
    Calls Try.prog 114 #[.string a, .string b] w fun e w' => e = .returned (.int .i64 (cmpS a b)) ∧ ∃ p : Ext w, w' = p.w := by
  have hs := sign_any
  go_enter Try.func114, Try.ntmps114
  go_wp2
  go_loopw [5] (fun n w' => (∃ p : Ext w, w' = p.w) ∧ ∃ k : Nat, n = .int .i64 k ∧ k ≤ a.size ∧ k ≤ b.size ∧ Lib.compareBytes (a.data.toList.drop k) (b.data.toList.drop k) = cmpS a b) (fun n _ => a.size - (intOf n).toNat)
  case atStart => exact ⟨⟨Ch.refl NoS w, rfl⟩, 0, rfl, by omega, by omega, rfl⟩
  case round =>
    obtain ⟨⟨p, rfl⟩, k, rfl, hka, hkb, hc⟩ := hrel
    by_cases h1 : k < a.size
    · by_cases h2 : k < b.size
      · have ia : ∀ w : World, (Instr.index 9 (.string a) (.int .i64 (k : Int))).run Try.prog w = .ok (.int .u8 (a[k]).toNat) w := fun w => by
          rw [run_index_string w 9 a .i64 k (by kernel_rfl), dif_pos ⟨by omega, by omega⟩]; rfl
        have ib : ∀ w : World, (Instr.index 9 (.string b) (.int .i64 (k : Int))).run Try.prog w = .ok (.int .u8 (b[k]).toNat) w := fun w => by
          rw [run_index_string w 9 b .i64 k (by kernel_rfl), dif_pos ⟨by omega, by omega⟩]; rfl
        have hstep := cmpS_step a b k h1 h2
        rw [hc] at hstep
        clear hc
        generalize a[k] = x at hstep ia
        generalize b[k] = y at hstep ib
        by_cases hxy : x = y
        · subst hxy
          have nx : (((x.toNat : Int)) != (x.toNat : Int)) = false := by simp
          rw [if_neg (UInt8.lt_irrefl _), if_neg (UInt8.lt_irrefl _)] at hstep
          have Hstep : Hid (cmpS a b = Lib.compareBytes (a.data.toList.drop (k + 1)) (b.data.toList.drop (k + 1))) := hstep
          clear hstep
          go_wp2_with fail
          refine wp_region_ch NoS (by kernel_rfl) (by kernel_rfl) (fun q hq => ?_)
          clear hq
          (repeat (first | (refine wpMix_skip rfl rfl ?_) | (refine wpMix_step (fun K hK => ?_); go_simp; (with_reducible (refine hK _ _ ?_)); clear hK K)))
          refine wpMix_nil ?_
          clear nx ia ib
          go_wp2_with fail
          go_roundw
          case rel => exact ⟨⟨p.thenE q, rfl⟩, k + 1, by go_num, by omega, by omega, Hstep.out.symm⟩
          case measure => simp [intOf]; omega
        · have hne : (x.toNat : Int) ≠ (y.toNat : Int) := fun e => hxy (UInt8.toNat_inj.mp (by exact_mod_cast e))
          have nx : (((x.toNat : Int)) != (y.toNat : Int)) = true := by simpa using hne
          rcases Int.lt_or_gt_of_ne hne with hlt | hlt
          · have hlt' : x < y := UInt8.lt_iff_toNat_lt.mpr (by omega)
            rw [if_pos hlt'] at hstep
            have Hs : Hid _ := hstep
            clear hlt' hstep hne hxy
            go_wp2_with fail
            refine wp_region_ch NoS (by kernel_rfl) (by kernel_rfl) (fun q hq => ?_)
            clear hq
            (repeat (first | (refine wpMix_skip rfl rfl ?_) | (refine wpMix_step (fun K hK => ?_); go_simp; (with_reducible (refine hK _ _ ?_)); clear hK K)))
            refine wpMix_nil ?_
            go_wp2_with fail
            refine wp_region_ch NoS (by kernel_rfl) (by kernel_rfl) (fun r hr => ?_)
            clear hr
            (repeat (first | (refine wpMix_skip rfl rfl ?_) | (refine wpMix_step (fun K hK => ?_); go_simp; (with_reducible (refine hK _ _ ?_)); clear hK K)))
            refine wpMix_step (fun K hK => ?_); go_simp; refine (sign_any _ _).mono ?_; rintro e w' ⟨rfl, rfl⟩; refine ⟨⟨r, rfl⟩, hK _ _ ?_⟩; clear hK K
            (repeat (first | (refine wpMix_skip rfl rfl ?_) | (refine wpMix_step (fun K hK => ?_); go_simp; (with_reducible (refine hK _ _ ?_)); clear hK K)))
            refine wpMix_nil ?_
            go_wp2_with fail
            go_ret
            exact ⟨by rw [Hs.out]; rfl, (p.thenE q).thenE r, rfl⟩
          · have hlt' : y < x := UInt8.lt_iff_toNat_lt.mpr (by omega)
            have hlt2 : ¬ x < y := fun h => by have := UInt8.lt_iff_toNat_lt.mp h; omega
            have hlt3 : ¬ (x.toNat : Int) < (y.toNat : Int) := by omega
            rw [if_neg hlt2, if_pos hlt'] at hstep
            have Hs : Hid _ := hstep
            clear hlt' hstep hne hxy hlt2
            go_wp2_with fail
            refine wp_region_ch NoS (by kernel_rfl) (by kernel_rfl) (fun q hq => ?_)
            clear hq
            (repeat (first | (refine wpMix_skip rfl rfl ?_) | (refine wpMix_step (fun K hK => ?_); go_simp; (with_reducible (refine hK _ _ ?_)); clear hK K)))
            refine wpMix_nil ?_
            go_wp2_with fail
            refine wp_region_ch NoS (by kernel_rfl) (by kernel_rfl) (fun r hr => ?_)
            clear hr
            (repeat (first | (refine wpMix_skip rfl rfl ?_) | (refine wpMix_step (fun K hK => ?_); go_simp; (with_reducible (refine hK _ _ ?_)); clear hK K)))
            refine wpMix_step (fun K hK => ?_); go_simp; refine (sign_any _ _).mono ?_; rintro e w' ⟨rfl, rfl⟩; refine ⟨⟨r, rfl⟩, hK _ _ ?_⟩; clear hK K
            (repeat (first | (refine wpMix_skip rfl rfl ?_) | (refine wpMix_step (fun K hK => ?_); go_simp; (with_reducible (refine hK _ _ ?_)); clear hK K)))
            refine wpMix_nil ?_
            go_wp2_with fail
            go_ret
            exact ⟨by rw [Hs.out]; rfl, (p.thenE q).thenE r, rfl⟩
      · have e2 : b.size = k := by omega
        have hstep := cmpS_endC a b k h1 e2
        rw [hc] at hstep
        have Hs : Hid _ := hstep
        clear hc hstep
        have e3 : ¬ (a.size : Int) < (b.size : Int) := by omega
        have e4 : ¬ (a.size : Int) = (b.size : Int) := by omega
        have e5 : ((a.size : Int) == (b.size : Int)) = false := by simpa using e4
        go_wp2_with (go_at_call 193; go_must (refine (sign_any _ _).mono ?_); rintro e w' ⟨rfl, rfl⟩)
        go_ret
        exact ⟨by rw [Hs.out]; rfl, p, rfl⟩
    · have e1 : a.size = k := by omega
      by_cases h2 : k < b.size
      · have hstep := cmpS_endB a b k e1 h2
        rw [hc] at hstep
        have Hs : Hid _ := hstep
        clear hc hstep
        have e3 : (a.size : Int) < (b.size : Int) := by omega
        have e4 : ¬ (a.size : Int) = (b.size : Int) := by omega
        have e5 : ((a.size : Int) == (b.size : Int)) = false := by simpa using e4
        go_wp2_with (go_at_call 193; go_must (refine (sign_any _ _).mono ?_); rintro e w' ⟨rfl, rfl⟩)
        go_ret
        exact ⟨by rw [Hs.out]; rfl, p, rfl⟩
      · have hstep := cmpS_endA a b k e1 (by omega)
        rw [hc] at hstep
        have Hs : Hid _ := hstep
        clear hc hstep
        have e4 : (a.size : Int) = (b.size : Int) := by omega
        have e5 : ((k : Int) == (b.size : Int)) = true := by rw [← e1]; simpa using e4
        go_wp2_with (go_at_call 193; go_must (refine (sign_any _ _).mono ?_); rintro e w' ⟨rfl, rfl⟩)
        go_ret
        exact ⟨by rw [Hs.out]; rfl, p, rfl⟩

theorem cmpI_zero (x y : Int) : cmpI x y = 0 ↔ x = y := by unfold cmpI; split <;> (try split) <;> omega

def refK (a b : Key) : Int := if a.kind ≠ b.kind then cmpI a.kind b.kind else if a.a ≠ b.a then cmpI a.a b.a else if a.b ≠ b.b then cmpI a.b b.b else cmpS a.s b.s
theorem refK_eq (a b : Key) : refK a b = ordK a b := by
  unfold refK ordK or4
  have h1 := cmpI_zero a.kind b.kind
  have h2 := cmpI_zero a.a b.a
  have h3 := cmpI_zero a.b b.b
  by_cases e1 : a.kind = b.kind <;> by_cases e2 : a.a = b.a <;> by_cases e3 : a.b = b.b <;> simp_all

set_option maxHeartbeats 800000 in
theorem ref23_any (a b : Key) (w : World) (ha : a.s.size < 4611686018427387904) (hb : b.s.size < 4611686018427387904) :
    Calls Try.prog 23 #[keyV a, keyV b] w fun e w' => e = .returned (.int .i64 (ordK a b)) ∧ ∃ p : Ext w, w' = p.w := by
  rw [← refK_eq]
  obtain ⟨ak, aa, ab, sa⟩ := a
  obtain ⟨bk, ba, bb, sb⟩ := b
  simp only [refK]
  have fin : ∀ (u v) (p : Ext ((w.alloc u).alloc v)), ∃ q : Ext w, p.w = q.w := fun u v p => ⟨(((Ch.refl NoS w).alloc u).alloc v).thenE p, rfl⟩
  by_cases e1 : ak = bk
  · by_cases e2 : aa = ba
    · by_cases e3 : ab = bb
      · rw [if_neg (by simpa using e1), if_neg (by simpa using e2), if_neg (by simpa using e3)]
        subst e1 e2 e3
        have n1 : (ak != ak) = false := by simp
        have n2 : (aa != aa) = false := by simp
        have n3 : (ab != ab) = false := by simp
        go_enter Try.func23, Try.ntmps23
        go_wp2_with (go_at_call 114; go_must (refine (ref02_any _ _ _ ha hb).mono ?_); rintro e w' ⟨rfl, p, rfl⟩)
        go_ret
        exact ⟨rfl, fin _ _ p⟩
      · rw [if_neg (by simpa using e1), if_neg (by simpa using e2), if_pos e3]
        subst e1 e2
        have n1 : (ak != ak) = false := by simp
        have n2 : (aa != aa) = false := by simp
        have n3 : (ab != bb) = true := by simpa using e3
        clear e3
        go_enter Try.func23, Try.ntmps23
        go_wp2_with (go_at_call 113; go_must (refine (num_any _ _ _).mono ?_); rintro e w' ⟨rfl, rfl⟩)
        go_ret
        exact ⟨rfl, fin _ _ (Ch.refl NoS _)⟩
    · rw [if_neg (by simpa using e1), if_pos e2]
      subst e1
      have n1 : (ak != ak) = false := by simp
      have n2 : (aa != ba) = true := by simpa using e2
      clear e2
      go_enter Try.func23, Try.ntmps23
      go_wp2_with (go_at_call 113; go_must (refine (num_any _ _ _).mono ?_); rintro e w' ⟨rfl, rfl⟩)
      go_ret
      exact ⟨rfl, fin _ _ (Ch.refl NoS _)⟩
  · rw [if_pos e1]
    have n1 : (ak != bk) = true := by simpa using e1
    clear e1
    go_enter Try.func23, Try.ntmps23
    go_wp2_with (go_at_call 113; go_must (refine (num_any _ _ _).mono ?_); rintro e w' ⟨rfl, rfl⟩)
    go_ret
    exact ⟨rfl, fin _ _ (Ch.refl NoS _)⟩
end Go.Proofs.Cob

namespace Go.Proofs.Cob
open Go Go.RowKit Go.Cob
set_option linter.unusedSimpArgs false
set_option linter.unusedVariables false

/-! ### the order's own laws -/
theorem cmpI_swap (x y : Int) : cmpI y x = -cmpI x y := by unfold cmpI; split <;> split <;> (try split) <;> omega
theorem cmpI_range (x y : Int) : cmpI x y = -1 ∨ cmpI x y = 0 ∨ cmpI x y = 1 := by unfold cmpI; split <;> (try split) <;> simp
theorem cmpI_trans (x y z : Int) (h1 : cmpI x y ≤ 0) (h2 : cmpI y z ≤ 0) : cmpI x z ≤ 0 ∧ (cmpI x z = 0 → cmpI x y = 0 ∧ cmpI y z = 0) := by
  unfold cmpI at *
  constructor
  · revert h1 h2; split <;> split <;> split <;> (try split) <;> (try split) <;> (try split) <;> omega
  · intro h; revert h1 h2 h; split <;> split <;> split <;> (try split) <;> (try split) <;> (try split) <;> omega

theorem cmpL_swap : ∀ a b : List UInt8, Lib.compareBytes b a = -Lib.compareBytes a b
  | [], [] => rfl
  | [], _ :: _ => rfl
  | _ :: _, [] => rfl
  | x :: a, y :: b => by
    simp only [Lib.compareBytes]
    have := cmpL_swap a b
    by_cases h1 : x < y
    · have h2 : ¬ y < x := fun h => by have := UInt8.lt_iff_toNat_lt.mp h; have := UInt8.lt_iff_toNat_lt.mp h1; omega
      simp [h1, h2]
    · by_cases h2 : y < x <;> simp [h1, h2, this]
theorem cmpL_range : ∀ a b : List UInt8, Lib.compareBytes a b = -1 ∨ Lib.compareBytes a b = 0 ∨ Lib.compareBytes a b = 1
  | [], [] => .inr (.inl rfl)
  | [], _ :: _ => .inl rfl
  | _ :: _, [] => .inr (.inr rfl)
  | x :: a, y :: b => by
    simp only [Lib.compareBytes]
    split
    · simp
    · split
      · simp
      · exact cmpL_range a b
theorem cmpL_zero : ∀ a b : List UInt8, Lib.compareBytes a b = 0 ↔ a = b
  | [], [] => by simp [Lib.compareBytes]
  | [], _ :: _ => by simp [Lib.compareBytes]
  | _ :: _, [] => by simp [Lib.compareBytes]
  | x :: a, y :: b => by
    simp only [Lib.compareBytes]
    by_cases h1 : x < y
    · have hn : x ≠ y := by rintro rfl; exact UInt8.lt_irrefl _ h1
      simp [h1, hn]
    · by_cases h2 : y < x
      · have hn : x ≠ y := by rintro rfl; exact UInt8.lt_irrefl _ h2
        simp [h1, h2, hn]
      · have he : x = y := by
          apply UInt8.toNat_inj.mp
          rw [UInt8.lt_iff_toNat_lt] at h1 h2
          omega
        subst he
        simp [h1, cmpL_zero a b]
theorem cmpL_trans : ∀ a b c : List UInt8, Lib.compareBytes a b ≤ 0 → Lib.compareBytes b c ≤ 0 → Lib.compareBytes a c ≤ 0
  | [], _, [], _, _ => by simp [Lib.compareBytes]
  | [], _, _ :: _, _, _ => by simp [Lib.compareBytes]
  | _ :: _, [], _, h, _ => by simp [Lib.compareBytes] at h
  | _ :: _, _ :: _, [], _, h => by simp [Lib.compareBytes] at h
  | x :: a, y :: b, z :: c, h1, h2 => by
    simp only [Lib.compareBytes] at *
    have ih := cmpL_trans a b c
    simp only [UInt8.lt_iff_toNat_lt] at *
    revert h1 h2
    split <;> split <;> split <;> (try split) <;> (try split) <;> (try split) <;> intro h1 h2 <;> first | omega | exact ih h1 h2

theorem or4_swap (a b : Key) : ordK b a = -ordK a b := by
  unfold ordK or4 cmpS
  rw [cmpI_swap a.kind, cmpI_swap a.a, cmpI_swap a.b, cmpL_swap a.s.data.toList]
  have h1 := cmpI_range a.kind b.kind
  have h2 := cmpI_range a.a b.a
  have h3 := cmpI_range a.b b.b
  split <;> split <;> (try split) <;> (try split) <;> (try split) <;> (try split) <;> omega
theorem ordK_range (a b : Key) : ordK a b = -1 ∨ ordK a b = 0 ∨ ordK a b = 1 := by
  unfold ordK or4
  split
  · exact cmpI_range _ _
  · split
    · exact cmpI_range _ _
    · split
      · exact cmpI_range _ _
      · exact cmpL_range _ _
theorem ordK_zero (a b : Key) : ordK a b = 0 ↔ a = b := by
  obtain ⟨a1, a2, a3, a4⟩ := a
  obtain ⟨b1, b2, b3, b4⟩ := b
  have e4 : a4 = b4 ↔ a4.data.toList = b4.data.toList := by
    constructor
    · rintro rfl; rfl
    · intro h; exact ByteArray.ext (Array.toList_inj.mp h)
  unfold ordK or4 cmpS
  simp only [Key.mk.injEq]
  rw [e4, ← cmpL_zero, ← cmpI_zero a1, ← cmpI_zero a2, ← cmpI_zero a3]
  split
  · simp_all
  · split
    · simp_all
    · split <;> simp_all
def orL (p q : Int) : Int := if p ≠ 0 then p else q
theorem lexT {p q r P Q R : Int} (h : p ≤ 0 → q ≤ 0 → r ≤ 0 ∧ (r = 0 → p = 0 ∧ q = 0)) (H : P ≤ 0 → Q ≤ 0 → R ≤ 0) (h1 : orL p P ≤ 0) (h2 : orL q Q ≤ 0) : orL r R ≤ 0 := by
  unfold orL at *
  have a1 : p ≤ 0 := by split at h1 <;> omega
  have a2 : q ≤ 0 := by split at h2 <;> omega
  obtain ⟨a3, a4⟩ := h a1 a2
  by_cases hr : r = 0
  · obtain ⟨rfl, rfl⟩ := a4 hr
    simp at h1 h2
    simp [hr, H h1 h2]
  · simp [hr, a3]
theorem ordK_trans (a b c : Key) (h1 : ordK a b ≤ 0) (h2 : ordK b c ≤ 0) : ordK a c ≤ 0 :=
  lexT (cmpI_trans a.kind b.kind c.kind) (lexT (cmpI_trans a.a b.a c.a) (lexT (cmpI_trans a.b b.b c.b) (cmpL_trans a.s.data.toList b.s.data.toList c.s.data.toList))) h1 h2

/-! ### the walk -/
abbrev kCells (k : Key) : Array Value := keyCells k.kind k.a k.b k.s


set_option maxHeartbeats 3200000 in
theorem cellOrders_any (a b c : Key) (w : World) : Calls Try.prog 3 #[keyV a, keyV b, keyV c] w fun e w' => e = .returned (.bool true) ∧ ∃ p : Ext w, w' = p.w := by
  obtain ⟨W, hW⟩ : ∃ W, W = ((w.alloc (.cells (kCells a) 23)).alloc (.cells (kCells b) 23)).alloc (.cells (kCells c) 23) := ⟨_, rfl⟩
  have ha : W.heap[w.heap.size]? = some (.cells (kCells a) 23 (0, 0)) := by rw [hW]; exact heap_alloc_blk _ (heap_alloc_blk _ (heap_alloc_at _ _))
  have hb : W.heap[w.heap.size + 1]? = some (.cells (kCells b) 23 (0, 0)) := by rw [hW]; exact heap_alloc_blk _ (heap_alloc_eq _ (by simp))
  have hc : W.heap[w.heap.size + 1 + 1]? = some (.cells (kCells c) 23 (0, 0)) := by rw [hW]; exact heap_alloc_eq _ (by simp)
  have fin : ∀ p : Ext W, ∃ q : Ext w, p.w = q.w := fun p => ⟨((((Ch.refl NoS w).alloc _).alloc _).alloc _).onto hW p (fun b hb h => h), rfl⟩
  have ak0 : ∀ p : Ext W, p.w.cell? ⟨w.heap.size, 0, none⟩ = some (.int .i64 a.kind) := fun p => cell_at 0 (p.blkE ha); have ak1 : ∀ p : Ext W, p.w.cell? ⟨w.heap.size, 1, none⟩ = some (.int .i64 a.a) := fun p => cell_at 1 (p.blkE ha); have ak2 : ∀ p : Ext W, p.w.cell? ⟨w.heap.size, 2, none⟩ = some (.int .i64 a.b) := fun p => cell_at 2 (p.blkE ha); have ak3 : ∀ p : Ext W, p.w.cell? ⟨w.heap.size, 3, none⟩ = some (.string a.s) := fun p => cell_at 3 (p.blkE ha)
  have bk0 : ∀ p : Ext W, p.w.cell? ⟨w.heap.size + 1, 0, none⟩ = some (.int .i64 b.kind) := fun p => cell_at 0 (p.blkE hb); have bk1 : ∀ p : Ext W, p.w.cell? ⟨w.heap.size + 1, 1, none⟩ = some (.int .i64 b.a) := fun p => cell_at 1 (p.blkE hb); have bk2 : ∀ p : Ext W, p.w.cell? ⟨w.heap.size + 1, 2, none⟩ = some (.int .i64 b.b) := fun p => cell_at 2 (p.blkE hb); have bk3 : ∀ p : Ext W, p.w.cell? ⟨w.heap.size + 1, 3, none⟩ = some (.string b.s) := fun p => cell_at 3 (p.blkE hb)
  have ck0 : ∀ p : Ext W, p.w.cell? ⟨w.heap.size + 1 + 1, 0, none⟩ = some (.int .i64 c.kind) := fun p => cell_at 0 (p.blkE hc); have ck1 : ∀ p : Ext W, p.w.cell? ⟨w.heap.size + 1 + 1, 1, none⟩ = some (.int .i64 c.a) := fun p => cell_at 1 (p.blkE hc); have ck2 : ∀ p : Ext W, p.w.cell? ⟨w.heap.size + 1 + 1, 2, none⟩ = some (.int .i64 c.b) := fun p => cell_at 2 (p.blkE hc); have ck3 : ∀ p : Ext W, p.w.cell? ⟨w.heap.size + 1 + 1, 3, none⟩ = some (.string c.s) := fun p => cell_at 3 (p.blkE hc)
  go_enter Try.func3, Try.ntmps3
  go_wp2_with fail
  rw [← hW]
  clear hW
  by_cases hA : (500 : Int) < a.s.size
  · go_wp2_with ((go_at_call 21; go_must (refine (awake_any _).mono ?_); rintro e w' ⟨rfl, p, rfl⟩); replace ha := p.blkE ha; replace hb := p.blkE hb; replace hc := p.blkE hc; replace fin : ∀ q : Ext p.w, ∃ r : Ext w, q.w = r.w := fun q => fin (p.thenE q); clear ak0 ak1 ak2 ak3 bk0 bk1 bk2 bk3 ck0 ck1 ck2 ck3; generalize p.w = W at ha hb hc fin ⊢; clear p; have ak0 : ∀ p : Ext W, p.w.cell? ⟨w.heap.size, 0, none⟩ = some (.int .i64 a.kind) := fun p => cell_at 0 (p.blkE ha); have ak1 : ∀ p : Ext W, p.w.cell? ⟨w.heap.size, 1, none⟩ = some (.int .i64 a.a) := fun p => cell_at 1 (p.blkE ha); have ak2 : ∀ p : Ext W, p.w.cell? ⟨w.heap.size, 2, none⟩ = some (.int .i64 a.b) := fun p => cell_at 2 (p.blkE ha); have ak3 : ∀ p : Ext W, p.w.cell? ⟨w.heap.size, 3, none⟩ = some (.string a.s) := fun p => cell_at 3 (p.blkE ha); have bk0 : ∀ p : Ext W, p.w.cell? ⟨w.heap.size + 1, 0, none⟩ = some (.int .i64 b.kind) := fun p => cell_at 0 (p.blkE hb); have bk1 : ∀ p : Ext W, p.w.cell? ⟨w.heap.size + 1, 1, none⟩ = some (.int .i64 b.a) := fun p => cell_at 1 (p.blkE hb); have bk2 : ∀ p : Ext W, p.w.cell? ⟨w.heap.size + 1, 2, none⟩ = some (.int .i64 b.b) := fun p => cell_at 2 (p.blkE hb); have bk3 : ∀ p : Ext W, p.w.cell? ⟨w.heap.size + 1, 3, none⟩ = some (.string b.s) := fun p => cell_at 3 (p.blkE hb); have ck0 : ∀ p : Ext W, p.w.cell? ⟨w.heap.size + 1 + 1, 0, none⟩ = some (.int .i64 c.kind) := fun p => cell_at 0 (p.blkE hc); have ck1 : ∀ p : Ext W, p.w.cell? ⟨w.heap.size + 1 + 1, 1, none⟩ = some (.int .i64 c.a) := fun p => cell_at 1 (p.blkE hc); have ck2 : ∀ p : Ext W, p.w.cell? ⟨w.heap.size + 1 + 1, 2, none⟩ = some (.int .i64 c.b) := fun p => cell_at 2 (p.blkE hc); have ck3 : ∀ p : Ext W, p.w.cell? ⟨w.heap.size + 1 + 1, 3, none⟩ = some (.string c.s) := fun p => cell_at 3 (p.blkE hc); have ak3' := ak3 (Ch.refl NoS W); have bk3' := bk3 (Ch.refl NoS W); have ck3' := ck3 (Ch.refl NoS W); simp only [Ch.refl_w] at ak3' bk3' ck3'); go_ret; exact ⟨rfl, fin (Ch.refl NoS _)⟩
  by_cases hB : (500 : Int) < b.s.size
  · go_wp2_with ((go_at_call 21; go_must (refine (awake_any _).mono ?_); rintro e w' ⟨rfl, p, rfl⟩); replace ha := p.blkE ha; replace hb := p.blkE hb; replace hc := p.blkE hc; replace fin : ∀ q : Ext p.w, ∃ r : Ext w, q.w = r.w := fun q => fin (p.thenE q); clear ak0 ak1 ak2 ak3 bk0 bk1 bk2 bk3 ck0 ck1 ck2 ck3; generalize p.w = W at ha hb hc fin ⊢; clear p; have ak0 : ∀ p : Ext W, p.w.cell? ⟨w.heap.size, 0, none⟩ = some (.int .i64 a.kind) := fun p => cell_at 0 (p.blkE ha); have ak1 : ∀ p : Ext W, p.w.cell? ⟨w.heap.size, 1, none⟩ = some (.int .i64 a.a) := fun p => cell_at 1 (p.blkE ha); have ak2 : ∀ p : Ext W, p.w.cell? ⟨w.heap.size, 2, none⟩ = some (.int .i64 a.b) := fun p => cell_at 2 (p.blkE ha); have ak3 : ∀ p : Ext W, p.w.cell? ⟨w.heap.size, 3, none⟩ = some (.string a.s) := fun p => cell_at 3 (p.blkE ha); have bk0 : ∀ p : Ext W, p.w.cell? ⟨w.heap.size + 1, 0, none⟩ = some (.int .i64 b.kind) := fun p => cell_at 0 (p.blkE hb); have bk1 : ∀ p : Ext W, p.w.cell? ⟨w.heap.size + 1, 1, none⟩ = some (.int .i64 b.a) := fun p => cell_at 1 (p.blkE hb); have bk2 : ∀ p : Ext W, p.w.cell? ⟨w.heap.size + 1, 2, none⟩ = some (.int .i64 b.b) := fun p => cell_at 2 (p.blkE hb); have bk3 : ∀ p : Ext W, p.w.cell? ⟨w.heap.size + 1, 3, none⟩ = some (.string b.s) := fun p => cell_at 3 (p.blkE hb); have ck0 : ∀ p : Ext W, p.w.cell? ⟨w.heap.size + 1 + 1, 0, none⟩ = some (.int .i64 c.kind) := fun p => cell_at 0 (p.blkE hc); have ck1 : ∀ p : Ext W, p.w.cell? ⟨w.heap.size + 1 + 1, 1, none⟩ = some (.int .i64 c.a) := fun p => cell_at 1 (p.blkE hc); have ck2 : ∀ p : Ext W, p.w.cell? ⟨w.heap.size + 1 + 1, 2, none⟩ = some (.int .i64 c.b) := fun p => cell_at 2 (p.blkE hc); have ck3 : ∀ p : Ext W, p.w.cell? ⟨w.heap.size + 1 + 1, 3, none⟩ = some (.string c.s) := fun p => cell_at 3 (p.blkE hc); have ak3' := ak3 (Ch.refl NoS W); have bk3' := bk3 (Ch.refl NoS W); have ck3' := ck3 (Ch.refl NoS W); simp only [Ch.refl_w] at ak3' bk3' ck3'); go_ret; exact ⟨rfl, fin (Ch.refl NoS _)⟩
  by_cases hC : (500 : Int) < c.s.size
  · go_wp2_with ((go_at_call 21; go_must (refine (awake_any _).mono ?_); rintro e w' ⟨rfl, p, rfl⟩); replace ha := p.blkE ha; replace hb := p.blkE hb; replace hc := p.blkE hc; replace fin : ∀ q : Ext p.w, ∃ r : Ext w, q.w = r.w := fun q => fin (p.thenE q); clear ak0 ak1 ak2 ak3 bk0 bk1 bk2 bk3 ck0 ck1 ck2 ck3; generalize p.w = W at ha hb hc fin ⊢; clear p; have ak0 : ∀ p : Ext W, p.w.cell? ⟨w.heap.size, 0, none⟩ = some (.int .i64 a.kind) := fun p => cell_at 0 (p.blkE ha); have ak1 : ∀ p : Ext W, p.w.cell? ⟨w.heap.size, 1, none⟩ = some (.int .i64 a.a) := fun p => cell_at 1 (p.blkE ha); have ak2 : ∀ p : Ext W, p.w.cell? ⟨w.heap.size, 2, none⟩ = some (.int .i64 a.b) := fun p => cell_at 2 (p.blkE ha); have ak3 : ∀ p : Ext W, p.w.cell? ⟨w.heap.size, 3, none⟩ = some (.string a.s) := fun p => cell_at 3 (p.blkE ha); have bk0 : ∀ p : Ext W, p.w.cell? ⟨w.heap.size + 1, 0, none⟩ = some (.int .i64 b.kind) := fun p => cell_at 0 (p.blkE hb); have bk1 : ∀ p : Ext W, p.w.cell? ⟨w.heap.size + 1, 1, none⟩ = some (.int .i64 b.a) := fun p => cell_at 1 (p.blkE hb); have bk2 : ∀ p : Ext W, p.w.cell? ⟨w.heap.size + 1, 2, none⟩ = some (.int .i64 b.b) := fun p => cell_at 2 (p.blkE hb); have bk3 : ∀ p : Ext W, p.w.cell? ⟨w.heap.size + 1, 3, none⟩ = some (.string b.s) := fun p => cell_at 3 (p.blkE hb); have ck0 : ∀ p : Ext W, p.w.cell? ⟨w.heap.size + 1 + 1, 0, none⟩ = some (.int .i64 c.kind) := fun p => cell_at 0 (p.blkE hc); have ck1 : ∀ p : Ext W, p.w.cell? ⟨w.heap.size + 1 + 1, 1, none⟩ = some (.int .i64 c.a) := fun p => cell_at 1 (p.blkE hc); have ck2 : ∀ p : Ext W, p.w.cell? ⟨w.heap.size + 1 + 1, 2, none⟩ = some (.int .i64 c.b) := fun p => cell_at 2 (p.blkE hc); have ck3 : ∀ p : Ext W, p.w.cell? ⟨w.heap.size + 1 + 1, 3, none⟩ = some (.string c.s) := fun p => cell_at 3 (p.blkE hc); have ak3' := ak3 (Ch.refl NoS W); have bk3' := bk3 (Ch.refl NoS W); have ck3' := ck3 (Ch.refl NoS W); simp only [Ch.refl_w] at ak3' bk3' ck3'); go_ret; exact ⟨rfl, fin (Ch.refl NoS _)⟩
  have la : a.s.size < 4611686018427387904 := by omega
  have lb : b.s.size < 4611686018427387904 := by omega
  have lc : c.s.size < 4611686018427387904 := by omega
  go_wp2_with ((go_at_call 21; go_must (refine (awake_any _).mono ?_); rintro e w' ⟨rfl, p, rfl⟩); replace ha := p.blkE ha; replace hb := p.blkE hb; replace hc := p.blkE hc; replace fin : ∀ q : Ext p.w, ∃ r : Ext w, q.w = r.w := fun q => fin (p.thenE q); clear ak0 ak1 ak2 ak3 bk0 bk1 bk2 bk3 ck0 ck1 ck2 ck3; generalize p.w = W at ha hb hc fin ⊢; clear p; have ak0 : ∀ p : Ext W, p.w.cell? ⟨w.heap.size, 0, none⟩ = some (.int .i64 a.kind) := fun p => cell_at 0 (p.blkE ha); have ak1 : ∀ p : Ext W, p.w.cell? ⟨w.heap.size, 1, none⟩ = some (.int .i64 a.a) := fun p => cell_at 1 (p.blkE ha); have ak2 : ∀ p : Ext W, p.w.cell? ⟨w.heap.size, 2, none⟩ = some (.int .i64 a.b) := fun p => cell_at 2 (p.blkE ha); have ak3 : ∀ p : Ext W, p.w.cell? ⟨w.heap.size, 3, none⟩ = some (.string a.s) := fun p => cell_at 3 (p.blkE ha); have bk0 : ∀ p : Ext W, p.w.cell? ⟨w.heap.size + 1, 0, none⟩ = some (.int .i64 b.kind) := fun p => cell_at 0 (p.blkE hb); have bk1 : ∀ p : Ext W, p.w.cell? ⟨w.heap.size + 1, 1, none⟩ = some (.int .i64 b.a) := fun p => cell_at 1 (p.blkE hb); have bk2 : ∀ p : Ext W, p.w.cell? ⟨w.heap.size + 1, 2, none⟩ = some (.int .i64 b.b) := fun p => cell_at 2 (p.blkE hb); have bk3 : ∀ p : Ext W, p.w.cell? ⟨w.heap.size + 1, 3, none⟩ = some (.string b.s) := fun p => cell_at 3 (p.blkE hb); have ck0 : ∀ p : Ext W, p.w.cell? ⟨w.heap.size + 1 + 1, 0, none⟩ = some (.int .i64 c.kind) := fun p => cell_at 0 (p.blkE hc); have ck1 : ∀ p : Ext W, p.w.cell? ⟨w.heap.size + 1 + 1, 1, none⟩ = some (.int .i64 c.a) := fun p => cell_at 1 (p.blkE hc); have ck2 : ∀ p : Ext W, p.w.cell? ⟨w.heap.size + 1 + 1, 2, none⟩ = some (.int .i64 c.b) := fun p => cell_at 2 (p.blkE hc); have ck3 : ∀ p : Ext W, p.w.cell? ⟨w.heap.size + 1 + 1, 3, none⟩ = some (.string c.s) := fun p => cell_at 3 (p.blkE hc); have ak3' := ak3 (Ch.refl NoS W); have bk3' := bk3 (Ch.refl NoS W); have ck3' := ck3 (Ch.refl NoS W); simp only [Ch.refl_w] at ak3' bk3' ck3')
  refine wp_region_ch NoS (by kernel_rfl) (by kernel_rfl) (fun q hq => ?_)
  clear hq
  (repeat (first | (refine wpMix_skip rfl rfl ?_) | (refine wpMix_step (fun K hK => ?_); go_simp; (with_reducible (refine hK _ _ ?_)); clear hK K)))
  refine wpMix_step (fun K hK => ?_); go_simp; refine (Calls.inCh (order_any a b _)).mono ?_; rintro e w' ⟨rfl, q, rfl⟩; refine ⟨⟨q, rfl⟩, hK _ _ ?_⟩; clear hK K
  (repeat (first | (refine wpMix_skip rfl rfl ?_) | (refine wpMix_step (fun K hK => ?_); go_simp; (with_reducible (refine hK _ _ ?_)); clear hK K)))
  refine wpMix_step (fun K hK => ?_); go_simp; refine (Calls.inCh (order_any b c _)).mono ?_; rintro e w' ⟨rfl, q, rfl⟩; refine ⟨⟨q, rfl⟩, hK _ _ ?_⟩; clear hK K
  (repeat (first | (refine wpMix_skip rfl rfl ?_) | (refine wpMix_step (fun K hK => ?_); go_simp; (with_reducible (refine hK _ _ ?_)); clear hK K)))
  refine wpMix_step (fun K hK => ?_); go_simp; refine (Calls.inCh (order_any a c _)).mono ?_; rintro e w' ⟨rfl, q, rfl⟩; refine ⟨⟨q, rfl⟩, hK _ _ ?_⟩; clear hK K
  (repeat (first | (refine wpMix_skip rfl rfl ?_) | (refine wpMix_step (fun K hK => ?_); go_simp; (with_reducible (refine hK _ _ ?_)); clear hK K)))
  refine wpMix_nil ?_
  have fin2 : ∀ p : Ext q.w, ∃ r : Ext w, p.w = r.w := fun r => fin (q.thenE r)
  have HX : Hid (∀ p : Ext q.w, (∀ i, p.w.cell? ⟨w.heap.size, i, none⟩ = (kCells a)[i]?) ∧ (∀ i, p.w.cell? ⟨w.heap.size + 1, i, none⟩ = (kCells b)[i]?)) := fun p => ⟨fun i => cell_at i (p.blkE (q.blkE ha)), fun i => cell_at i (p.blkE (q.blkE hb))⟩
  clear fin ha hb hc ak0 ak1 ak2 ak3 bk0 bk1 bk2 bk3 ck0 ck1 ck2 ck3
  generalize q.w = W at HX fin2 ⊢
  clear q
  have ak0' : W.cell? ⟨w.heap.size, 0, none⟩ = some (.int .i64 a.kind) := (HX.out (Ch.refl NoS W)).1 0; have ak1' : W.cell? ⟨w.heap.size, 1, none⟩ = some (.int .i64 a.a) := (HX.out (Ch.refl NoS W)).1 1; have ak2' : W.cell? ⟨w.heap.size, 2, none⟩ = some (.int .i64 a.b) := (HX.out (Ch.refl NoS W)).1 2; have ak3' : W.cell? ⟨w.heap.size, 3, none⟩ = some (.string a.s) := (HX.out (Ch.refl NoS W)).1 3; have bk0' : W.cell? ⟨w.heap.size + 1, 0, none⟩ = some (.int .i64 b.kind) := (HX.out (Ch.refl NoS W)).2 0; have bk1' : W.cell? ⟨w.heap.size + 1, 1, none⟩ = some (.int .i64 b.a) := (HX.out (Ch.refl NoS W)).2 1; have bk2' : W.cell? ⟨w.heap.size + 1, 2, none⟩ = some (.int .i64 b.b) := (HX.out (Ch.refl NoS W)).2 2; have bk3' : W.cell? ⟨w.heap.size + 1, 3, none⟩ = some (.string b.s) := (HX.out (Ch.refl NoS W)).2 3
  have hR := ordK_range a b
  have hZ := ordK_zero a b
  have hS := or4_swap a b
  have hT := ordK_trans a b c
  have cR := ref23_any a b
  have cS := order_any b a
  rw [hS] at cS
  have hE := run_eq_key a b
  clear hS
  generalize ordK b c = y at *
  generalize ordK a c = z at *
  generalize ordK a b = x at *
  have hd : decide (a = b) = (x == 0) := by by_cases h : a = b <;> simp [h, hZ]
  rw [hd] at hE
  clear hd
  have HZ : Hid (x = 0 ↔ a = b) := hZ
  have HT : Hid (x ≤ 0 → y ≤ 0 → z ≤ 0) := hT
  clear hZ hT
  rcases hR with rfl | rfl | rfl
  · by_cases hy : y ≤ 0
    · have hz : z ≤ 0 := HT.out (by omega) hy
      go_wp2_with (first
      | (go_at_call 23; go_must (refine (cR _ la lb).mono ?_); rintro e w' ⟨rfl, p, rfl⟩; replace HX : Hid (∀ q : Ext p.w, (∀ i, q.w.cell? ⟨w.heap.size, i, none⟩ = (kCells a)[i]?) ∧ (∀ i, q.w.cell? ⟨w.heap.size + 1, i, none⟩ = (kCells b)[i]?)) := fun q => HX.out (p.thenE q); replace fin2 : ∀ q : Ext p.w, ∃ r : Ext w, q.w = r.w := fun q => fin2 (p.thenE q); clear ak0' ak1' ak2' ak3' bk0' bk1' bk2' bk3'; generalize p.w = W at HX fin2 ⊢; clear p; have ak0' : W.cell? ⟨w.heap.size, 0, none⟩ = some (.int .i64 a.kind) := (HX.out (Ch.refl NoS W)).1 0; have ak1' : W.cell? ⟨w.heap.size, 1, none⟩ = some (.int .i64 a.a) := (HX.out (Ch.refl NoS W)).1 1; have ak2' : W.cell? ⟨w.heap.size, 2, none⟩ = some (.int .i64 a.b) := (HX.out (Ch.refl NoS W)).1 2; have ak3' : W.cell? ⟨w.heap.size, 3, none⟩ = some (.string a.s) := (HX.out (Ch.refl NoS W)).1 3; have bk0' : W.cell? ⟨w.heap.size + 1, 0, none⟩ = some (.int .i64 b.kind) := (HX.out (Ch.refl NoS W)).2 0; have bk1' : W.cell? ⟨w.heap.size + 1, 1, none⟩ = some (.int .i64 b.a) := (HX.out (Ch.refl NoS W)).2 1; have bk2' : W.cell? ⟨w.heap.size + 1, 2, none⟩ = some (.int .i64 b.b) := (HX.out (Ch.refl NoS W)).2 2; have bk3' : W.cell? ⟨w.heap.size + 1, 3, none⟩ = some (.string b.s) := (HX.out (Ch.refl NoS W)).2 3)
      | (go_at_call 22; go_must (refine (cS _).mono ?_); rintro e w' ⟨rfl, p, rfl⟩; replace HX : Hid (∀ q : Ext p.w, (∀ i, q.w.cell? ⟨w.heap.size, i, none⟩ = (kCells a)[i]?) ∧ (∀ i, q.w.cell? ⟨w.heap.size + 1, i, none⟩ = (kCells b)[i]?)) := fun q => HX.out (p.thenE q); replace fin2 : ∀ q : Ext p.w, ∃ r : Ext w, q.w = r.w := fun q => fin2 (p.thenE q); clear ak0' ak1' ak2' ak3' bk0' bk1' bk2' bk3'; generalize p.w = W at HX fin2 ⊢; clear p; have ak0' : W.cell? ⟨w.heap.size, 0, none⟩ = some (.int .i64 a.kind) := (HX.out (Ch.refl NoS W)).1 0; have ak1' : W.cell? ⟨w.heap.size, 1, none⟩ = some (.int .i64 a.a) := (HX.out (Ch.refl NoS W)).1 1; have ak2' : W.cell? ⟨w.heap.size, 2, none⟩ = some (.int .i64 a.b) := (HX.out (Ch.refl NoS W)).1 2; have ak3' : W.cell? ⟨w.heap.size, 3, none⟩ = some (.string a.s) := (HX.out (Ch.refl NoS W)).1 3; have bk0' : W.cell? ⟨w.heap.size + 1, 0, none⟩ = some (.int .i64 b.kind) := (HX.out (Ch.refl NoS W)).2 0; have bk1' : W.cell? ⟨w.heap.size + 1, 1, none⟩ = some (.int .i64 b.a) := (HX.out (Ch.refl NoS W)).2 1; have bk2' : W.cell? ⟨w.heap.size + 1, 2, none⟩ = some (.int .i64 b.b) := (HX.out (Ch.refl NoS W)).2 2; have bk3' : W.cell? ⟨w.heap.size + 1, 3, none⟩ = some (.string b.s) := (HX.out (Ch.refl NoS W)).2 3))
      go_ret
      exact ⟨rfl, fin2 (Ch.refl NoS W)⟩
    · go_wp2_with (first
      | (go_at_call 23; go_must (refine (cR _ la lb).mono ?_); rintro e w' ⟨rfl, p, rfl⟩; replace HX : Hid (∀ q : Ext p.w, (∀ i, q.w.cell? ⟨w.heap.size, i, none⟩ = (kCells a)[i]?) ∧ (∀ i, q.w.cell? ⟨w.heap.size + 1, i, none⟩ = (kCells b)[i]?)) := fun q => HX.out (p.thenE q); replace fin2 : ∀ q : Ext p.w, ∃ r : Ext w, q.w = r.w := fun q => fin2 (p.thenE q); clear ak0' ak1' ak2' ak3' bk0' bk1' bk2' bk3'; generalize p.w = W at HX fin2 ⊢; clear p; have ak0' : W.cell? ⟨w.heap.size, 0, none⟩ = some (.int .i64 a.kind) := (HX.out (Ch.refl NoS W)).1 0; have ak1' : W.cell? ⟨w.heap.size, 1, none⟩ = some (.int .i64 a.a) := (HX.out (Ch.refl NoS W)).1 1; have ak2' : W.cell? ⟨w.heap.size, 2, none⟩ = some (.int .i64 a.b) := (HX.out (Ch.refl NoS W)).1 2; have ak3' : W.cell? ⟨w.heap.size, 3, none⟩ = some (.string a.s) := (HX.out (Ch.refl NoS W)).1 3; have bk0' : W.cell? ⟨w.heap.size + 1, 0, none⟩ = some (.int .i64 b.kind) := (HX.out (Ch.refl NoS W)).2 0; have bk1' : W.cell? ⟨w.heap.size + 1, 1, none⟩ = some (.int .i64 b.a) := (HX.out (Ch.refl NoS W)).2 1; have bk2' : W.cell? ⟨w.heap.size + 1, 2, none⟩ = some (.int .i64 b.b) := (HX.out (Ch.refl NoS W)).2 2; have bk3' : W.cell? ⟨w.heap.size + 1, 3, none⟩ = some (.string b.s) := (HX.out (Ch.refl NoS W)).2 3)
      | (go_at_call 22; go_must (refine (cS _).mono ?_); rintro e w' ⟨rfl, p, rfl⟩; replace HX : Hid (∀ q : Ext p.w, (∀ i, q.w.cell? ⟨w.heap.size, i, none⟩ = (kCells a)[i]?) ∧ (∀ i, q.w.cell? ⟨w.heap.size + 1, i, none⟩ = (kCells b)[i]?)) := fun q => HX.out (p.thenE q); replace fin2 : ∀ q : Ext p.w, ∃ r : Ext w, q.w = r.w := fun q => fin2 (p.thenE q); clear ak0' ak1' ak2' ak3' bk0' bk1' bk2' bk3'; generalize p.w = W at HX fin2 ⊢; clear p; have ak0' : W.cell? ⟨w.heap.size, 0, none⟩ = some (.int .i64 a.kind) := (HX.out (Ch.refl NoS W)).1 0; have ak1' : W.cell? ⟨w.heap.size, 1, none⟩ = some (.int .i64 a.a) := (HX.out (Ch.refl NoS W)).1 1; have ak2' : W.cell? ⟨w.heap.size, 2, none⟩ = some (.int .i64 a.b) := (HX.out (Ch.refl NoS W)).1 2; have ak3' : W.cell? ⟨w.heap.size, 3, none⟩ = some (.string a.s) := (HX.out (Ch.refl NoS W)).1 3; have bk0' : W.cell? ⟨w.heap.size + 1, 0, none⟩ = some (.int .i64 b.kind) := (HX.out (Ch.refl NoS W)).2 0; have bk1' : W.cell? ⟨w.heap.size + 1, 1, none⟩ = some (.int .i64 b.a) := (HX.out (Ch.refl NoS W)).2 1; have bk2' : W.cell? ⟨w.heap.size + 1, 2, none⟩ = some (.int .i64 b.b) := (HX.out (Ch.refl NoS W)).2 2; have bk3' : W.cell? ⟨w.heap.size + 1, 3, none⟩ = some (.string b.s) := (HX.out (Ch.refl NoS W)).2 3))
      go_ret
      exact ⟨rfl, fin2 (Ch.refl NoS W)⟩
  · by_cases hy : y ≤ 0
    · have hz : z ≤ 0 := HT.out (by omega) hy
      go_wp2_with (first
      | (go_at_call 23; go_must (refine (cR _ la lb).mono ?_); rintro e w' ⟨rfl, p, rfl⟩; replace HX : Hid (∀ q : Ext p.w, (∀ i, q.w.cell? ⟨w.heap.size, i, none⟩ = (kCells a)[i]?) ∧ (∀ i, q.w.cell? ⟨w.heap.size + 1, i, none⟩ = (kCells b)[i]?)) := fun q => HX.out (p.thenE q); replace fin2 : ∀ q : Ext p.w, ∃ r : Ext w, q.w = r.w := fun q => fin2 (p.thenE q); clear ak0' ak1' ak2' ak3' bk0' bk1' bk2' bk3'; generalize p.w = W at HX fin2 ⊢; clear p; have ak0' : W.cell? ⟨w.heap.size, 0, none⟩ = some (.int .i64 a.kind) := (HX.out (Ch.refl NoS W)).1 0; have ak1' : W.cell? ⟨w.heap.size, 1, none⟩ = some (.int .i64 a.a) := (HX.out (Ch.refl NoS W)).1 1; have ak2' : W.cell? ⟨w.heap.size, 2, none⟩ = some (.int .i64 a.b) := (HX.out (Ch.refl NoS W)).1 2; have ak3' : W.cell? ⟨w.heap.size, 3, none⟩ = some (.string a.s) := (HX.out (Ch.refl NoS W)).1 3; have bk0' : W.cell? ⟨w.heap.size + 1, 0, none⟩ = some (.int .i64 b.kind) := (HX.out (Ch.refl NoS W)).2 0; have bk1' : W.cell? ⟨w.heap.size + 1, 1, none⟩ = some (.int .i64 b.a) := (HX.out (Ch.refl NoS W)).2 1; have bk2' : W.cell? ⟨w.heap.size + 1, 2, none⟩ = some (.int .i64 b.b) := (HX.out (Ch.refl NoS W)).2 2; have bk3' : W.cell? ⟨w.heap.size + 1, 3, none⟩ = some (.string b.s) := (HX.out (Ch.refl NoS W)).2 3)
      | (go_at_call 22; go_must (refine (cS _).mono ?_); rintro e w' ⟨rfl, p, rfl⟩; replace HX : Hid (∀ q : Ext p.w, (∀ i, q.w.cell? ⟨w.heap.size, i, none⟩ = (kCells a)[i]?) ∧ (∀ i, q.w.cell? ⟨w.heap.size + 1, i, none⟩ = (kCells b)[i]?)) := fun q => HX.out (p.thenE q); replace fin2 : ∀ q : Ext p.w, ∃ r : Ext w, q.w = r.w := fun q => fin2 (p.thenE q); clear ak0' ak1' ak2' ak3' bk0' bk1' bk2' bk3'; generalize p.w = W at HX fin2 ⊢; clear p; have ak0' : W.cell? ⟨w.heap.size, 0, none⟩ = some (.int .i64 a.kind) := (HX.out (Ch.refl NoS W)).1 0; have ak1' : W.cell? ⟨w.heap.size, 1, none⟩ = some (.int .i64 a.a) := (HX.out (Ch.refl NoS W)).1 1; have ak2' : W.cell? ⟨w.heap.size, 2, none⟩ = some (.int .i64 a.b) := (HX.out (Ch.refl NoS W)).1 2; have ak3' : W.cell? ⟨w.heap.size, 3, none⟩ = some (.string a.s) := (HX.out (Ch.refl NoS W)).1 3; have bk0' : W.cell? ⟨w.heap.size + 1, 0, none⟩ = some (.int .i64 b.kind) := (HX.out (Ch.refl NoS W)).2 0; have bk1' : W.cell? ⟨w.heap.size + 1, 1, none⟩ = some (.int .i64 b.a) := (HX.out (Ch.refl NoS W)).2 1; have bk2' : W.cell? ⟨w.heap.size + 1, 2, none⟩ = some (.int .i64 b.b) := (HX.out (Ch.refl NoS W)).2 2; have bk3' : W.cell? ⟨w.heap.size + 1, 3, none⟩ = some (.string b.s) := (HX.out (Ch.refl NoS W)).2 3))
      go_ret
      exact ⟨rfl, fin2 (Ch.refl NoS W)⟩
    · go_wp2_with (first
      | (go_at_call 23; go_must (refine (cR _ la lb).mono ?_); rintro e w' ⟨rfl, p, rfl⟩; replace HX : Hid (∀ q : Ext p.w, (∀ i, q.w.cell? ⟨w.heap.size, i, none⟩ = (kCells a)[i]?) ∧ (∀ i, q.w.cell? ⟨w.heap.size + 1, i, none⟩ = (kCells b)[i]?)) := fun q => HX.out (p.thenE q); replace fin2 : ∀ q : Ext p.w, ∃ r : Ext w, q.w = r.w := fun q => fin2 (p.thenE q); clear ak0' ak1' ak2' ak3' bk0' bk1' bk2' bk3'; generalize p.w = W at HX fin2 ⊢; clear p; have ak0' : W.cell? ⟨w.heap.size, 0, none⟩ = some (.int .i64 a.kind) := (HX.out (Ch.refl NoS W)).1 0; have ak1' : W.cell? ⟨w.heap.size, 1, none⟩ = some (.int .i64 a.a) := (HX.out (Ch.refl NoS W)).1 1; have ak2' : W.cell? ⟨w.heap.size, 2, none⟩ = some (.int .i64 a.b) := (HX.out (Ch.refl NoS W)).1 2; have ak3' : W.cell? ⟨w.heap.size, 3, none⟩ = some (.string a.s) := (HX.out (Ch.refl NoS W)).1 3; have bk0' : W.cell? ⟨w.heap.size + 1, 0, none⟩ = some (.int .i64 b.kind) := (HX.out (Ch.refl NoS W)).2 0; have bk1' : W.cell? ⟨w.heap.size + 1, 1, none⟩ = some (.int .i64 b.a) := (HX.out (Ch.refl NoS W)).2 1; have bk2' : W.cell? ⟨w.heap.size + 1, 2, none⟩ = some (.int .i64 b.b) := (HX.out (Ch.refl NoS W)).2 2; have bk3' : W.cell? ⟨w.heap.size + 1, 3, none⟩ = some (.string b.s) := (HX.out (Ch.refl NoS W)).2 3)
      | (go_at_call 22; go_must (refine (cS _).mono ?_); rintro e w' ⟨rfl, p, rfl⟩; replace HX : Hid (∀ q : Ext p.w, (∀ i, q.w.cell? ⟨w.heap.size, i, none⟩ = (kCells a)[i]?) ∧ (∀ i, q.w.cell? ⟨w.heap.size + 1, i, none⟩ = (kCells b)[i]?)) := fun q => HX.out (p.thenE q); replace fin2 : ∀ q : Ext p.w, ∃ r : Ext w, q.w = r.w := fun q => fin2 (p.thenE q); clear ak0' ak1' ak2' ak3' bk0' bk1' bk2' bk3'; generalize p.w = W at HX fin2 ⊢; clear p; have ak0' : W.cell? ⟨w.heap.size, 0, none⟩ = some (.int .i64 a.kind) := (HX.out (Ch.refl NoS W)).1 0; have ak1' : W.cell? ⟨w.heap.size, 1, none⟩ = some (.int .i64 a.a) := (HX.out (Ch.refl NoS W)).1 1; have ak2' : W.cell? ⟨w.heap.size, 2, none⟩ = some (.int .i64 a.b) := (HX.out (Ch.refl NoS W)).1 2; have ak3' : W.cell? ⟨w.heap.size, 3, none⟩ = some (.string a.s) := (HX.out (Ch.refl NoS W)).1 3; have bk0' : W.cell? ⟨w.heap.size + 1, 0, none⟩ = some (.int .i64 b.kind) := (HX.out (Ch.refl NoS W)).2 0; have bk1' : W.cell? ⟨w.heap.size + 1, 1, none⟩ = some (.int .i64 b.a) := (HX.out (Ch.refl NoS W)).2 1; have bk2' : W.cell? ⟨w.heap.size + 1, 2, none⟩ = some (.int .i64 b.b) := (HX.out (Ch.refl NoS W)).2 2; have bk3' : W.cell? ⟨w.heap.size + 1, 3, none⟩ = some (.string b.s) := (HX.out (Ch.refl NoS W)).2 3))
      go_ret
      exact ⟨rfl, fin2 (Ch.refl NoS W)⟩
  · go_wp2_with (first
      | (go_at_call 23; go_must (refine (cR _ la lb).mono ?_); rintro e w' ⟨rfl, p, rfl⟩; replace HX : Hid (∀ q : Ext p.w, (∀ i, q.w.cell? ⟨w.heap.size, i, none⟩ = (kCells a)[i]?) ∧ (∀ i, q.w.cell? ⟨w.heap.size + 1, i, none⟩ = (kCells b)[i]?)) := fun q => HX.out (p.thenE q); replace fin2 : ∀ q : Ext p.w, ∃ r : Ext w, q.w = r.w := fun q => fin2 (p.thenE q); clear ak0' ak1' ak2' ak3' bk0' bk1' bk2' bk3'; generalize p.w = W at HX fin2 ⊢; clear p; have ak0' : W.cell? ⟨w.heap.size, 0, none⟩ = some (.int .i64 a.kind) := (HX.out (Ch.refl NoS W)).1 0; have ak1' : W.cell? ⟨w.heap.size, 1, none⟩ = some (.int .i64 a.a) := (HX.out (Ch.refl NoS W)).1 1; have ak2' : W.cell? ⟨w.heap.size, 2, none⟩ = some (.int .i64 a.b) := (HX.out (Ch.refl NoS W)).1 2; have ak3' : W.cell? ⟨w.heap.size, 3, none⟩ = some (.string a.s) := (HX.out (Ch.refl NoS W)).1 3; have bk0' : W.cell? ⟨w.heap.size + 1, 0, none⟩ = some (.int .i64 b.kind) := (HX.out (Ch.refl NoS W)).2 0; have bk1' : W.cell? ⟨w.heap.size + 1, 1, none⟩ = some (.int .i64 b.a) := (HX.out (Ch.refl NoS W)).2 1; have bk2' : W.cell? ⟨w.heap.size + 1, 2, none⟩ = some (.int .i64 b.b) := (HX.out (Ch.refl NoS W)).2 2; have bk3' : W.cell? ⟨w.heap.size + 1, 3, none⟩ = some (.string b.s) := (HX.out (Ch.refl NoS W)).2 3)
      | (go_at_call 22; go_must (refine (cS _).mono ?_); rintro e w' ⟨rfl, p, rfl⟩; replace HX : Hid (∀ q : Ext p.w, (∀ i, q.w.cell? ⟨w.heap.size, i, none⟩ = (kCells a)[i]?) ∧ (∀ i, q.w.cell? ⟨w.heap.size + 1, i, none⟩ = (kCells b)[i]?)) := fun q => HX.out (p.thenE q); replace fin2 : ∀ q : Ext p.w, ∃ r : Ext w, q.w = r.w := fun q => fin2 (p.thenE q); clear ak0' ak1' ak2' ak3' bk0' bk1' bk2' bk3'; generalize p.w = W at HX fin2 ⊢; clear p; have ak0' : W.cell? ⟨w.heap.size, 0, none⟩ = some (.int .i64 a.kind) := (HX.out (Ch.refl NoS W)).1 0; have ak1' : W.cell? ⟨w.heap.size, 1, none⟩ = some (.int .i64 a.a) := (HX.out (Ch.refl NoS W)).1 1; have ak2' : W.cell? ⟨w.heap.size, 2, none⟩ = some (.int .i64 a.b) := (HX.out (Ch.refl NoS W)).1 2; have ak3' : W.cell? ⟨w.heap.size, 3, none⟩ = some (.string a.s) := (HX.out (Ch.refl NoS W)).1 3; have bk0' : W.cell? ⟨w.heap.size + 1, 0, none⟩ = some (.int .i64 b.kind) := (HX.out (Ch.refl NoS W)).2 0; have bk1' : W.cell? ⟨w.heap.size + 1, 1, none⟩ = some (.int .i64 b.a) := (HX.out (Ch.refl NoS W)).2 1; have bk2' : W.cell? ⟨w.heap.size + 1, 2, none⟩ = some (.int .i64 b.b) := (HX.out (Ch.refl NoS W)).2 2; have bk3' : W.cell? ⟨w.heap.size + 1, 3, none⟩ = some (.string b.s) := (HX.out (Ch.refl NoS W)).2 3))
    go_ret
    exact ⟨rfl, fin2 (Ch.refl NoS W)⟩
end Go.Proofs.Cob

namespace Go.Cob
open Go Go.RowKit
set_option linter.unusedSectionVars false
set_option linter.unusedSimpArgs false
set_option linter.unusedVariables false
section
variable {α β : Type} {encK : α → Value} {encV : β → Value} {P : Program} {kt vt : TypeId}

abbrev mkE (encK : α → Value) (encV : β → Value) (p : (α × β) × Nat) : MapEntry := { key := encK p.1.1, val := encV p.1.2, born := p.2 }
theorem ents_zip : ∀ (l : List (α × β)) (bs : List Nat), ents encK encV l bs = (l.zip bs).map (mkE encK encV)
  | [], _ => by simp [ents]
  | p :: l, [] => by simp [ents]
  | p :: l, b :: bs => by simp [ents, ents_zip l bs]
theorem zip_fst : ∀ (l : List (α × β)) (bs : List Nat), bs.length = l.length → (l.zip bs).map (·.1) = l
  | [], _, _ => by simp
  | p :: l, b :: bs, h => by simp [zip_fst l bs (by simpa using h)]
theorem zip_snd : ∀ (l : List (α × β)) (bs : List Nat), bs.length = l.length → (l.zip bs).map (·.2) = bs
  | [], bs, h => by simp at h; simp [h]
  | p :: l, b :: bs, h => by simp [zip_snd l bs (by simpa using h)]

/-- The range under way: block r iterates over block m, a map of l; 'left' is what is still to come. -/
def Ranging (encK : α → Value) (encV : β → Value) (w : World) (m r : Nat) (l left : List (α × β)) : Prop :=
  ∃ bs cl seen, w.heap[m]? = some (.map (ents encK encV l bs).toArray cl) ∧ bs.length = l.length ∧ bs.Pairwise (· < ·) ∧ (∀ b ∈ bs, b < cl) ∧
    w.heap[r]? = some (.mapIter (some m) cl seen cl) ∧ left = ((l.zip bs).filter fun p => !seen.contains p.2).map (·.1)

theorem Ranging.keep {w w' : World} {m r : Nat} {l left : List (α × β)} (h : Ranging encK encV w m r l left) (em : w'.heap[m]? = w.heap[m]?) (er : w'.heap[r]? = w.heap[r]?) : Ranging encK encV w' m r l left := by
  obtain ⟨bs, cl, seen, h1, h2, h3, h4, h5, h6⟩ := h
  exact ⟨bs, cl, seen, em.trans h1, h2, h3, h4, er.trans h5, h6⟩
theorem Ranging.map {w : World} {m r : Nat} {l left : List (α × β)} (h : Ranging encK encV w m r l left) : MapAt encK encV w m l := by
  obtain ⟨bs, cl, seen, h1, h2, h3, h4, h5, h6⟩ := h
  exact ⟨bs, cl, h1, h2, h3, h4⟩
theorem Ranging.lt {w : World} {m r : Nat} {l left : List (α × β)} (h : Ranging encK encV w m r l left) : m < w.heap.size ∧ r < w.heap.size := by
  obtain ⟨bs, cl, seen, h1, h2, h3, h4, h5, h6⟩ := h
  exact ⟨lt_of_blk h1, lt_of_blk h5⟩
theorem Ranging.ne_cells {w : World} {m r b : Nat} {l left : List (α × β)} {c : Array Value} {t : TypeId} {fr : Nat × Nat} (h : Ranging encK encV w m r l left) (hb : w.heap[b]? = some (.cells c t fr)) : r ≠ b := by
  rintro rfl
  obtain ⟨bs, cl, seen, h1, h2, h3, h4, h5, h6⟩ := h
  rw [h5] at hb; cases hb
theorem Ranging.ext {w : World} {m r : Nat} {l left : List (α × β)} (h : Ranging encK encV w m r l left) (p : Ext w) : Ranging encK encV p.w m r l left := h.keep (p.same _ h.lt.1 id) (p.same _ h.lt.2 id)
theorem leftOf_ents (l : List (α × β)) (bs : List Nat) (seen : Array Nat) : (leftOf (ents encK encV l bs).toArray seen).toList = ((l.zip bs).filter fun p => !seen.contains p.2).map (mkE encK encV) := by
  unfold leftOf
  rw [ents_zip]
  simp only [Array.toList_filter, List.filter_map]
  rfl
theorem Ranging.left_eq {w : World} {m r : Nat} {l left : List (α × β)} (h : Ranging encK encV w m r l left) : w.rangeLeft m r = left.length := by
  obtain ⟨bs, cl, seen, h1, h2, h3, h4, h5, h6⟩ := h
  simp only [World.rangeLeft, h1, h5]
  rw [← Array.length_toList, leftOf_ents, h6]
  simp
theorem MapAt.range {w : World} {m : Nat} {l : List (α × β)} (h : MapAt encK encV w m l) {t : TypeId} (ht : P.underlying t = some (.map kt vt)) :
    ∃ o, (Instr.range t (.map (some m))).run P w = .ok (.pointer (some ⟨w.heap.size, 0, none⟩)) (w.alloc o) ∧ Ranging encK encV (w.alloc o) m w.heap.size l l := by
  obtain ⟨bs, cl, h1, h2, h3, h4⟩ := h
  refine ⟨_, run_range_map w t kt vt m _ cl ht h1, bs, cl, #[], heap_alloc_blk _ h1, h2, h3, h4, heap_alloc_at _ _, ?_⟩
  have : ((l.zip bs).filter fun p => !(#[] : Array Nat).contains p.2) = l.zip bs := List.filter_eq_self.2 (fun _ _ => by simp)
  rw [this, zip_fst l bs h2]

theorem Ranging.next {w : World} {m r : Nat} {l left : List (α × β)} (h : Ranging encK encV w m r l left) (ty : TypeId) :
    (left = [] ∧ (Instr.next (.pointer (some ⟨r, 0, none⟩)) false ty).run P w = .ok (.tuple #[.bool false]) w) ∨
    ∃ l1 x l2, ∃ p : Ch (fun b => b = r) w, left = l1 ++ x :: l2 ∧ (Instr.next (.pointer (some ⟨r, 0, none⟩)) false ty).run P w = .ok (.tuple #[.bool true, encK x.1, encV x.2]) p.w ∧
      Ranging encK encV p.w m r l (l1 ++ l2) ∧ (Instr.entry (.pointer (some ⟨r, 0, none⟩))).run P p.w = .ok (.tuple #[encK x.1, encV x.2]) p.w := by
  have hlt := h.lt
  obtain ⟨bs, cl, seen, h1, h2, h3, h4, h5, h6⟩ := h
  have hes : ∀ x ∈ (ents encK encV l bs).toArray.toList, x.born < cl := by
    intro x hx
    rw [ents_zip] at hx
    simp only [List.mem_map] at hx
    obtain ⟨p, hp, rfl⟩ := hx
    exact h4 _ (by rw [← zip_snd l bs h2]; exact List.mem_map.2 ⟨p, hp, rfl⟩)
  rcases run_next_at (P := P) w ty r m cl cl seen _ cl h5 h1 hes (Nat.le_refl _) with ⟨h0, hr⟩ | ⟨e, he, w1, hw1, hr⟩
  · left
    refine ⟨?_, hr⟩
    rw [← Array.length_toList, leftOf_ents] at h0
    rw [h6]
    simp at h0 ⊢
    exact h0
  · right
    rw [leftOf_ents] at he
    obtain ⟨⟨x, b⟩, hm, rfl⟩ := List.mem_map.1 he
    obtain ⟨z1, z2, hz⟩ := List.append_of_mem hm
    have hnd : ((l.zip bs).filter fun p => !seen.contains p.2).map (·.2) |>.Nodup := by
      have : bs.Nodup := h3.imp (fun h => Nat.ne_of_lt h)
      rw [← zip_snd l bs h2] at this
      exact this.sublist (List.filter_sublist.map _)
    have hs : ((l.zip bs).filter fun p => !(seen.push b).contains p.2) = z1 ++ z2 := by
      have e1 : ((l.zip bs).filter fun p => !(seen.push b).contains p.2) = ((l.zip bs).filter fun p => !seen.contains p.2).filter fun p => !(p.2 == b) := by
        rw [List.filter_filter]
        refine List.filter_congr fun p _ => ?_
        rw [Array.contains_push, Bool.not_or]
        cases h : (p.2 == b) <;> simp [h]
      rw [e1, hz]
      rw [hz, List.map_append, List.map_cons, List.nodup_append] at hnd
      obtain ⟨n1, n2, n3⟩ := hnd
      have n4 := (List.nodup_cons.1 n2).1
      rw [List.filter_append, List.filter_cons]
      simp only [beq_self_eq_true, Bool.not_true, Bool.false_eq_true, if_false]
      congr 1
      · refine List.filter_eq_self.2 fun p hp => ?_
        have := n3 p.2 (List.mem_map.2 ⟨p, hp, rfl⟩) b (by simp)
        simpa using this
      · refine List.filter_eq_self.2 fun p hp => ?_
        have : p.2 ≠ b := fun e => n4 (by rw [← e]; exact List.mem_map.2 ⟨p, hp, rfl⟩)
        simpa using this
    obtain ⟨p0, hp0⟩ : ∃ p0 : Ch (fun b => b = r) w, p0.w = w1 := by
      rcases hw1 with rfl | rfl
      · exact ⟨Ch.refl _ _, rfl⟩
      · exact ⟨(Ch.refl _ w).drew, rfl⟩
    have hh : w1.heap = w.heap := by rcases hw1 with rfl | rfl <;> rfl
    have hm1 : (ChangeMaps.setBlock w1 r (.mapIter (some m) cl (seen.push b) cl)).heap[m]? = some (.map (ents encK encV l bs).toArray cl) := by
      have hne : m ≠ r := by
        rintro rfl
        rw [h1] at h5; cases h5
      show (w1.heap.setIfInBounds r _)[m]? = _
      rw [Array.getElem?_setIfInBounds_ne (Ne.symm hne), hh]
      exact h1
    have hr1 : (ChangeMaps.setBlock w1 r (.mapIter (some m) cl (seen.push b) cl)).heap[r]? = some (.mapIter (some m) cl (seen.push b) cl) := by
      show (w1.heap.setIfInBounds r _)[r]? = _
      rw [hh]
      simp [hlt.2]
    refine ⟨z1.map (·.1), x, z2.map (·.1), p0.putO r (.mapIter (some m) cl (seen.push b) cl) (fun _ => rfl), ?_, ?_, ?_, ?_⟩
    · rw [h6, hz]; simp
    · rw [Ch.putO_w, hp0]; exact hr
    · rw [Ch.putO_w, hp0]
      exact ⟨bs, cl, seen.push b, hm1, h2, h3, h4, hr1, by rw [hs]; simp⟩
    · rw [Ch.putO_w, hp0]
      refine run_entry_at _ r m cl seen _ cl (mkE encK encV (x, b)) hr1 hm1 ?_ ?_
      · rw [ents_zip]
        simp only [List.mem_map]
        exact ⟨(x, b), (List.mem_filter.1 hm).1, rfl⟩
      · rw [ents_zip]
        simp only [List.map_map]
        show ((l.zip bs).map (·.2)).Nodup
        rw [zip_snd l bs h2]
        exact h3.imp (fun h => Nat.ne_of_lt h)

theorem wpList_range {w : World} {ops : Array Oper} {rest : List Oper} {o : Oper} {a : Go.Act} {Q : Exit → Go.Act → World → Prop} (hg : o.guard = none) (m : Operand) (t : TypeId) (hop : o.op = Op.range t m) (ht : P.underlying t = some (.map kt vt)) {b : Nat} {l : List (α × β)}
    (hm : a.eval m = .map (some b)) (h : MapAt encK encV w b l)
    (hK : ∀ ob, Ranging encK encV (w.alloc ob) b w.heap.size l l → wpList P ops Q rest (a.put o.dst (.pointer (some ⟨w.heap.size, 0, none⟩))) (w.alloc ob)) :
    wpList P ops Q (o :: rest) a w := by
  refine wpList_plain hg fun K' hK' => ?_
  obtain ⟨ob, hrun, h1⟩ := h.range ht
  unfold Oper.wp
  simp [execOp, hop, hm, hrun, Result.andThen]
  exact hK' _ _ (hK ob h1)
theorem wpList_next {w : World} {ops : Array Oper} {rest : List Oper} {o : Oper} {a : Go.Act} {Q : Exit → Go.Act → World → Prop} (hg : o.guard = none) (it : Operand) (hop : o.op = Op.next it false) {m r : Nat} {l left : List (α × β)}
    (hit : a.eval it = .pointer (some ⟨r, 0, none⟩)) (h : Ranging encK encV w m r l left)
    (hDone : left = [] → wpList P ops Q rest (a.put o.dst (.tuple #[.bool false])) w)
    (hMore : ∀ l1 x l2, ∀ p : Ch (fun b => b = r) w, left = l1 ++ x :: l2 → Ranging encK encV p.w m r l (l1 ++ l2) → (Instr.entry (.pointer (some ⟨r, 0, none⟩))).run P p.w = .ok (.tuple #[encK x.1, encV x.2]) p.w →
      wpList P ops Q rest (a.put o.dst (.tuple #[.bool true, encK x.1, encV x.2])) p.w) :
    wpList P ops Q (o :: rest) a w := by
  refine wpList_plain hg fun K' hK' => ?_
  unfold Oper.wp
  rcases h.next (P := P) o.type with ⟨h0, hrun⟩ | ⟨l1, x, l2, p, he, hrun, h1, hen⟩
  · simp [execOp, hop, hit, hrun, Result.andThen]
    exact hK' _ _ (hDone h0)
  · simp [execOp, hop, hit, hrun, Result.andThen]
    exact hK' _ _ (hMore l1 x l2 p he h1 hen)
end
end Go.Cob

namespace Go.Proofs.Cob
open Go Go.RowKit Go.Cob
set_option linter.unusedSimpArgs false
set_option linter.unusedVariables false

abbrev encKey (k : Key) : List Value := [.int .i64 k.kind, .int .i64 k.a, .int .i64 k.b, .string k.s]
def rowKey (ks : List Key) : List Value := ks.flatMap encKey
theorem rowKey_length (ks : List Key) : (rowKey ks).length = ks.length * 4 := by
  induction ks with
  | nil => rfl
  | cons k ks ih => simp only [rowKey, List.flatMap_cons, List.length_append, List.length_cons, List.length_nil] at ih ⊢; omega
theorem rowKey_get : ∀ {ks : List Key} {i : Nat} {k : Key}, ks[i]? = some k → ∀ j, j < 4 → (rowKey ks)[i * 4 + j]? = (encKey k)[j]?
  | x :: ks, 0, k, h, j, hj => by
    have : x = k := by simpa using h
    subst this
    simp only [rowKey, List.flatMap_cons, Nat.zero_mul, Nat.zero_add]
    rw [List.getElem?_append_left (by simpa using hj)]
  | x :: ks, i + 1, k, h, j, hj => by
    have e : (i + 1) * 4 + j = (encKey x).length + (i * 4 + j) := by simp; omega
    simp only [rowKey, List.flatMap_cons]
    rw [e, List.getElem?_append_right (by omega)]
    rw [show (encKey x).length + (i * 4 + j) - (encKey x).length = i * 4 + j from by omega]
    exact rowKey_get (by simpa using h) j hj
theorem rowKey_snoc (ks : List Key) (k : Key) : rowKey (ks ++ [k]) = rowKey ks ++ encKey k := by simp [rowKey]
theorem keysIn_row {w : World} {base cap : Nat} {g : Nat} {ks : List Key} (h : w.ownsRow base 23 4 (.slice (some ⟨g, 0, none⟩) ks.length cap) ks.length (rowKey ks)) : KeysIn w (some ⟨g, 0, none⟩) ks := by
  refine .inr ⟨g, 0, rfl, fun i k hk => ?_⟩
  have hi : i < ks.length := (List.getElem?_eq_some_iff.1 hk).1
  have hcell : ∀ j, j < 4 → w.cell? ⟨g, 0 + i * 4 + j, none⟩ = (encKey k)[j]? := fun j hj => by
    rw [Nat.zero_add, h.cellAt (i * 4 + j) (by omega)]
    exact rowKey_get hk j hj
  exact ⟨hcell 0 (by omega), hcell 1 (by omega), hcell 2 (by omega), hcell 3 (by omega)⟩
theorem info23 : ∃ i, Try.prog.info? 23 = some i ∧ i.zero = some (.agg #[.int .i64 0, .int .i64 0, .int .i64 0, .string ⟨#[]⟩]) ∧ i.size = 4 ∧ i.bytes = 40 :=
  ⟨(Try.prog.info? 23).get (by kernel_rfl), (Option.some_get _).symm, by kernel_rfl, by kernel_rfl, by kernel_rfl⟩

theorem rowBase {w : World} {base e size n : Nat} {v : Value} {xs : List Value} (h : w.ownsRow base e size v n xs) {g : Nat} (hg : v.ownBlock = some g) : base ≤ g := by
  rcases h.2 with ⟨rfl, -⟩ | ⟨g', cap, cur, rfl, hb, -⟩
  · cases hg
  · simp only [Value.ownBlock, Option.some.injEq] at hg
    omega
set_option maxRecDepth 4000 in
set_option maxHeartbeats 3200000 in
theorem whichLoop (I : Ids) (fv : Value) (A : ArenaSt) (l : List (Key × Slot)) (w : World) (h : StoreAt w I fv A l) (g : Nat) (cb : Array Value) (pr : Slot → Bool) (hl : l.length < 1099511627776)
    (eg : ∀ args w, (callFunc g args).run Try.prog w = .ok (.enter g args) w)
    (hcb : ∀ p : Ext w, ∀ x ∈ l, Calls Try.prog g (#[slotV x.2] ++ cb) p.w fun e w' => e = .returned (.bool (pr x.2)) ∧ ∃ q : Ext p.w, w' = q.w)
    (R : Ending → World → Prop)
    (hsort : ∀ (p : Ext w) (v : Value) (ks : List Key), ks.Perm ((l.filter fun x => pr x.2).map (·.1)) → p.w.ownsRow (w.heap.size + 1) 23 4 v ks.length (rowKey ks) →
      Calls Try.prog 211 #[v, .func (.func 22) #[] #[]] p.w fun e w' => e = .returned (.tuple #[]) ∧ R (.returned v) w') :
    Calls Try.prog 168 #[.pointer (some ⟨I.s, 0, none⟩), .func (.func g) #[] cb] w R := by
  have m1 : w.cell? ⟨I.s, 1, none⟩ = some (.map (some I.m)) := cell_at 1 h.st
  have hmp := h.mp
  have HS : Hid _ := hsort
  have HB : Hid _ := hcb
  clear hsort hcb
  go_enter Try.func168, Try.ntmps168
  go_wp2_with (first
    | (at_range; refine wpList_range rfl _ 56 rfl Try.underlying56 (encK := keyV) (encV := slotV) rfl hmp ?_; intro ob hR0)
    | go_in)
  go_frame
  go_loopw [5] (fun v wr => ∃ (p : Ext w) (left done : List (Key × Slot)) (ks : List Key), wr = p.w ∧ Ranging keyV slotV p.w I.m w.heap.size l left ∧ (done ++ left).Perm l ∧ ks = (done.filter fun x => pr x.2).map (·.1) ∧ p.w.ownsRow (w.heap.size + 1) 23 4 v ks.length (rowKey ks))
    (fun _ wr => wr.rangeLeft I.m w.heap.size)
  case atStart =>
    exact ⟨(Ch.refl NoS w).alloc ob, l, [], [], rfl, hR0, by simp, rfl, rfl, .inl ⟨rfl, rfl⟩⟩
  case round =>
    obtain ⟨p, left, done, ks, rfl, hR, hperm, hks0, hrow⟩ := hrel
    have hks : Hid _ := hks0
    clear hks0
    go_wp2_with (first
      | (at_next; refine wpList_next rfl _ rfl rfl hR ?_ ?_)
      | go_in)
    · intro hl0
      subst hl0
      have hp : ks.Perm ((l.filter fun x => pr x.2).map (·.1)) := by
        rw [hks.out]
        simp only [List.append_nil] at hperm
        exact (hperm.filter _).map _
      have hcall := HS.out p _ ks hp hrow
      clear hR hrow hks hperm hp h hmp hR0 m1
      go_wp2_with (first
        | (go_at_call 211; refine hcall.mono ?_; clear hcall; rintro e w' ⟨rfl, hr⟩)
        | go_in)
      exact hr
    · intro l1 k z l2 p1 hx hR1 hen
      subst hx
      obtain ⟨kd, ka, kb, kt⟩ := k
      have hmem : ((⟨kd, ka, kb, kt⟩, z) : Key × Slot) ∈ l := hperm.subset (by simp)
      have hlt := hR1.lt
      obtain ⟨p2, hp2⟩ : ∃ p2 : Ext w, p1.w = p2.w := ⟨p.then p1 (fun b hb e => by omega), rfl⟩
      have hrow1 : p1.w.ownsRow (w.heap.size + 1) 23 4 u5 ks.length (rowKey ks) := rowKeep hrow (fun b hb => p1.same b (by obtain ⟨c, hc⟩ := rowBlk hrow hb; exact lt_of_blk hc) (fun e => by have := rowBase hrow hb; omega))
      rw [hp2] at hR1 hen hrow1 hlt ⊢
      obtain ⟨W, hW⟩ : ∃ W, W = p2.w.alloc (.cells (keyCells kd ka kb kt) 23) := ⟨_, rfl⟩
      obtain ⟨b6, hb6⟩ : ∃ b6, b6 = p2.w.heap.size := ⟨_, rfl⟩
      have hkb : W.heap[b6]? = some (.cells (keyCells kd ka kb kt) 23 (0, 0)) := by rw [hW, hb6]; exact heap_alloc_at _ _
      go_wp2_with fail
      rw [← hb6, ← hW]
      obtain ⟨p3, hp3⟩ : ∃ p3 : Ext w, W = p3.w := ⟨p2.alloc _, hW⟩
      have hc := HB.out p3 _ hmem
      have hR3 : Ranging keyV slotV W I.m w.heap.size l (l1 ++ l2) := by rw [hW]; exact hR1.ext ((Ch.refl NoS p2.w).alloc _)
      have hrow3 : W.ownsRow (w.heap.size + 1) 23 4 u5 ks.length (rowKey ks) := by rw [hW]; exact hrow1.alloc _
      have hsz : w.heap.size < b6 := by rw [hb6]; exact hlt.2
      have hleft : p.w.rangeLeft I.m w.heap.size = (l1 ++ l2).length + 1 := by rw [hR.left_eq]; simp; omega
      have Hleft : Hid _ := hleft
      clear hleft hR hrow hrow1 hR1 hW hb6 hlt hp2 p1 hen
      subst hp3
      cases hpr : pr z
      · rw [hpr] at hc
        refine hc.mono ?_
        clear hc
        rintro e w' ⟨rfl, q, rfl⟩
        have hR4 := hR3.ext q
        have hrow4 : q.w.ownsRow (w.heap.size + 1) 23 4 u5 ks.length (rowKey ks) := rowKeep hrow3 (fun b hb => q.same b (by obtain ⟨c, hc⟩ := rowBlk hrow3 hb; exact lt_of_blk hc) id)
        obtain ⟨p5, hp5⟩ : ∃ p5 : Ext w, q.w = p5.w := ⟨p3.thenE q, rfl⟩
        rw [hp5] at hR4 hrow4 ⊢
        clear hp5 q hR3 hrow3 hkb
        go_wp2_with fail
        refine ⟨⟨p5, l1 ++ l2, done ++ [(⟨kd, ka, kb, kt⟩, z)], ks, rfl, hR4, ?_, ?_, hrow4⟩, ?_⟩
        · exact List.Perm.trans (by
            simp only [List.append_assoc]
            exact List.Perm.append_left _ (by simpa using (List.perm_middle (l₁ := l1) (l₂ := l2)).symm)) hperm
        · rw [hks, List.filter_append]
          simp [hpr]
        · rw [hR4.left_eq, Hleft.out]; omega
      · rw [hpr] at hc
        refine hc.mono ?_
        clear hc
        rintro e w' ⟨rfl, q, rfl⟩
        have hR4 := hR3.ext q
        have hrow4 : q.w.ownsRow (w.heap.size + 1) 23 4 u5 ks.length (rowKey ks) := rowKeep hrow3 (fun b hb => q.same b (by obtain ⟨c, hc⟩ := rowBlk hrow3 hb; exact lt_of_blk hc) id)
        have hkb4 := q.blkE hkb
        obtain ⟨p5, hp5⟩ : ∃ p5 : Ext w, q.w = p5.w := ⟨p3.thenE q, rfl⟩
        rw [hp5] at hR4 hrow4 hkb4 ⊢
        clear hp5 q hR3 hrow3 hkb
        have k0 : p5.w.cell? ⟨b6, 0, none⟩ = some (.int .i64 kd) := cell_at 0 hkb4
        have k1 : p5.w.cell? ⟨b6, 1, none⟩ = some (.int .i64 ka) := cell_at 1 hkb4
        have k2 : p5.w.cell? ⟨b6, 2, none⟩ = some (.int .i64 kb) := cell_at 2 hkb4
        have k3 : p5.w.cell? ⟨b6, 3, none⟩ = some (.string kt) := cell_at 3 hkb4
        clear hkb4
        have hlt4 := hR4.lt
        have hne : ∀ b, u5.ownBlock = some b → b ≠ I.m ∧ b ≠ w.heap.size := fun b hb => by
          obtain ⟨c, hc⟩ := rowBlk hrow4 hb
          exact ⟨fun e => (hR4.map.ne_cells hc) e.symm, fun e => by have := rowBase hrow4 hb; omega⟩
        have hkl : ks.length ≤ l.length := by
          rw [hks, List.length_map]
          have h1 := List.length_filter_le (fun x : Key × Slot => pr x.2) done
          have h2 := hperm.length_eq
          simp at h2
          omega
        obtain ⟨inf, hi0, hi1, hi2, hi3⟩ := info23
        go_wp2_with (first
          | (at_builtin; refine wpList_append_own_at _ rfl _ _ 41 rfl (w.heap.size + 1) 23 inf _ 4 40 Try.underlying41 hi0 hi1 hi2 hi3 rfl (by decide) u5 ks.length (rowKey ks) rfl (hrow4.alloc _) ⟨p5.w.heap.size, 0, none⟩ 1 1 (encKey ⟨kd, ka, kb, kt⟩) rfl rfl ?c1 ?c2 ?c3 ?c4 ?c5 ?_)
          | go_in)
        case c1 =>
          intro j u hj
          have e : ((⟨p5.w.heap.size, 0, none⟩ : Addr).add j) = ⟨p5.w.heap.size, j, none⟩ := by cases j <;> simp [Addr.add]
          rw [e]
          exact (cell_at j (heap_alloc_at p5.w (.cells (keyCells kd ka kb kt) 23))).trans (by rw [← hj]; simp [encKey])
        case c2 =>
          intro u hu
          simp [encKey] at hu
          rcases hu with rfl | rfl | rfl | rfl <;> rfl
        case c3 => unfold maxLen; omega
        case c4 => omega
        case c5 => simp; omega
        intro v' w' hrow' hgrow hnil hat
        obtain ⟨p6, hp6⟩ : ∃ p6 : Ext w, w' = p6.w := ⟨(p5.alloc (.cells (keyCells kd ka kb kt) 23)).grown hgrow (fun b hb e => by have := rowBase hrow4 e; omega), rfl⟩
        have hsz5 : (p5.w.alloc (.cells (keyCells kd ka kb kt) 23)).heap.size = p5.w.heap.size + 1 := by simp
        have hR5 : Ranging keyV slotV w' I.m w.heap.size l (l1 ++ l2) := by
          refine hR4.keep ?_ ?_
          · rw [hgrow.block I.m (by rw [hsz5]; omega) (fun e => (hne _ e.symm).1 rfl)]
            exact heap_alloc_lt _ hlt4.1
          · rw [hgrow.block w.heap.size (by rw [hsz5]; omega) (fun e => (hne _ e.symm).2 rfl)]
            exact heap_alloc_lt _ hlt4.2
        have hrow5 : w'.ownsRow (w.heap.size + 1) 23 4 v' (ks ++ [(⟨kd, ka, kb, kt⟩ : Key)]).length (rowKey (ks ++ [⟨kd, ka, kb, kt⟩])) := by
          rw [rowKey_snoc]; simpa using hrow'
        clear hrow' hgrow hnil hat hrow4 hR4 k0 k1 k2 k3
        rw [hp6] at hR5 hrow5 ⊢
        go_wp2_with fail
        refine ⟨⟨p6, l1 ++ l2, done ++ [(⟨kd, ka, kb, kt⟩, z)], ks ++ [⟨kd, ka, kb, kt⟩], rfl, hR5, ?_, ?_, hrow5⟩, ?_⟩
        · exact List.Perm.trans (by
            simp only [List.append_assoc]
            exact List.Perm.append_left _ (by simpa using (List.perm_middle (l₁ := l1) (l₂ := l2)).symm)) hperm
        · rw [hks.out, List.filter_append]
          simp [hpr]
        · rw [hR5.left_eq, Hleft.out]; omega
end Go.Proofs.Cob

namespace Go.Proofs.Cob
open Go Go.RowKit Go.Cob
set_option linter.unusedSimpArgs false
set_option linter.unusedVariables false

set_option maxHeartbeats 800000 in
theorem heldFn_any (x : Nat) (sl gen wd : Int) (text : ByteArray) (who : Int) (bx : Nat) (me : Int) (w : World) (hb : SlotAt w x sl gen wd text who) (hx : w.heap[bx]? = some (.cells #[.int .i64 me] 3 (0, 0))) :
    Calls Try.prog 174 #[.pointer (some ⟨x, 0, none⟩), .pointer (some ⟨bx, 0, none⟩)] w fun e w' => e = .returned (.bool (!freeB wd && (who == me))) ∧ ∃ p : Ext w, w' = p.w := by
  have z3 : ∀ p : Ext w, p.w.cell? ⟨x, 4, none⟩ = some (.int .i64 who) := fun p => cell_at 4 (p.blkE hb)
  have m0 : ∀ p : Ext w, p.w.cell? ⟨bx, 0, none⟩ = some (.int .i64 me) := fun p => cell_at 0 (p.blkE hx)
  have hB : ∀ p : Ext w, SlotAt p.w x sl gen wd text who := fun p => p.blkE hb
  clear hx hb
  cases hf : freeB wd
  all_goals
    have hcc : ∀ p : Ext w, Calls Try.prog 121 #[.pointer (some ⟨x, 0, none⟩)] p.w fun e w' => e = .returned (.bool (!freeB wd)) ∧ p.w = w' := fun p => locked_any _ _ _ _ _ _ _ (hB p)
    rw [hf] at hcc
    have HB : Hid _ := hB
    clear hf hB
    go_enter Try.func174, Try.ntmps174
    go_wp2_with fail
    refine wp_region_ch NoS (by kernel_rfl) (by kernel_rfl) (fun p hp => ?_)
    clear hp
    (repeat (first | (refine wpMix_skip rfl rfl ?_) | (refine wpMix_step (fun K hK => ?_); go_simp; (with_reducible (refine hK _ _ ?_)); clear hK K)))
    refine wpMix_step (fun K hK => ?_); go_simp; refine (hcc _).mono ?_; rintro e w' ⟨rfl, rfl⟩; refine ⟨⟨p, rfl⟩, hK _ _ ?_⟩; clear hK K
    (repeat (first | (refine wpMix_skip rfl rfl ?_) | (refine wpMix_step (fun K hK => ?_); go_simp; (with_reducible (refine hK _ _ ?_)); clear hK K)))
    refine wpMix_nil ?_
    go_wp2_with fail
    go_ret
    exact ⟨by simp, p, rfl⟩
end Go.Proofs.Cob

namespace Go.Proofs
open Go.Shelf
def Cob.sortKeyL_ren : Go.Shelf.Ren := ⟨fun | 6 => 211 | 15 => 230 | 14 => 229 | 28 => 243 | 29 => 244 | 20 => 235 | 21 => 236 | 22 => 237 | 23 => 238 | 24 => 239 | 25 => 240 | 26 => 241 | 27 => 242 | 46 => 255 | 47 => 256 | 48 => 257 | 49 => 258 | 50 => 259 | 57 => 264 | n => n, fun | 22 => 41 | 24 => 23 | 25 => 25 | 3 => 3 | 39 => 75 | 0 => 0 | 53 => 226 | 55 => 32 | 4 => 4 | 46 => 313 | 45 => 312 | 50 => 317 | 5 => 5 | 9 => 9 | 66 => 327 | 70 => 330 | 76 => 334 | 77 => 255 | n => n, fun | n => n⟩
theorem Cob.sortKeyL : Go.Proofs.SlLaysF0.n6 Try.prog Cob.sortKeyL_ren := {
  mixed := by kernel_rfl
  f6 := ⟨Try.f211.name, by decide, Try.func211.trans (congrArg some (by kernel_rfl))⟩
  f14 := ⟨Try.f229.name, by decide, Try.func229.trans (congrArg some (by kernel_rfl))⟩
  f15 := Try.func230.trans (congrArg some (by kernel_rfl))
  f20 := ⟨Try.f235.name, by decide, Try.func235.trans (congrArg some (by kernel_rfl))⟩
  f21 := ⟨Try.f236.name, by decide, Try.func236.trans (congrArg some (by kernel_rfl))⟩
  f22 := ⟨Try.f237.name, by decide, Try.func237.trans (congrArg some (by kernel_rfl))⟩
  f23 := ⟨Try.f238.name, by decide, Try.func238.trans (congrArg some (by kernel_rfl))⟩
  f24 := ⟨Try.f239.name, by decide, Try.func239.trans (congrArg some (by kernel_rfl))⟩
  f25 := ⟨Try.f240.name, by decide, Try.func240.trans (congrArg some (by kernel_rfl))⟩
  f26 := ⟨Try.f241.name, by decide, Try.func241.trans (congrArg some (by kernel_rfl))⟩
  f27 := ⟨Try.f242.name, by decide, Try.func242.trans (congrArg some (by kernel_rfl))⟩
  f28 := Try.func243.trans (congrArg some (by kernel_rfl))
  f29 := Try.func244.trans (congrArg some (by kernel_rfl))
  f46 := ⟨Try.f255.name, by decide, Try.func255.trans (congrArg some (by kernel_rfl))⟩
  f47 := Try.func256.trans (congrArg some (by kernel_rfl))
  f48 := Try.func257.trans (congrArg some (by kernel_rfl))
  f49 := ⟨Try.f258.name, by decide, Try.func258.trans (congrArg some (by kernel_rfl))⟩
  f50 := ⟨Try.f259.name, by decide, Try.func259.trans (congrArg some (by kernel_rfl))⟩
  f57 := ⟨Try.f264.name, by decide, Try.func264.trans (congrArg some (by kernel_rfl))⟩
  t0 := Try.underlying0
  a0 := Try.isAgg0
  z0 := Try.sizeOf0
  v0 := Try.zeroValue0
  t3 := Try.underlying3
  a3 := Try.isAgg3
  z3 := Try.sizeOf3
  v3 := Try.zeroValue3
  t4 := Try.underlying4
  a4 := Try.isAgg4
  z4 := Try.sizeOf4
  v4 := Try.zeroValue4
  t5 := Try.underlying5
  a5 := Try.isAgg5
  z5 := Try.sizeOf5
  v5 := Try.zeroValue5
  t9 := Try.underlying9
  a9 := Try.isAgg9
  z9 := Try.sizeOf9
  v9 := Try.zeroValue9
  t22 := Try.underlying41
  a22 := Try.isAgg41
  z22 := Try.sizeOf41
  v22 := Try.zeroValue41
  t25 := Try.underlying25
  a25 := Try.isAgg25
  z25 := Try.sizeOf25
  v25 := Try.zeroValue25
  t39 := Try.underlying75
  a39 := Try.isAgg75
  z39 := Try.sizeOf75
  v39 := Try.zeroValue75
  t45 := Try.underlying312
  a45 := Try.isAgg312
  z45 := Try.sizeOf312
  v45 := Try.zeroValue312
  t46 := Try.underlying313
  a46 := Try.isAgg313
  z46 := Try.sizeOf313
  v46 := Try.zeroValue313
  t50 := Try.underlying317
  a50 := Try.isAgg317
  z50 := Try.sizeOf317
  v50 := Try.zeroValue317
  t53 := Try.underlying226
  a53 := Try.isAgg226
  z53 := Try.sizeOf226
  v53 := Try.zeroValue226
  t55 := Try.underlying32
  a55 := Try.isAgg32
  z55 := Try.sizeOf32
  v55 := Try.zeroValue32
  t66 := Try.underlying327
  a66 := Try.isAgg327
  z66 := Try.sizeOf327
  v66 := Try.zeroValue327
  t70 := Try.underlying330
  a70 := Try.isAgg330
  z70 := Try.sizeOf330
  v70 := Try.zeroValue330
  t76 := Try.underlying334
  a76 := Try.isAgg334
  z76 := Try.sizeOf334
  v76 := Try.zeroValue334
  t77 := Try.underlying255
  a77 := Try.isAgg255
  z77 := Try.sizeOf255
  v77 := Try.zeroValue255 }

end Go.Proofs
namespace Go.Proofs.Cob
open Go Go.RowKit Go.Cob Go.Sort Go.Shelf
set_option linter.unusedSimpArgs false
set_option linter.unusedVariables false

theorem ordK_swap (a b : Key) : ordK b a = -ordK a b := or4_swap a b
theorem swoKey : SWO (ltOf ordK) where
  irrefl x := by
    have : ordK x x = 0 := (ordK_zero x x).2 rfl
    simp [ltOf, this]
  trans x y z h1 h2 := by
    simp only [ltOf, decide_eq_true_eq] at *
    have h3 := ordK_trans x y z (by omega) (by omega)
    rcases Int.lt_or_eq_of_le h3 with h | h
    · exact h
    · have e := (ordK_zero x z).1 h
      subst e
      have := ordK_swap x y
      omega
  ntrans x y z h1 h2 := by
    simp only [ltOf, decide_eq_false_iff_not] at *
    have h3 := ordK_swap x y
    have h4 := ordK_swap y z
    have h5 := ordK_swap x z
    have := ordK_trans z y x (by omega) (by omega)
    omega
theorem totKey (x y : Key) (h1 : ltOf ordK x y = false) (h2 : ltOf ordK y x = false) : x = y := by
  simp only [ltOf, decide_eq_false_iff_not] at *
  have := ordK_swap x y
  exact (ordK_zero x y).1 (by omega)
/-- Keys in order. -/
def sortK (ks : List Key) : List Key := ks.mergeSort fun x y => !(ltOf ordK) y x
theorem sortK_perm (ks : List Key) : (sortK ks).Perm ks := List.mergeSort_perm ..

theorem sortK_sorted (ks : List Key) : (sortK ks).Pairwise fun x y => (!(ltOf ordK) y x) = true := by
  refine List.pairwise_mergeSort ?_ ?_ ks
  · intro a b c h1 h2
    simp only [ltOf, Bool.not_eq_true', decide_eq_false_iff_not] at *
    have := swoKey.ntrans c b a (by simpa [ltOf] using h2) (by simpa [ltOf] using h1)
    simpa [ltOf] using this
  · intro a b
    simp only [ltOf, Bool.or_eq_true, Bool.not_eq_true', decide_eq_false_iff_not]
    have := ordK_swap a b
    omega
theorem sortK_unique {ks ks' : List Key} (h : ks.Perm ks') (h1 : ks.Pairwise fun x y => (!(ltOf ordK) y x) = true) (h2 : ks'.Pairwise fun x y => (!(ltOf ordK) y x) = true) : ks = ks' :=
  List.Perm.eq_of_pairwise (le := fun x y => (!(ltOf ordK) y x) = true) (fun a b _ _ h3 h4 => totKey a b (by simpa using h4) (by simpa using h3)) h1 h2 h
theorem sortK_congr {ks ks' : List Key} (h : ks.Perm ks') : sortK ks = sortK ks' := sortK_unique (((sortK_perm ks).trans h).trans (sortK_perm ks').symm) (sortK_sorted ks) (sortK_sorted ks')
theorem holdsK_row {w : World} {base g cap : Nat} {ks : List Key} (h : w.ownsRow base 23 4 (.slice (some ⟨g, 0, none⟩) ks.length cap) ks.length (rowKey ks)) : HoldsK encKey 4 w g 0 ks.toArray := by
  intro j hj
  rw [size_flatK] at hj
  rw [get_flatK _ _ _ _ hj]
  have hi : j / 4 < ks.length := by simp at hj; omega
  have hk : ks[j / 4]? = some ks[j / 4] := List.getElem?_eq_getElem hi
  have hc := rowKey_get hk (j % 4) (Nat.mod_lt _ (by decide))
  rw [show j / 4 * 4 + j % 4 = j from by omega] at hc
  refine ⟨?_, by rw [Nat.zero_add]; exact h.frozenAt j⟩
  rw [Nat.zero_add, h.cellAt j (by simp at hj; omega), hc]
  have e : ks.toArray[j / 4]! = ks[j / 4] := by simp [hi]
  rw [e]
  have : j % 4 = 0 ∨ j % 4 = 1 ∨ j % 4 = 2 ∨ j % 4 = 3 := by omega
  rcases this with h | h | h | h <;> rw [h] <;> rfl
theorem keysIn_holds {w : World} {g : Nat} {ks : List Key} (h : HoldsK encKey 4 w g 0 ks.toArray) : KeysIn w (some ⟨g, 0, none⟩) ks := by
  refine .inr ⟨g, 0, rfl, fun i k hk => ?_⟩
  obtain ⟨hi, hk'⟩ := List.getElem?_eq_some_iff.1 hk
  have e : ks.toArray[i]! = k := by simp [hk]
  have hc : ∀ c, c < 4 → w.cell? ⟨g, 0 + i * 4 + c, none⟩ = some (encKey k)[c]! := fun c hc => by
    have := (h.cell (i := i) (c := c) (by simpa using hi) hc).1
    rw [e] at this
    exact this
  exact ⟨hc 0 (by omega), hc 1 (by omega), hc 2 (by omega), hc 3 (by omega)⟩
/-- A slice of keys that a call has laid. -/
def KeysOut (w0 : World) (v : Value) (ks : List Key) (w' : World) : Prop :=
  ∃ p : Ext w0, w' = p.w ∧ ∃ fa cap, v = .slice fa ks.length cap ∧ ks.length ≤ cap ∧ KeysIn w' fa ks ∧ ((fa = none ∧ ks = []) ∨ ∃ g c, fa = some ⟨g, 0, none⟩ ∧ w0.heap.size ≤ g ∧ w'.heap[g]? = some (.cells c 23 (0, 0)))

theorem sortWorld_other {w : World} {g n b : Nat} {d : Array Key} {os : Array Obj} (hb : b < w.heap.size) (hne : b ≠ g) : (sortWorldK encKey 4 w g 0 n d os).heap[b]? = w.heap[b]? := by
  show ((w.heap.modify g _) ++ os)[b]? = _
  rw [Array.getElem?_append_left (by simpa using hb), Array.getElem?_modify, if_neg (Ne.symm hne)]
theorem sortWorld_at {w : World} {g n : Nat} {d : Array Key} {os : Array Obj} {c : Array Value} {t : TypeId} (hg : w.heap[g]? = some (.cells c t (0, 0))) : ∃ c', (sortWorldK encKey 4 w g 0 n d os).heap[g]? = some (.cells c' t (0, 0)) := by
  refine ⟨putCells id 0 (flatK encKey 4 d) c, ?_⟩
  show ((w.heap.modify g (onCells (putCells id 0 (flatK encKey 4 d)))) ++ os)[g]? = _
  have hl := lt_of_blk hg
  rw [Array.getElem?_append_left (by simpa using hl), Array.getElem?_modify, if_pos rfl, hg]
  rfl
theorem sortWorld_ext {w0 w : World} (p : Ext w0) (hp : p.w = w) {g n : Nat} {d : Array Key} {os : Array Obj} (hg : w0.heap.size ≤ g) : ∃ q : Ext w0, sortWorldK encKey 4 w g 0 n d os = q.w := by
  subst hp
  refine ⟨⟨sortWorldK encKey 4 p.w g 0 n d os, p.os, p.tape, p.output, ?_, fun b hb _ => ?_⟩, rfl⟩
  · refine Nat.le_trans p.size ?_
    show p.w.heap.size ≤ ((p.w.heap.modify g _) ++ os).size
    simp
  · rw [sortWorld_other (Nat.lt_of_lt_of_le hb p.size) (by omega)]
    exact p.same b hb id

theorem sortKeys_any (w0 : World) (p : Ext w0) (v : Value) (ks : List Key) (base : Nat) (hbase : w0.heap.size ≤ base) (hrow : p.w.ownsRow base 23 4 v ks.length (rowKey ks)) (hlen : ks.length < 4611686018427387904) :
    Calls Try.prog 211 #[v, .func (.func 22) #[] #[]] p.w fun e w' => e = .returned (.tuple #[]) ∧ KeysOut w0 v (sortK ks) w' := by
  have hsl : (sortK ks).length = ks.length := (sortK_perm ks).length_eq
  rcases hrow.2 with ⟨rfl, h0⟩ | ⟨g, cap, cur, rfl, hb, hg, hcap, -⟩
  · obtain rfl : ks = [] := List.length_eq_zero_iff.1 h0
    refine (AnyF.slices_SortFunc_none Cob.sortKeyL none 0 (.func (.func 22) #[] #[]) p.w).mono ?_
    rintro e w' ⟨rfl, rfl⟩
    exact ⟨rfl, p, rfl, none, 0, by simp [sortK], by simp [sortK], .inl (by simp [sortK]), .inl ⟨rfl, by simp [sortK]⟩⟩
  · have hH := holdsK_row hrow
    have eg : ∀ args w, (callFunc 22 args).run Try.prog w = .ok (.enter 22 args) w := enters_of Try.func22 (by kernel_rfl) rfl
    have hcon := AnyQ.slices_SortFunc_total Cob.sortKeyL 4 Try.isAgg23 Try.sizeOf23 encKey (fun _ => rfl) (fun x v hv => by simp [encKey] at hv; rcases hv with rfl | rfl | rfl | rfl <;> rfl) ordK swoKey 22 #[] g 0 cap ks.toArray p.w eg (fun m os dk _ x y => order_gr x y _) hH (lt_of_blk hg) (by simpa using hlen) totKey
    refine hcon.mono ?_
    rintro e w' ⟨rfl, n, os, rfl⟩
    obtain ⟨q, hq⟩ := sortWorld_ext (n := n) (d := (sortK ks).toArray) (os := os) p rfl (show w0.heap.size ≤ g by omega)
    obtain ⟨c', hc'⟩ := sortWorld_at (n := n) (d := (sortK ks).toArray) (os := os) hg
    have hH2 : HoldsK encKey 4 (sortWorldK encKey 4 p.w g 0 n (sortK ks).toArray os) g 0 (sortK ks).toArray := holdsK_sortWorldK_c encKey 4 p.w g 0 ks.toArray _ n os hH (lt_of_blk hg) (by simpa using hsl)
    exact ⟨rfl, q, hq, some ⟨g, 0, none⟩, cap, by rw [hsl], by rw [hsl]; exact hcap, keysIn_holds hH2, .inr ⟨g, c', rfl, by omega, hc'⟩⟩

/-- The keys of cells of which something is so, in order. -/
theorem which_n (I : Ids) (A : ArenaSt) (L : List (Key × Cl)) (F : Nat → Prop) (w : World) (h : StN w I A L F) (g : Nat) (cb : Array Value) (pr : Cl → Bool) (hl : L.length < 1099511627776)
    (eg : ∀ args w, (callFunc g args).run Try.prog w = .ok (.enter g args) w)
    (hcb : ∀ p : Ext w, ∀ z : Slot, SlotIn p.w z → Calls Try.prog g (#[slotV z] ++ cb) p.w fun e w' => e = .returned (.bool (pr z.cl)) ∧ ∃ q : Ext p.w, w' = q.w) :
    Calls Try.prog 168 #[.pointer (some ⟨I.s, 0, none⟩), .func (.func g) #[] cb] w fun e w' => ∃ v, e = .returned v ∧ KeysOut w v (sortK ((L.filter fun x => pr x.2).map (·.1))) w' := by
  obtain ⟨⟨⟨fv, l, h1, h2, h3⟩, -⟩, -⟩ := h
  have hll : l.length = L.length := by rw [← h2]; simp
  refine whichLoop I fv A l w h1 g cb (fun z => pr z.cl) (by omega) eg (fun p x hx => hcb p x.2 ((h1.ext p).slots x hx)) _ ?_
  intro p v ks hp hrow
  have hk : ks.length ≤ l.length := by rw [hp.length_eq, List.length_map]; exact List.length_filter_le ..
  refine (sortKeys_any w p v ks (w.heap.size + 1) (by omega) hrow (by omega)).mono ?_
  rintro e w' ⟨rfl, h⟩
  refine ⟨rfl, v, rfl, ?_⟩
  have e : sortK ks = sortK ((L.filter fun x => pr x.2).map (·.1)) := by
    have e2 : (L.filter fun x => pr x.2).map (·.1) = (l.filter fun x => pr x.2.cl).map (·.1) := by
      rw [← h2, List.filter_map, List.map_map]
      rfl
    rw [e2]
    exact sortK_congr hp
  rw [← e]
  exact h
end Go.Proofs.Cob

namespace Go.Proofs.Cob
open Go Go.RowKit Go.Cob
set_option linter.unusedSimpArgs false
set_option linter.unusedVariables false

def heldM (L : List (Key × Cl)) (who : Int) : List Key := sortK ((L.filter fun x => !freeB x.2.wd && (x.2.who == who)).map (·.1))
def keysM (L : List (Key × Cl)) : List Key := sortK ((L.filter fun x => !goneB x.2.wd).map (·.1))

theorem KeysOut.back {w0 : World} {v : Value} {ks : List Key} {w' : World} (p : Ext w0) (h : KeysOut p.w v ks w') : KeysOut w0 v ks w' := by
  obtain ⟨q, rfl, fa, cap, h1, h2, h3, h4⟩ := h
  refine ⟨p.thenE q, rfl, fa, cap, h1, h2, h3, ?_⟩
  rcases h4 with h4 | ⟨g, c, h5, h6, h7⟩
  · exact .inl h4
  · exact .inr ⟨g, c, h5, Nat.le_trans p.size h6, h7⟩

theorem held_n (I : Ids) (A : ArenaSt) (L : List (Key × Cl)) (F : Nat → Prop) (who : Int) (w : World) (h : StN w I A L F) (hl : L.length < 1099511627776) :
    Calls Try.prog 95 #[.pointer (some ⟨I.s, 0, none⟩), .int .i64 who] w fun e w' => ∃ v, e = .returned v ∧ KeysOut w v (heldM L who) w' := by
  obtain ⟨W, hW⟩ : ∃ W, W = w.alloc (.cells #[.int .i64 who] 3) := ⟨_, rfl⟩
  have hb : W.heap[w.heap.size]? = some (.cells #[.int .i64 who] 3 (0, 0)) := by rw [hW]; exact heap_alloc_at _ _
  have hS : StN W I A L F := by rw [hW]; exact h.ext ((Ch.refl NoS w).alloc _)
  obtain ⟨p, hp⟩ : ∃ p : Ext w, W = p.w := ⟨(Ch.refl NoS w).alloc _, hW⟩
  have eg : ∀ args w, (callFunc 174 args).run Try.prog w = .ok (.enter 174 args) w := enters_of Try.func174 (by kernel_rfl) rfl
  have hcc := which_n I A L F W hS 174 #[.pointer (some ⟨w.heap.size, 0, none⟩)] (fun z => !freeB z.wd && (z.who == who)) hl eg (fun p z hz => heldFn_any z.x z.sl z.gen z.wd z.text z.who w.heap.size who p.w hz (p.blkE hb))
  clear h hS hb eg
  go_enter Try.func95, Try.ntmps95
  go_wp2_with fail
  rw [← hW]
  go_at_call 168
  refine hcc.mono ?_
  rintro e w' ⟨v, rfl, hk⟩
  go_wp2_with fail
  go_ret
  subst hp
  exact ⟨v, rfl, KeysOut.back p hk⟩
theorem keys_n (I : Ids) (A : ArenaSt) (L : List (Key × Cl)) (F : Nat → Prop) (w : World) (h : StN w I A L F) (hl : L.length < 1099511627776) :
    Calls Try.prog 91 #[.pointer (some ⟨I.s, 0, none⟩)] w fun e w' => ∃ v, e = .returned v ∧ KeysOut w v (keysM L) w' := by
  have eg : ∀ args w, (callFunc 169 args).run Try.prog w = .ok (.enter 169 args) w := enters_of Try.func169 (by kernel_rfl) rfl
  have hcc := which_n I A L F w h 169 #[] (fun z => !goneB z.wd) hl eg (fun p z hz => has_any z.x z.sl z.gen z.wd z.text z.who p.w hz)
  clear h eg
  go_enter Try.func91, Try.ntmps91
  go_wp2_with fail
  go_at_call 168
  refine hcc.mono ?_
  rintro e w' ⟨v, rfl, hk⟩
  go_wp2_with fail
  go_ret
  exact ⟨v, rfl, hk⟩
end Go.Proofs.Cob

namespace Go.Proofs.Cob
open Go Go.RowKit Go.Cob
set_option linter.unusedSimpArgs false
set_option linter.unusedVariables false

def handleM (L : List (Key × Cl)) (k : Key) : (Int × Int) × Bool := match aget L k with | none => ((0, 0), false) | some z => ((z.sl, z.gen), true)
def lookM (L : List (Key × Cl)) (k : Key) : Value × Bool := match aget L k with | none => (seenV 0 ⟨#[]⟩ false, false) | some z => (seenV (stampZ z.wd) z.text (!goneB z.wd), true)
abbrev hdV (p : Int × Int) : Value := .agg #[.int .i64 p.1, .int .i64 p.2]

set_option maxHeartbeats 800000 in
theorem handle_m (I : Ids) (A : ArenaSt) (L : List (Key × Cl)) (F : Nat → Prop) (k : Key) (w : World) (h : StM w I A L F) :
    Calls Try.prog 89 #[.pointer (some ⟨I.s, 0, none⟩), keyV k] w fun e w' => e = .returned (.tuple #[hdV (handleM L k).1, .bool (handleM L k).2]) ∧ ∃ p : Ext w, w' = p.w := by
  obtain ⟨⟨fv, l, h1, h2, h3⟩, h4, h5, h6⟩ := h
  obtain ⟨kd, ka, kb, ks⟩ := k
  obtain ⟨W, hW⟩ : ∃ W, W = (w.alloc (.cells (keyCells kd ka kb ks) 23)).alloc (.cells #[.int .i64 0, .int .i64 0] 143) := ⟨_, rfl⟩
  have hkb : W.heap[w.heap.size]? = some (.cells (keyCells kd ka kb ks) 23 (0, 0)) := by rw [hW]; exact heap_alloc_blk _ (heap_alloc_at _ _)
  have hn : W.heap[w.heap.size + 1]? = some (.cells #[.int .i64 0, .int .i64 0] 143 (0, 0)) := by rw [hW]; exact heap_alloc_eq _ (by simp)
  have hS : StoreAt W I fv A l := by rw [hW]; exact (h1.alloc _).alloc _
  have fin : ∀ (S : Nat → Prop) (p : Ch S W) (hS : ∀ b, b < w.heap.size → ¬ S b), ∃ q : Ext w, p.w = q.w := fun S p hS => ⟨(((Ch.refl NoS w).alloc _).alloc _).onto hW p (fun b hb h => hS b hb h), rfl⟩
  have hm : aget L ⟨kd, ka, kb, ks⟩ = (aget l ⟨kd, ka, kb, ks⟩).map Slot.cl := by rw [← h2]; exact aget_map (fun z => Slot.cl z) l _
  have k0 : ∀ p : Ext W, p.w.cell? ⟨w.heap.size, 0, none⟩ = some (.int .i64 kd) := fun p => cell_at 0 (p.blkE hkb); have k1 : ∀ p : Ext W, p.w.cell? ⟨w.heap.size, 1, none⟩ = some (.int .i64 ka) := fun p => cell_at 1 (p.blkE hkb); have k2 : ∀ p : Ext W, p.w.cell? ⟨w.heap.size, 2, none⟩ = some (.int .i64 kb) := fun p => cell_at 2 (p.blkE hkb); have k3 : ∀ p : Ext W, p.w.cell? ⟨w.heap.size, 3, none⟩ = some (.string ks) := fun p => cell_at 3 (p.blkE hkb)
  have m1 : ∀ p : Ext W, p.w.cell? ⟨I.s, 1, none⟩ = some (.map (some I.m)) := fun p => cell_at 1 (hS.ext p).st
  go_enter Try.func89, Try.ntmps89
  clear h1
  cases hg : aget l ⟨kd, ka, kb, ks⟩ with
  | none =>
    have hv : handleM L ⟨kd, ka, kb, ks⟩ = ((0, 0), false) := by rw [hg] at hm; simp only [handleM, hm]; rfl
    rw [hv]
    clear hv hm
    go_wp2_with fail
    rw [← hW]
    clear hW
    refine wp_region_ch NoS (by kernel_rfl) (by kernel_rfl) (fun p _ => ?_)
    (repeat (first | (refine wpMix_skip rfl rfl ?_) | (refine wpMix_step (fun K hK => ?_); go_simp; (with_reducible (refine hK _ _ ?_)); clear hK K)))
    refine wpMix_look (K := key_law) (encV := slotV) (k := ⟨kd, ka, kb, ks⟩) (l := l) (c := false) rfl _ _ rfl Try.underlying56 z178 rfl rfl (fun w' ⟨q, hq⟩ => by rw [hq]; exact (hS.ext q).mp) (v := .pointer none) (by rw [hg]; rfl) ?_
    clear hg
    (repeat (first | (refine wpMix_skip rfl rfl ?_) | (refine wpMix_step (fun K hK => ?_); go_simp; (with_reducible (refine hK _ _ ?_)); clear hK K)))
    refine wpMix_nil ?_
    have hnp := p.blkE hn
    have nc0 := cell_at 0 hnp; have nc1 := cell_at 1 hnp; have nf0 := frozen_at 0 hnp; have nf1 := frozen_at 1 hnp
    go_wp2
    refine bodyPost_ret (v := .tuple #[hdV (0, 0), .bool false]) (by simp [results, Try.results89, go_sem, nc0, nc1, nf0, nf1]) rfl ⟨rfl, ?_⟩
    exact fin (fun b => b = w.heap.size + 1) (((p.up (fun b => b = w.heap.size + 1)).set (w.heap.size + 1) 0 _ (fun _ => rfl)).set (w.heap.size + 1) 1 _ (fun _ => rfl)) (fun b hb => by omega)
  | some z =>
    have hz : ∀ p : Ext W, SlotIn p.w z := fun p => (hS.ext p).slots _ (aget_mem hg)
    have hv : handleM L ⟨kd, ka, kb, ks⟩ = ((z.sl, z.gen), true) := by rw [hg] at hm; simp only [handleM, hm]; rfl
    rw [hv]
    clear hv hm
    go_wp2_with fail
    rw [← hW]
    clear hW
    refine wp_region_ch NoS (by kernel_rfl) (by kernel_rfl) (fun p _ => ?_)
    (repeat (first | (refine wpMix_skip rfl rfl ?_) | (refine wpMix_step (fun K hK => ?_); go_simp; (with_reducible (refine hK _ _ ?_)); clear hK K)))
    refine wpMix_look (K := key_law) (encV := slotV) (k := ⟨kd, ka, kb, ks⟩) (l := l) (c := false) rfl _ _ rfl Try.underlying56 z178 rfl rfl (fun w' ⟨q, hq⟩ => by rw [hq]; exact (hS.ext q).mp) (v := .pointer (some ⟨z.x, 0, none⟩)) (by rw [hg]; rfl) ?_
    clear hg
    (repeat (first | (refine wpMix_skip rfl rfl ?_) | (refine wpMix_step (fun K hK => ?_); go_simp; (with_reducible (refine hK _ _ ?_)); clear hK K)))
    refine wpMix_nil ?_
    have hnp := p.blkE hn
    have nc0 := cell_at 0 hnp; have nc1 := cell_at 1 hnp; have nf0 := frozen_at 0 hnp; have nf1 := frozen_at 1 hnp
    have z0 := cell_at 0 (hz p)
    have z1 := cell_at 1 (hz p)
    have hne : z.x ≠ w.heap.size + 1 := blkNe (hz p) hnp (by decide)
    go_wp2
    refine bodyPost_ret (v := .tuple #[hdV (z.sl, z.gen), .bool true]) (by simp [results, Try.results89, go_sem, nc0, nc1, nf0, nf1]) rfl ⟨rfl, ?_⟩
    exact fin (fun b => b = w.heap.size + 1) (((p.up (fun b => b = w.heap.size + 1)).set (w.heap.size + 1) 0 _ (fun _ => rfl)).set (w.heap.size + 1) 1 _ (fun _ => rfl)) (fun b hb => by omega)

set_option maxHeartbeats 800000 in
theorem look_m (I : Ids) (A : ArenaSt) (L : List (Key × Cl)) (F : Nat → Prop) (k : Key) (w : World) (h : StM w I A L F) :
    Calls Try.prog 97 #[.pointer (some ⟨I.s, 0, none⟩), keyV k] w fun e w' => e = .returned (.tuple #[(lookM L k).1, .bool (lookM L k).2]) ∧ ∃ p : Ext w, w' = p.w := by
  obtain ⟨⟨fv, l, h1, h2, h3⟩, h4, h5, h6⟩ := h
  obtain ⟨kd, ka, kb, ks⟩ := k
  obtain ⟨W, hW⟩ : ∃ W, W = (w.alloc (.cells (keyCells kd ka kb ks) 23)).alloc (.cells #[.int .u64 0, .string ⟨#[]⟩, .bool false] 37) := ⟨_, rfl⟩
  have hkb : W.heap[w.heap.size]? = some (.cells (keyCells kd ka kb ks) 23 (0, 0)) := by rw [hW]; exact heap_alloc_blk _ (heap_alloc_at _ _)
  have hn : W.heap[w.heap.size + 1]? = some (.cells #[.int .u64 0, .string ⟨#[]⟩, .bool false] 37 (0, 0)) := by rw [hW]; exact heap_alloc_eq _ (by simp)
  have hS : StoreAt W I fv A l := by rw [hW]; exact (h1.alloc _).alloc _
  have fin : ∀ (S : Nat → Prop) (p : Ch S W) (hS : ∀ b, b < w.heap.size → ¬ S b), ∃ q : Ext w, p.w = q.w := fun S p hS => ⟨(((Ch.refl NoS w).alloc _).alloc _).onto hW p (fun b hb h => hS b hb h), rfl⟩
  have hm : aget L ⟨kd, ka, kb, ks⟩ = (aget l ⟨kd, ka, kb, ks⟩).map Slot.cl := by rw [← h2]; exact aget_map (fun z => Slot.cl z) l _
  have k0 : ∀ p : Ext W, p.w.cell? ⟨w.heap.size, 0, none⟩ = some (.int .i64 kd) := fun p => cell_at 0 (p.blkE hkb); have k1 : ∀ p : Ext W, p.w.cell? ⟨w.heap.size, 1, none⟩ = some (.int .i64 ka) := fun p => cell_at 1 (p.blkE hkb); have k2 : ∀ p : Ext W, p.w.cell? ⟨w.heap.size, 2, none⟩ = some (.int .i64 kb) := fun p => cell_at 2 (p.blkE hkb); have k3 : ∀ p : Ext W, p.w.cell? ⟨w.heap.size, 3, none⟩ = some (.string ks) := fun p => cell_at 3 (p.blkE hkb)
  have m1 : ∀ p : Ext W, p.w.cell? ⟨I.s, 1, none⟩ = some (.map (some I.m)) := fun p => cell_at 1 (hS.ext p).st
  go_enter Try.func97, Try.ntmps97
  clear h1
  cases hg : aget l ⟨kd, ka, kb, ks⟩ with
  | none =>
    have hv : lookM L ⟨kd, ka, kb, ks⟩ = (seenV 0 ⟨#[]⟩ false, false) := by rw [hg] at hm; simp only [lookM, hm]; rfl
    rw [hv]
    clear hv hm
    go_wp2_with fail
    rw [← hW]
    clear hW
    refine wp_region_ch NoS (by kernel_rfl) (by kernel_rfl) (fun p _ => ?_)
    (repeat (first | (refine wpMix_skip rfl rfl ?_) | (refine wpMix_step (fun K hK => ?_); go_simp; (with_reducible (refine hK _ _ ?_)); clear hK K)))
    refine wpMix_look (K := key_law) (encV := slotV) (k := ⟨kd, ka, kb, ks⟩) (l := l) (c := false) rfl _ _ rfl Try.underlying56 z178 rfl rfl (fun w' ⟨q, hq⟩ => by rw [hq]; exact (hS.ext q).mp) (v := .pointer none) (by rw [hg]; rfl) ?_
    clear hg
    (repeat (first | (refine wpMix_skip rfl rfl ?_) | (refine wpMix_step (fun K hK => ?_); go_simp; (with_reducible (refine hK _ _ ?_)); clear hK K)))
    refine wpMix_nil ?_
    have hnp := p.blkE hn
    have nc0 := cell_at 0 hnp; have nc1 := cell_at 1 hnp; have nc2 := cell_at 2 hnp; have nf0 := frozen_at 0 hnp; have nf1 := frozen_at 1 hnp; have nf2 := frozen_at 2 hnp
    go_wp2
    refine bodyPost_ret (v := .tuple #[seenV 0 ⟨#[]⟩ false, .bool false]) (by simp [results, Try.results97, go_sem, nc0, nc1, nc2, nf0, nf1, nf2]) rfl ⟨rfl, ?_⟩
    exact fin (fun b => b = w.heap.size + 1) ((((p.up (fun b => b = w.heap.size + 1)).set (w.heap.size + 1) 0 _ (fun _ => rfl)).set (w.heap.size + 1) 1 _ (fun _ => rfl)).set (w.heap.size + 1) 2 _ (fun _ => rfl)) (fun b hb => by omega)
  | some z =>
    have hz : ∀ p : Ext W, SlotIn p.w z := fun p => (hS.ext p).slots _ (aget_mem hg)
    have hv : lookM L ⟨kd, ka, kb, ks⟩ = (seenV (stampZ z.wd) z.text (!goneB z.wd), true) := by rw [hg] at hm; simp only [lookM, hm]; rfl
    rw [hv]
    clear hv hm
    go_wp2_with fail
    rw [← hW]
    clear hW
    refine wp_region_ch NoS (by kernel_rfl) (by kernel_rfl) (fun p _ => ?_)
    (repeat (first | (refine wpMix_skip rfl rfl ?_) | (refine wpMix_step (fun K hK => ?_); go_simp; (with_reducible (refine hK _ _ ?_)); clear hK K)))
    refine wpMix_look (K := key_law) (encV := slotV) (k := ⟨kd, ka, kb, ks⟩) (l := l) (c := false) rfl _ _ rfl Try.underlying56 z178 rfl rfl (fun w' ⟨q, hq⟩ => by rw [hq]; exact (hS.ext q).mp) (v := .pointer (some ⟨z.x, 0, none⟩)) (by rw [hg]; rfl) ?_
    clear hg
    (repeat (first | (refine wpMix_skip rfl rfl ?_) | (refine wpMix_step (fun K hK => ?_); go_simp; (with_reducible (refine hK _ _ ?_)); clear hK K)))
    refine wpMix_nil ?_
    go_wp2_with fail
    go_at_call 122
    refine (slotSeen_any _ _ _ _ _ _ _ (hz p)).mono ?_
    rintro e w' ⟨rfl, q, rfl⟩
    have hnp := q.blkE (p.blkE hn)
    have nc0 := cell_at 0 hnp; have nc1 := cell_at 1 hnp; have nc2 := cell_at 2 hnp; have nf0 := frozen_at 0 hnp; have nf1 := frozen_at 1 hnp; have nf2 := frozen_at 2 hnp
    go_wp2
    refine bodyPost_ret (v := .tuple #[seenV (stampZ z.wd) z.text (!goneB z.wd), .bool true]) (by simp [results, Try.results97, go_sem, nc0, nc1, nc2, nf0, nf1, nf2]) rfl ⟨rfl, ?_⟩
    exact fin (fun b => b = w.heap.size + 1) (((((p.thenE q).up (fun b => b = w.heap.size + 1)).set (w.heap.size + 1) 0 _ (fun _ => rfl)).set (w.heap.size + 1) 1 _ (fun _ => rfl)).set (w.heap.size + 1) 2 _ (fun _ => rfl)) (fun b hb => by omega)
end Go.Proofs.Cob
