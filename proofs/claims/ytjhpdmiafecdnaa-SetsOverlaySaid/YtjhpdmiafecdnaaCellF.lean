/-
  The cells' store (layer 9), sixth part: Lock's walks.
-/
import Derived.Test.YtjhpdmiafecdnaaCellE
namespace Go.Proofs.Cob
open Go Go.RowKit Go.Cob
set_option linter.unusedSimpArgs false
set_option linter.unusedVariables false

set_option maxHeartbeats 800000 in
theorem lock_busy (I : Ids) (fv : Value) (A : ArenaSt) (l : List (Key × Slot)) (kd ka kb : Int) (ks : ByteArray) (who : Int) (w : World) (z : Slot) (h : StoreAt w I fv A l) (hg : aget l ⟨kd, ka, kb, ks⟩ = some z) (hf : freeB z.wd = false) :
    Calls Try.prog 25 #[.pointer (some ⟨I.s, 0, none⟩), .agg #[.int .i64 kd, .int .i64 ka, .int .i64 kb, .string ks], .int .i64 who] w fun e w' =>
      e = .returned (.tuple #[.int .u64 0, .int .i64 60]) ∧ ∃ p : Ext w, w' = p.w := by
  obtain ⟨W, hW⟩ : ∃ W, W = w.alloc (.cells (keyCells kd ka kb ks) 23) := ⟨_, rfl⟩; have hkb : W.heap[w.heap.size]? = some (.cells (keyCells kd ka kb ks) 23 (0, 0)) := (by rw [hW]; exact heap_alloc_at _ _); have hS : StoreAt W I fv A l := (by rw [hW]; exact h.alloc _)
  have fin : ∀ p : Ext W, ∃ q : Ext w, p.w = q.w := fun p => ⟨((Ch.refl NoS w).alloc _).onto hW p (fun b hb h => h), rfl⟩
  have k0 : ∀ p : Ext W, p.w.cell? ⟨w.heap.size, 0, none⟩ = some (.int .i64 kd) := fun p => cell_at 0 (p.blkE hkb); have k1 : ∀ p : Ext W, p.w.cell? ⟨w.heap.size, 1, none⟩ = some (.int .i64 ka) := fun p => cell_at 1 (p.blkE hkb); have k2 : ∀ p : Ext W, p.w.cell? ⟨w.heap.size, 2, none⟩ = some (.int .i64 kb) := fun p => cell_at 2 (p.blkE hkb); have k3 : ∀ p : Ext W, p.w.cell? ⟨w.heap.size, 3, none⟩ = some (.string ks) := fun p => cell_at 3 (p.blkE hkb)
  have m1 : ∀ p : Ext W, p.w.cell? ⟨I.s, 1, none⟩ = some (.map (some I.m)) := fun p => cell_at 1 (hS.ext p).st
  go_enter Try.func25, Try.ntmps25
  clear h
  go_wp2_with fail
  rw [← hW]
  clear hW
  refine wp_region_ch NoS (by kernel_rfl) (by kernel_rfl) (fun p _ => ?_)
  (repeat (first | (refine wpMix_skip rfl rfl ?_) | (refine wpMix_step (fun K hK => ?_); go_simp; (with_reducible (refine hK _ _ ?_)); clear hK K)))
  refine wpMix_look (K := key_law) (encV := slotV) (k := ⟨kd, ka, kb, ks⟩) (l := l) (c := false) rfl _ _ rfl Try.underlying56 z178 rfl rfl (fun w' ⟨q, hq⟩ => by rw [hq]; exact (hS.ext q).mp) (v := .pointer (some ⟨z.x, 0, none⟩)) (by rw [hg]; rfl) ?_
  (repeat (first | (refine wpMix_skip rfl rfl ?_) | (refine wpMix_step (fun K hK => ?_); go_simp; (with_reducible (refine hK _ _ ?_)); clear hK K)))
  refine wpMix_nil ?_
  have hz := (hS.ext p).slots _ (aget_mem hg)
  have z2 := cell_at 2 hz
  clear hg k0 k1 k2 k3 m1
  go_wp2_with (go_at_call 118; go_must (refine (lock_any _ _).mono ?_); rintro e w' ⟨rfl, rfl⟩; rw [hf])
  go_ret2
  exact ⟨rfl, fin p⟩

set_option maxHeartbeats 800000 in
theorem lock_old (I : Ids) (fv : Value) (A : ArenaSt) (l : List (Key × Slot)) (kd ka kb : Int) (ks : ByteArray) (who : Int) (w : World) (z : Slot) (h : StoreAt w I fv A l) (hg : aget l ⟨kd, ka, kb, ks⟩ = some z) (hf : freeB z.wd = true) :
    Calls Try.prog 25 #[.pointer (some ⟨I.s, 0, none⟩), .agg #[.int .i64 kd, .int .i64 ka, .int .i64 kb, .string ks], .int .i64 who] w fun e w' =>
      e = .returned (.tuple #[.int .u64 (stampZ (lockZ z.wd)), .int .i64 0]) ∧ ∃ p : Ch (fun b => b = z.x) w, w' = p.w ∧ StoreAt p.w I fv A (aput l ⟨kd, ka, kb, ks⟩ { z with wd := lockZ z.wd, who := who }) := by
  obtain ⟨W, hW⟩ : ∃ W, W = w.alloc (.cells (keyCells kd ka kb ks) 23) := ⟨_, rfl⟩; have hkb : W.heap[w.heap.size]? = some (.cells (keyCells kd ka kb ks) 23 (0, 0)) := (by rw [hW]; exact heap_alloc_at _ _); have hS : StoreAt W I fv A l := (by rw [hW]; exact h.alloc _)
  have fin : ∀ p : Ch (fun b => b = z.x) W, ∃ q : Ch (fun b => b = z.x) w, p.w = q.w := fun p => ⟨((Ch.refl _ w).alloc _).onto hW p (fun b hb h => h), rfl⟩
  have k0 : ∀ p : Ext W, p.w.cell? ⟨w.heap.size, 0, none⟩ = some (.int .i64 kd) := fun p => cell_at 0 (p.blkE hkb); have k1 : ∀ p : Ext W, p.w.cell? ⟨w.heap.size, 1, none⟩ = some (.int .i64 ka) := fun p => cell_at 1 (p.blkE hkb); have k2 : ∀ p : Ext W, p.w.cell? ⟨w.heap.size, 2, none⟩ = some (.int .i64 kb) := fun p => cell_at 2 (p.blkE hkb); have k3 : ∀ p : Ext W, p.w.cell? ⟨w.heap.size, 3, none⟩ = some (.string ks) := fun p => cell_at 3 (p.blkE hkb)
  have m1 : ∀ p : Ext W, p.w.cell? ⟨I.s, 1, none⟩ = some (.map (some I.m)) := fun p => cell_at 1 (hS.ext p).st
  go_enter Try.func25, Try.ntmps25
  clear h
  go_wp2_with fail
  rw [← hW]
  clear hW
  refine wp_region_ch NoS (by kernel_rfl) (by kernel_rfl) (fun p _ => ?_)
  (repeat (first | (refine wpMix_skip rfl rfl ?_) | (refine wpMix_step (fun K hK => ?_); go_simp; (with_reducible (refine hK _ _ ?_)); clear hK K)))
  refine wpMix_look (K := key_law) (encV := slotV) (k := ⟨kd, ka, kb, ks⟩) (l := l) (c := false) rfl _ _ rfl Try.underlying56 z178 rfl rfl (fun w' ⟨q, hq⟩ => by rw [hq]; exact (hS.ext q).mp) (v := .pointer (some ⟨z.x, 0, none⟩)) (by rw [hg]; rfl) ?_
  (repeat (first | (refine wpMix_skip rfl rfl ?_) | (refine wpMix_step (fun K hK => ?_); go_simp; (with_reducible (refine hK _ _ ?_)); clear hK K)))
  refine wpMix_nil ?_
  have hz := (hS.ext p).slots _ (aget_mem hg)
  have z2 := cell_at 2 hz
  have z4 := cell_at 4 hz
  have f2 := frozen_at 2 hz
  have f4 := frozen_at 4 hz
  have Hg : Hid (aget l ⟨kd, ka, kb, ks⟩ = some z) := hg
  clear hg k0 k1 k2 k3 m1
  go_wp2_with (first
    | (go_at_call 118; go_must (refine (lock_any _ _).mono ?_); rintro e w' ⟨rfl, rfl⟩; rw [hf])
    | (go_at_call 119; go_must (refine (stamp_any _ _).mono ?_); rintro e w' ⟨rfl, rfl⟩))
  go_ret2
  obtain ⟨r, hr⟩ := fin (((p.up (fun b => b = z.x)).set z.x 2 (.int .u64 (lockZ z.wd)) (fun _ => rfl)).set z.x 4 (.int .i64 who) (fun _ => rfl))
  refine ⟨rfl, r, hr, hr ▸ ?_⟩
  have := (hS.ext p).setSlot (z' := { z with wd := lockZ z.wd, who := who }) Hg.out rfl (((Ch.refl (fun b => b = z.x) p.w).set z.x 2 (.int .u64 (lockZ z.wd)) (fun _ => rfl)).set z.x 4 (.int .i64 who) (fun _ => rfl)) ?_
  · exact this
  · have := heap_set_same (heap_set_same hz 2 (.int .u64 (lockZ z.wd))) 4 (.int .i64 who)
    simpa using this

set_option maxHeartbeats 800000 in
theorem lock_full (I : Ids) (fv : Value) (A : ArenaSt) (l : List (Key × Slot)) (kd ka kb : Int) (ks : ByteArray) (who : Int) (w : World) (h : StoreAt w I fv A l) (hg : aget l ⟨kd, ka, kb, ks⟩ = none) (h0 : 0 ≤ A.fresh) (h1 : A.fresh < 2000000) (ht : takeA A = none) :
    Calls Try.prog 25 #[.pointer (some ⟨I.s, 0, none⟩), .agg #[.int .i64 kd, .int .i64 ka, .int .i64 kb, .string ks], .int .i64 who] w fun e w' =>
      e = .returned (.tuple #[.int .u64 0, .int .i64 50]) ∧ ∃ p : Ext w, w' = p.w := by
  obtain ⟨W, hW⟩ : ∃ W, W = w.alloc (.cells (keyCells kd ka kb ks) 23) := ⟨_, rfl⟩; have hkb : W.heap[w.heap.size]? = some (.cells (keyCells kd ka kb ks) 23 (0, 0)) := (by rw [hW]; exact heap_alloc_at _ _); have hS : StoreAt W I fv A l := (by rw [hW]; exact h.alloc _)
  have fin : ∀ p : Ext W, ∃ q : Ext w, p.w = q.w := fun p => ⟨((Ch.refl NoS w).alloc _).onto hW p (fun b hb h => h), rfl⟩
  have k0 : ∀ p : Ext W, p.w.cell? ⟨w.heap.size, 0, none⟩ = some (.int .i64 kd) := fun p => cell_at 0 (p.blkE hkb); have k1 : ∀ p : Ext W, p.w.cell? ⟨w.heap.size, 1, none⟩ = some (.int .i64 ka) := fun p => cell_at 1 (p.blkE hkb); have k2 : ∀ p : Ext W, p.w.cell? ⟨w.heap.size, 2, none⟩ = some (.int .i64 kb) := fun p => cell_at 2 (p.blkE hkb); have k3 : ∀ p : Ext W, p.w.cell? ⟨w.heap.size, 3, none⟩ = some (.string ks) := fun p => cell_at 3 (p.blkE hkb)
  have m1 : ∀ p : Ext W, p.w.cell? ⟨I.s, 1, none⟩ = some (.map (some I.m)) := fun p => cell_at 1 (hS.ext p).st
  go_enter Try.func25, Try.ntmps25
  clear h
  go_wp2_with fail
  rw [← hW]
  clear hW
  refine wp_region_ch NoS (by kernel_rfl) (by kernel_rfl) (fun p _ => ?_)
  (repeat (first | (refine wpMix_skip rfl rfl ?_) | (refine wpMix_step (fun K hK => ?_); go_simp; (with_reducible (refine hK _ _ ?_)); clear hK K)))
  refine wpMix_look (K := key_law) (encV := slotV) (k := ⟨kd, ka, kb, ks⟩) (l := l) (c := false) rfl _ _ rfl Try.underlying56 z178 rfl rfl (fun w' ⟨q, hq⟩ => by rw [hq]; exact (hS.ext q).mp) (v := .pointer none) (by rw [hg]; rfl) ?_
  (repeat (first | (refine wpMix_skip rfl rfl ?_) | (refine wpMix_step (fun K hK => ?_); go_simp; (with_reducible (refine hK _ _ ?_)); clear hK K)))
  refine wpMix_nil ?_
  have m0 := cell_at 0 (hS.ext p).st
  clear hg k0 k1 k2 k3 m1
  go_wp2_with (go_at_call 116; go_must (refine ((take_any _ _ _ _ _ _ (hS.ext p).ar h0 h1).1 ht).mono ?_); rintro e w' ⟨rfl, q, rfl⟩)
  go_ret2
  exact ⟨rfl, fin ((p.thenE q).alloc _)⟩

/-- The blocks of a store that its own functions write. -/
def Own (I : Ids) (fv : Value) (l : List (Key × Slot)) (b : Nat) : Prop := Foot I fv l b

/-- What a new cell is, locked. -/
def newSlot (x : Nat) (A : ArenaSt) (s who : Int) : Slot := ⟨x, s, genOf A s, lockZ (absentZ 0 true), ⟨#[]⟩, who⟩

theorem free_new : freeB (absentZ 0 true) = true := by decide +kernel

set_option maxHeartbeats 1600000 in
theorem lock_new (I : Ids) (fv : Value) (A A' : ArenaSt) (l : List (Key × Slot)) (kd ka kb : Int) (ks : ByteArray) (who s : Int) (w : World) (h : StoreAt w I fv A l) (hg : aget l ⟨kd, ka, kb, ks⟩ = none) (h0 : 0 ≤ A.fresh) (h1 : A.fresh < 2000000) (ht : takeA A = some (s, A')) :
    Calls Try.prog 25 #[.pointer (some ⟨I.s, 0, none⟩), .agg #[.int .i64 kd, .int .i64 ka, .int .i64 kb, .string ks], .int .i64 who] w fun e w' =>
      e = .returned (.tuple #[.int .u64 (stampZ (lockZ (absentZ 0 true))), .int .i64 0]) ∧ ∃ p : Ch (fun b => b = I.a ∨ b = I.t ∨ b = I.m) w, w' = p.w ∧ ∃ fv' x, fv'.ownBlock = fv.ownBlock ∧ w.heap.size ≤ x ∧ x < p.w.heap.size ∧
        StoreAt p.w I fv' A' (aput l ⟨kd, ka, kb, ks⟩ (newSlot x A s who)) := by
  obtain ⟨W, hW⟩ : ∃ W, W = w.alloc (.cells (keyCells kd ka kb ks) 23) := ⟨_, rfl⟩; have hkb : W.heap[w.heap.size]? = some (.cells (keyCells kd ka kb ks) 23 (0, 0)) := (by rw [hW]; exact heap_alloc_at _ _); have hS : StoreAt W I fv A l := (by rw [hW]; exact h.alloc _)
  have fin : ∀ p : Ch (fun b => b = I.a ∨ b = I.t ∨ b = I.m ∨ w.heap.size ≤ b) W, ∃ q : Ch (fun b => b = I.a ∨ b = I.t ∨ b = I.m) w, p.w = q.w := fun p => ⟨((Ch.refl _ w).alloc _).onto hW p (fun b hb h => by rcases h with h | h | h | h; exact .inl h; exact .inr (.inl h); exact .inr (.inr h); omega), rfl⟩
  have hWs : W.heap.size = w.heap.size + 1 := by rw [hW]; simp
  have k0 : ∀ p : Ext W, p.w.cell? ⟨w.heap.size, 0, none⟩ = some (.int .i64 kd) := fun p => cell_at 0 (p.blkE hkb); have k1 : ∀ p : Ext W, p.w.cell? ⟨w.heap.size, 1, none⟩ = some (.int .i64 ka) := fun p => cell_at 1 (p.blkE hkb); have k2 : ∀ p : Ext W, p.w.cell? ⟨w.heap.size, 2, none⟩ = some (.int .i64 kb) := fun p => cell_at 2 (p.blkE hkb); have k3 : ∀ p : Ext W, p.w.cell? ⟨w.heap.size, 3, none⟩ = some (.string ks) := fun p => cell_at 3 (p.blkE hkb)
  have m1 : ∀ p : Ext W, p.w.cell? ⟨I.s, 1, none⟩ = some (.map (some I.m)) := fun p => cell_at 1 (hS.ext p).st
  go_enter Try.func25, Try.ntmps25
  clear h
  go_wp2_with fail
  rw [← hW]
  have HWs : Hid (W.heap.size = w.heap.size + 1) := hWs
  clear hW hWs
  refine wp_region_ch NoS (by kernel_rfl) (by kernel_rfl) (fun p hp0 => ?_)
  (repeat (first | (refine wpMix_skip rfl rfl ?_) | (refine wpMix_step (fun K hK => ?_); go_simp; (with_reducible (refine hK _ _ ?_)); clear hK K)))
  refine wpMix_look (K := key_law) (encV := slotV) (k := ⟨kd, ka, kb, ks⟩) (l := l) (c := false) rfl _ _ rfl Try.underlying56 z178 rfl rfl (fun w' ⟨q, hq⟩ => by rw [hq]; exact (hS.ext q).mp) (v := .pointer none) (by rw [hg]; rfl) ?_
  (repeat (first | (refine wpMix_skip rfl rfl ?_) | (refine wpMix_step (fun K hK => ?_); go_simp; (with_reducible (refine hK _ _ ?_)); clear hK K)))
  refine wpMix_nil ?_
  have m0 := cell_at 0 (hS.ext p).st
  have Hg : Hid (aget l ⟨kd, ka, kb, ks⟩ = none) := hg
  clear hg k0 k1 k2 k3 m1 hp0
  go_wp2_with (go_at_call 116; go_must (refine ((take_any _ _ _ _ _ _ (hS.ext p).ar h0 h1).2 _ _ ht).mono ?_); rintro e w' ⟨rfl, q, rfl, fv', hfv, hA⟩)
  have hsz2 : w.heap.size < q.w.heap.size := by have := q.size; have := p.size; have := HWs.out; omega
  have hkq : q.w.heap[w.heap.size]? = some (.cells (keyCells kd ka kb ks) 23 (0, 0)) := q.blk (p.blkE hkb) (by intro e; rcases e with e | e; exact blkNe (p.blkE hkb) (hS.ext p).ar.1 (by decide) e; exact (hS.ext p).ar.2.2.1.ne_cells (p.blkE hkb) e.symm)
  have hSq := (hS.ext p).arena q hA
  have finq : ∀ r : Ch (fun b => b = I.a ∨ b = I.t ∨ b = I.m ∨ w.heap.size ≤ b) q.w, ∃ q : Ch (fun b => b = I.a ∨ b = I.t ∨ b = I.m) w, r.w = q.w := fun r =>
    fin (((p.up (fun b => b = I.a ∨ b = I.t ∨ b = I.m ∨ w.heap.size ≤ b)).then q (fun _ _ h => by rcases h with h | h; exact .inl h; exact .inr (.inl h))).then r (fun _ _ h => h))
  clear hA fin hS hkb HWs ht m0
  generalize q.w = Wq at hsz2 hkq hSq finq ⊢
  clear q p W
  obtain ⟨W2, hW2⟩ : ∃ W2, W2 = Wq.alloc (.cells #[.int .i64 s, .int .i64 (genOf A s)] 143) := ⟨_, rfl⟩
  have hk2 : W2.heap[w.heap.size]? = some (.cells (keyCells kd ka kb ks) 23 (0, 0)) := by rw [hW2]; exact heap_alloc_blk _ hkq
  have hh2 : W2.heap[Wq.heap.size]? = some (.cells #[.int .i64 s, .int .i64 (genOf A s)] 143 (0, 0)) := by rw [hW2]; exact heap_alloc_at _ _
  have hS2 : StoreAt W2 I fv' A' l := by rw [hW2]; exact hSq.alloc _
  have fin2 : ∀ r : Ch (fun b => b = I.a ∨ b = I.t ∨ b = I.m ∨ w.heap.size ≤ b) W2, ∃ q : Ch (fun b => b = I.a ∨ b = I.t ∨ b = I.m) w, r.w = q.w := fun r => finq (((Ch.refl _ Wq).alloc _).onto hW2 r (fun _ _ h => h))
  have hsz3 : w.heap.size < W2.heap.size := by rw [hW2]; simp; omega
  rw [← hW2]
  clear hkq hSq finq hW2
  have h0' : ∀ r : Ext W2, r.w.cell? ⟨Wq.heap.size, 0, none⟩ = some (.int .i64 s) := fun r => cell_at 0 (r.blkE hh2)
  have h1' : ∀ r : Ext W2, r.w.cell? ⟨Wq.heap.size, 1, none⟩ = some (.int .i64 (genOf A s)) := fun r => cell_at 1 (r.blkE hh2)
  refine wp_region_ch NoS (by kernel_rfl) (by kernel_rfl) (fun r hr0 => ?_)
  have hr1 : r.w.heap.size = W2.heap.size := by rw [hr0]
  have Hr0 : Hid (r.w.heap.size = W2.heap.size) := hr1
  clear hr0 hr1
  (repeat (first | (refine wpMix_skip rfl rfl ?_) | (refine wpMix_step (fun K hK => ?_); go_simp; (with_reducible (refine hK _ _ ?_)); clear hK K)))
  refine wpMix_step (fun K hK => ?_); go_simp; refine (absent_any 0 true _).mono ?_; rintro e w' ⟨rfl, rfl⟩; refine ⟨⟨r, rfl⟩, hK _ _ ?_⟩; clear hK K
  (repeat (first | (refine wpMix_skip rfl rfl ?_) | (refine wpMix_step (fun K hK => ?_); go_simp; (with_reducible (refine hK _ _ ?_)); clear hK K)))
  refine wpMix_step (fun K hK => ?_); go_simp
  refine ⟨⟨r.alloc _, rfl⟩, hK _ _ ?_⟩; clear hK K
  (repeat (first | (refine wpMix_skip rfl rfl ?_) | (refine wpMix_step (fun K hK => ?_); go_simp; (with_reducible (refine hK _ _ ?_)); clear hK K)))
  refine wpMix_nil ?_
  clear h0' h1'
  obtain ⟨W3, hW3⟩ : ∃ W3, W3 = r.w.alloc (.cells (slotCells s (genOf A s) (absentZ 0 true) ⟨#[]⟩ 0) 183) := ⟨_, rfl⟩
  obtain ⟨x, hx⟩ : ∃ x, x = r.w.heap.size := ⟨_, rfl⟩
  have hk3 : W3.heap[w.heap.size]? = some (.cells (keyCells kd ka kb ks) 23 (0, 0)) := by rw [hW3]; exact heap_alloc_blk _ (r.blkE hk2)
  have hz3 : SlotIn W3 ⟨x, s, genOf A s, absentZ 0 true, ⟨#[]⟩, 0⟩ := by rw [hW3, hx]; exact heap_alloc_at _ _
  have hS3 : StoreAt W3 I fv' A' l := by rw [hW3]; exact (hS2.ext r).alloc _
  have hxl : ∀ p ∈ l, p.2.x ≠ x := fun p hp => by have := lt_of_blk ((hS2.ext r).slots p hp); rw [hx]; omega
  have hxw : w.heap.size ≤ x ∧ x < W3.heap.size := by rw [hx, hW3]; have := r.size; simp; omega
  have fin3 : ∀ q : Ch (fun b => b = I.a ∨ b = I.t ∨ b = I.m ∨ w.heap.size ≤ b) W3, ∃ q' : Ch (fun b => b = I.a ∨ b = I.t ∨ b = I.m) w, q.w = q'.w := fun q => fin2 (((r.up _).alloc _).onto hW3 q (fun _ _ h => h))
  clear fin2 hS2 hk2 hh2 hsz3
  rw [← hx, ← hW3]
  clear hW3 hx Hr0
  clear r
  have k0 : ∀ q : Ch (fun b => b = I.m) W3, q.w.cell? ⟨w.heap.size, 0, none⟩ = some (.int .i64 kd) := fun q => cell_at 0 (q.blk hk3 (fun e => hS3.mp.ne_cells hk3 e.symm))
  have k1 : ∀ q : Ch (fun b => b = I.m) W3, q.w.cell? ⟨w.heap.size, 1, none⟩ = some (.int .i64 ka) := fun q => cell_at 1 (q.blk hk3 (fun e => hS3.mp.ne_cells hk3 e.symm))
  have k2 : ∀ q : Ch (fun b => b = I.m) W3, q.w.cell? ⟨w.heap.size, 2, none⟩ = some (.int .i64 kb) := fun q => cell_at 2 (q.blk hk3 (fun e => hS3.mp.ne_cells hk3 e.symm))
  have k3 : ∀ q : Ch (fun b => b = I.m) W3, q.w.cell? ⟨w.heap.size, 3, none⟩ = some (.string ks) := fun q => cell_at 3 (q.blk hk3 (fun e => hS3.mp.ne_cells hk3 e.symm))
  have m1 : ∀ q : Ch (fun b => b = I.m) W3, q.w.cell? ⟨I.s, 1, none⟩ = some (.map (some I.m)) := fun q => cell_at 1 (q.blk hS3.st (fun e => hS3.mp.ne_cells hS3.st e.symm))
  go_wp2_with fail
  refine wp_region_ch (fun b => b = I.m) (by kernel_rfl) (by kernel_rfl) (fun q hq => ?_)
  have hSq : StoreAt q.w I fv' A' l := hS3.keep (fun b _ => by rw [hq])
  have hzq : SlotIn q.w ⟨x, s, genOf A s, absentZ 0 true, ⟨#[]⟩, 0⟩ := by show q.w.heap[x]? = _; rw [hq]; exact hz3
  have hsq : q.w.heap.size = W3.heap.size := by rw [hq]
  have Hsq : Hid (q.w.heap.size = W3.heap.size) := hsq
  clear hq hsq
  (repeat (first | (refine wpMix_skip rfl rfl ?_) | (refine wpMix_step (fun K hK => ?_); go_simp; (with_reducible (refine hK _ _ ?_)); clear hK K)))
  refine wpMix_put (K := key_law) (encV := slotV) (k := ⟨kd, ka, kb, ks⟩) (u := ⟨x, s, genOf A s, absentZ 0 true, ⟨#[]⟩, 0⟩) (l := l) rfl _ _ _ rfl Try.underlying56 rfl rfl rfl hSq.mp (fun ob hM => ⟨⟨q.putO I.m ob (fun _ => rfl), rfl⟩, ?_⟩)
  have hS4 := hSq.insert Hg.out hzq hxl hM
  have hz4 := hS4.slots (⟨kd, ka, kb, ks⟩, ⟨x, s, genOf A s, absentZ 0 true, ⟨#[]⟩, 0⟩) (by rw [aput_new Hg.out]; simp)
  have fin4 : ∀ r : Ch (fun b => b = x) (putO q.w I.m ob), ∃ q' : Ch (fun b => b = I.a ∨ b = I.t ∨ b = I.m) w, r.w = q'.w := fun r => fin3 ((((q.mono (T := (fun b => b = I.a ∨ b = I.t ∨ b = I.m ∨ w.heap.size ≤ b)) (fun b _ h => .inr (.inr (.inl h)))).putO I.m ob (fun _ => .inr (.inr (.inl rfl)))).then r (fun b _ h => .inr (.inr (.inr (h ▸ hxw.1))))))
  have hsz4 : x < (putO q.w I.m ob).heap.size := by rw [putO_size, Hsq.out]; exact hxw.2
  refine wpMix_nil ?_
  clear k0 k1 k2 k3 m1 hM hSq hzq fin3 hz3 hS3 hk3 Hsq
  generalize putO q.w I.m ob = W4 at hS4 hz4 fin4 hsz4 ⊢
  have y2 := cell_at 2 hz4
  have y4 := cell_at 4 hz4
  have f2 := frozen_at 2 hz4
  have f4 := frozen_at 4 hz4
  go_wp2_with (first
    | (go_at_call 118; go_must (refine (lock_any _ _).mono ?_); rintro e w' ⟨rfl, rfl⟩; rw [free_new])
    | (go_at_call 119; go_must (refine (stamp_any _ _).mono ?_); rintro e w' ⟨rfl, rfl⟩))
  go_ret2
  obtain ⟨r, hr⟩ := fin4 (((Ch.refl (fun b => b = x) W4).set x 2 (.int .u64 (lockZ (absentZ 0 true))) (fun _ => rfl)).set x 4 (.int .i64 who) (fun _ => rfl))
  refine ⟨rfl, r, hr, fv', x, hfv, hxw.1, ?_, hr ▸ ?_⟩
  · rw [← hr]; simpa using hsz4
  · have := hS4.setSlot (k := ⟨kd, ka, kb, ks⟩) (z := ⟨x, s, genOf A s, absentZ 0 true, ⟨#[]⟩, 0⟩) (z' := newSlot x A s who) (by rw [aget_aput, if_pos rfl]) rfl (((Ch.refl (fun b => b = x) W4).set x 2 (.int .u64 (lockZ (absentZ 0 true))) (fun _ => rfl)).set x 4 (.int .i64 who) (fun _ => rfl)) ?_
    · rw [aput_aput] at this; exact this
    · have := heap_set_same (heap_set_same hz4 2 (.int .u64 (lockZ (absentZ 0 true)))) 4 (.int .i64 who)
      simpa [newSlot] using this
end Go.Proofs.Cob
