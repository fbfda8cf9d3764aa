/-
  The cells' store (layer 9): Handle and Look.
-/
import Derived.Test.YtjhpdmiafecdnaaCellI
namespace Go.Proofs.Cob
open Go Go.RowKit Go.Cob
set_option linter.unusedSimpArgs false
set_option linter.unusedVariables false

def handleM (L : List (Key × Cl)) (k : Key) : (Int × Int) × Bool := match aget L k with | none => ((0, 0), false) | some z => ((z.sl, z.gen), true)
def lookM (L : List (Key × Cl)) (k : Key) : Value × Bool := match aget L k with | none => (seenV 0 ⟨#[]⟩ false, false) | some z => (seenV (stampZ z.wd) z.text (!goneB z.wd), true)
abbrev hdV (p : Int × Int) : Value := .agg #[.int .i64 p.1, .int .i64 p.2]

set_option maxHeartbeats 800000 in
theorem handle_m (I : Ids) (A : ArenaSt) (L : List (Key × Cl)) (F : Nat → Prop) (k : Key) (w : World) (h : StM w I A L F) :
    Calls Try.prog 89 #[.pointer (some ⟨I.s, 0, none⟩), keyV k] w fun e w' => e = .returned (.tuple #[hdV (handleM L k).1, .bool (handleM L k).2]) ∧ ∃ p : Ext w, w' = p.w := by
  obtain ⟨⟨fv, l, h1, h2, h3⟩, h4, h5, h6⟩ := h
  obtain ⟨kd, ka, kb, ks⟩ := k
  obtain ⟨W, hW⟩ : ∃ W, W = (w.alloc (.cells (keyCells kd ka kb ks) 23)).alloc (.cells #[.int .i64 0, .int .i64 0] 143) := ⟨_, rfl⟩
  have hkb : W.heap[w.heap.size]? = some (.cells (keyCells kd ka kb ks) 23 (0, 0)) := by rw [hW]; exact heap_alloc_blk _ (heap_alloc_at _ _)
  have hn : W.heap[w.heap.size + 1]? = some (.cells #[.int .i64 0, .int .i64 0] 143 (0, 0)) := by rw [hW]; exact heap_alloc_eq _ (by simp)
  have hS : StoreAt W I fv A l := by rw [hW]; exact (h1.alloc _).alloc _
  have fin : ∀ (S : Nat → Prop) (p : Ch S W) (hS : ∀ b, b < w.heap.size → ¬ S b), ∃ q : Ext w, p.w = q.w := fun S p hS => ⟨(((Ch.refl NoS w).alloc _).alloc _).onto hW p (fun b hb h => hS b hb h), rfl⟩
  have hm : aget L ⟨kd, ka, kb, ks⟩ = (aget l ⟨kd, ka, kb, ks⟩).map Slot.cl := by rw [← h2]; exact aget_map (fun z => Slot.cl z) l _
  have k0 : ∀ p : Ext W, p.w.cell? ⟨w.heap.size, 0, none⟩ = some (.int .i64 kd) := fun p => cell_at 0 (p.blkE hkb); have k1 : ∀ p : Ext W, p.w.cell? ⟨w.heap.size, 1, none⟩ = some (.int .i64 ka) := fun p => cell_at 1 (p.blkE hkb); have k2 : ∀ p : Ext W, p.w.cell? ⟨w.heap.size, 2, none⟩ = some (.int .i64 kb) := fun p => cell_at 2 (p.blkE hkb); have k3 : ∀ p : Ext W, p.w.cell? ⟨w.heap.size, 3, none⟩ = some (.string ks) := fun p => cell_at 3 (p.blkE hkb)
  have m1 : ∀ p : Ext W, p.w.cell? ⟨I.s, 1, none⟩ = some (.map (some I.m)) := fun p => cell_at 1 (hS.ext p).st
  go_enter Try.func89, Try.ntmps89
  clear h1
  cases hg : aget l ⟨kd, ka, kb, ks⟩ with
  | none =>
    have hv : handleM L ⟨kd, ka, kb, ks⟩ = ((0, 0), false) := by rw [hg] at hm; simp only [handleM, hm]; rfl
    rw [hv]
    clear hv hm
    go_wp2_with fail
    rw [← hW]
    clear hW
    refine wp_region_ch NoS (by kernel_rfl) (by kernel_rfl) (fun p _ => ?_)
    (repeat (first | (refine wpMix_skip rfl rfl ?_) | (refine wpMix_step (fun K hK => ?_); go_simp; (with_reducible (refine hK _ _ ?_)); clear hK K)))
    refine wpMix_look (K := key_law) (encV := slotV) (k := ⟨kd, ka, kb, ks⟩) (l := l) (c := false) rfl _ _ rfl Try.underlying56 z178 rfl rfl (fun w' ⟨q, hq⟩ => by rw [hq]; exact (hS.ext q).mp) (v := .pointer none) (by rw [hg]; rfl) ?_
    clear hg
    (repeat (first | (refine wpMix_skip rfl rfl ?_) | (refine wpMix_step (fun K hK => ?_); go_simp; (with_reducible (refine hK _ _ ?_)); clear hK K)))
    refine wpMix_nil ?_
    have hnp := p.blkE hn
    have nc0 := cell_at 0 hnp; have nc1 := cell_at 1 hnp; have nf0 := frozen_at 0 hnp; have nf1 := frozen_at 1 hnp
    go_wp2
    refine bodyPost_ret (v := .tuple #[hdV (0, 0), .bool false]) (by simp [results, Try.results89, go_sem, nc0, nc1, nf0, nf1]) rfl ⟨rfl, ?_⟩
    exact fin (fun b => b = w.heap.size + 1) (((p.up (fun b => b = w.heap.size + 1)).set (w.heap.size + 1) 0 _ (fun _ => rfl)).set (w.heap.size + 1) 1 _ (fun _ => rfl)) (fun b hb => by omega)
  | some z =>
    have hz : ∀ p : Ext W, SlotIn p.w z := fun p => (hS.ext p).slots _ (aget_mem hg)
    have hv : handleM L ⟨kd, ka, kb, ks⟩ = ((z.sl, z.gen), true) := by rw [hg] at hm; simp only [handleM, hm]; rfl
    rw [hv]
    clear hv hm
    go_wp2_with fail
    rw [← hW]
    clear hW
    refine wp_region_ch NoS (by kernel_rfl) (by kernel_rfl) (fun p _ => ?_)
    (repeat (first | (refine wpMix_skip rfl rfl ?_) | (refine wpMix_step (fun K hK => ?_); go_simp; (with_reducible (refine hK _ _ ?_)); clear hK K)))
    refine wpMix_look (K := key_law) (encV := slotV) (k := ⟨kd, ka, kb, ks⟩) (l := l) (c := false) rfl _ _ rfl Try.underlying56 z178 rfl rfl (fun w' ⟨q, hq⟩ => by rw [hq]; exact (hS.ext q).mp) (v := .pointer (some ⟨z.x, 0, none⟩)) (by rw [hg]; rfl) ?_
    clear hg
    (repeat (first | (refine wpMix_skip rfl rfl ?_) | (refine wpMix_step (fun K hK => ?_); go_simp; (with_reducible (refine hK _ _ ?_)); clear hK K)))
    refine wpMix_nil ?_
    have hnp := p.blkE hn
    have nc0 := cell_at 0 hnp; have nc1 := cell_at 1 hnp; have nf0 := frozen_at 0 hnp; have nf1 := frozen_at 1 hnp
    have z0 := cell_at 0 (hz p)
    have z1 := cell_at 1 (hz p)
    have hne : z.x ≠ w.heap.size + 1 := blkNe (hz p) hnp (by decide)
    go_wp2
    refine bodyPost_ret (v := .tuple #[hdV (z.sl, z.gen), .bool true]) (by simp [results, Try.results89, go_sem, nc0, nc1, nf0, nf1]) rfl ⟨rfl, ?_⟩
    exact fin (fun b => b = w.heap.size + 1) (((p.up (fun b => b = w.heap.size + 1)).set (w.heap.size + 1) 0 _ (fun _ => rfl)).set (w.heap.size + 1) 1 _ (fun _ => rfl)) (fun b hb => by omega)

set_option maxHeartbeats 800000 in
theorem look_m (I : Ids) (A : ArenaSt) (L : List (Key × Cl)) (F : Nat → Prop) (k : Key) (w : World) (h : StM w I A L F) :
    Calls Try.prog 97 #[.pointer (some ⟨I.s, 0, none⟩), keyV k] w fun e w' => e = .returned (.tuple #[(lookM L k).1, .bool (lookM L k).2]) ∧ ∃ p : Ext w, w' = p.w := by
  obtain ⟨⟨fv, l, h1, h2, h3⟩, h4, h5, h6⟩ := h
  obtain ⟨kd, ka, kb, ks⟩ := k
  obtain ⟨W, hW⟩ : ∃ W, W = (w.alloc (.cells (keyCells kd ka kb ks) 23)).alloc (.cells #[.int .u64 0, .string ⟨#[]⟩, .bool false] 37) := ⟨_, rfl⟩
  have hkb : W.heap[w.heap.size]? = some (.cells (keyCells kd ka kb ks) 23 (0, 0)) := by rw [hW]; exact heap_alloc_blk _ (heap_alloc_at _ _)
  have hn : W.heap[w.heap.size + 1]? = some (.cells #[.int .u64 0, .string ⟨#[]⟩, .bool false] 37 (0, 0)) := by rw [hW]; exact heap_alloc_eq _ (by simp)
  have hS : StoreAt W I fv A l := by rw [hW]; exact (h1.alloc _).alloc _
  have fin : ∀ (S : Nat → Prop) (p : Ch S W) (hS : ∀ b, b < w.heap.size → ¬ S b), ∃ q : Ext w, p.w = q.w := fun S p hS => ⟨(((Ch.refl NoS w).alloc _).alloc _).onto hW p (fun b hb h => hS b hb h), rfl⟩
  have hm : aget L ⟨kd, ka, kb, ks⟩ = (aget l ⟨kd, ka, kb, ks⟩).map Slot.cl := by rw [← h2]; exact aget_map (fun z => Slot.cl z) l _
  have k0 : ∀ p : Ext W, p.w.cell? ⟨w.heap.size, 0, none⟩ = some (.int .i64 kd) := fun p => cell_at 0 (p.blkE hkb); have k1 : ∀ p : Ext W, p.w.cell? ⟨w.heap.size, 1, none⟩ = some (.int .i64 ka) := fun p => cell_at 1 (p.blkE hkb); have k2 : ∀ p : Ext W, p.w.cell? ⟨w.heap.size, 2, none⟩ = some (.int .i64 kb) := fun p => cell_at 2 (p.blkE hkb); have k3 : ∀ p : Ext W, p.w.cell? ⟨w.heap.size, 3, none⟩ = some (.string ks) := fun p => cell_at 3 (p.blkE hkb)
  have m1 : ∀ p : Ext W, p.w.cell? ⟨I.s, 1, none⟩ = some (.map (some I.m)) := fun p => cell_at 1 (hS.ext p).st
  go_enter Try.func97, Try.ntmps97
  clear h1
  cases hg : aget l ⟨kd, ka, kb, ks⟩ with
  | none =>
    have hv : lookM L ⟨kd, ka, kb, ks⟩ = (seenV 0 ⟨#[]⟩ false, false) := by rw [hg] at hm; simp only [lookM, hm]; rfl
    rw [hv]
    clear hv hm
    go_wp2_with fail
    rw [← hW]
    clear hW
    refine wp_region_ch NoS (by kernel_rfl) (by kernel_rfl) (fun p _ => ?_)
    (repeat (first | (refine wpMix_skip rfl rfl ?_) | (refine wpMix_step (fun K hK => ?_); go_simp; (with_reducible (refine hK _ _ ?_)); clear hK K)))
    refine wpMix_look (K := key_law) (encV := slotV) (k := ⟨kd, ka, kb, ks⟩) (l := l) (c := false) rfl _ _ rfl Try.underlying56 z178 rfl rfl (fun w' ⟨q, hq⟩ => by rw [hq]; exact (hS.ext q).mp) (v := .pointer none) (by rw [hg]; rfl) ?_
    clear hg
    (repeat (first | (refine wpMix_skip rfl rfl ?_) | (refine wpMix_step (fun K hK => ?_); go_simp; (with_reducible (refine hK _ _ ?_)); clear hK K)))
    refine wpMix_nil ?_
    have hnp := p.blkE hn
    have nc0 := cell_at 0 hnp; have nc1 := cell_at 1 hnp; have nc2 := cell_at 2 hnp; have nf0 := frozen_at 0 hnp; have nf1 := frozen_at 1 hnp; have nf2 := frozen_at 2 hnp
    go_wp2
    refine bodyPost_ret (v := .tuple #[seenV 0 ⟨#[]⟩ false, .bool false]) (by simp [results, Try.results97, go_sem, nc0, nc1, nc2, nf0, nf1, nf2]) rfl ⟨rfl, ?_⟩
    exact fin (fun b => b = w.heap.size + 1) ((((p.up (fun b => b = w.heap.size + 1)).set (w.heap.size + 1) 0 _ (fun _ => rfl)).set (w.heap.size + 1) 1 _ (fun _ => rfl)).set (w.heap.size + 1) 2 _ (fun _ => rfl)) (fun b hb => by omega)
  | some z =>
    have hz : ∀ p : Ext W, SlotIn p.w z := fun p => (hS.ext p).slots _ (aget_mem hg)
    have hv : lookM L ⟨kd, ka, kb, ks⟩ = (seenV (stampZ z.wd) z.text (!goneB z.wd), true) := by rw [hg] at hm; simp only [lookM, hm]; rfl
    rw [hv]
    clear hv hm
    go_wp2_with fail
    rw [← hW]
    clear hW
    refine wp_region_ch NoS (by kernel_rfl) (by kernel_rfl) (fun p _ => ?_)
    (repeat (first | (refine wpMix_skip rfl rfl ?_) | (refine wpMix_step (fun K hK => ?_); go_simp; (with_reducible (refine hK _ _ ?_)); clear hK K)))
    refine wpMix_look (K := key_law) (encV := slotV) (k := ⟨kd, ka, kb, ks⟩) (l := l) (c := false) rfl _ _ rfl Try.underlying56 z178 rfl rfl (fun w' ⟨q, hq⟩ => by rw [hq]; exact (hS.ext q).mp) (v := .pointer (some ⟨z.x, 0, none⟩)) (by rw [hg]; rfl) ?_
    clear hg
    (repeat (first | (refine wpMix_skip rfl rfl ?_) | (refine wpMix_step (fun K hK => ?_); go_simp; (with_reducible (refine hK _ _ ?_)); clear hK K)))
    refine wpMix_nil ?_
    go_wp2_with fail
    go_at_call 122
    refine (slotSeen_any _ _ _ _ _ _ _ (hz p)).mono ?_
    rintro e w' ⟨rfl, q, rfl⟩
    have hnp := q.blkE (p.blkE hn)
    have nc0 := cell_at 0 hnp; have nc1 := cell_at 1 hnp; have nc2 := cell_at 2 hnp; have nf0 := frozen_at 0 hnp; have nf1 := frozen_at 1 hnp; have nf2 := frozen_at 2 hnp
    go_wp2
    refine bodyPost_ret (v := .tuple #[seenV (stampZ z.wd) z.text (!goneB z.wd), .bool true]) (by simp [results, Try.results97, go_sem, nc0, nc1, nc2, nf0, nf1, nf2]) rfl ⟨rfl, ?_⟩
    exact fin (fun b => b = w.heap.size + 1) (((((p.thenE q).up (fun b => b = w.heap.size + 1)).set (w.heap.size + 1) 0 _ (fun _ => rfl)).set (w.heap.size + 1) 1 _ (fun _ => rfl)).set (w.heap.size + 1) 2 _ (fun _ => rfl)) (fun b hb => by omega)
end Go.Proofs.Cob
