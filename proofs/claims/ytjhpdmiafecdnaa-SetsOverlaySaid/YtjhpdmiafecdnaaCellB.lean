/-
  The cells' store (layer 9), second part: Read, Still, New.
-/
import Derived.Test.YtjhpdmiafecdnaaCellA
namespace Go.Proofs.Cob
open Go Go.RowKit Go.Cob
set_option linter.unusedSimpArgs false
set_option linter.unusedVariables false

def readV (l : List (Key × Slot)) (k : Key) : Value × Int :=
  match aget l k with
  | none => (seenV 0 ⟨#[]⟩ false, 0)
  | some z => if freeB z.wd then (seenV (stampZ z.wd) z.text (!goneB z.wd), 0) else (seenV 0 ⟨#[]⟩ false, 60)

set_option maxHeartbeats 800000 in
theorem read_any (I : Ids) (fv : Value) (A : ArenaSt) (l : List (Key × Slot)) (kd ka kb : Int) (ks : ByteArray) (w : World) (h : StoreAt w I fv A l) :
    Calls Try.prog 28 #[.pointer (some ⟨I.s, 0, none⟩), .agg #[.int .i64 kd, .int .i64 ka, .int .i64 kb, .string ks]] w fun e w' =>
      e = .returned (.tuple #[(readV l ⟨kd, ka, kb, ks⟩).1, .int .i64 (readV l ⟨kd, ka, kb, ks⟩).2]) ∧ ∃ p : Ext w, w' = p.w := by
  obtain ⟨W, hW⟩ : ∃ W, W = (w.alloc (.cells (keyCells kd ka kb ks) 23)).alloc (.cells #[.int .u64 0, .string ⟨#[]⟩, .bool false] 37) := ⟨_, rfl⟩
  have hkb : W.heap[w.heap.size]? = some (.cells (keyCells kd ka kb ks) 23 (0, 0)) := by rw [hW]; exact heap_alloc_blk _ (heap_alloc_at _ _)
  have hn : W.heap[w.heap.size + 1]? = some (.cells #[.int .u64 0, .string ⟨#[]⟩, .bool false] 37 (0, 0)) := by rw [hW]; exact heap_alloc_eq _ (by simp)
  have hS : StoreAt W I fv A l := by rw [hW]; exact (h.alloc _).alloc _
  have fin : ∀ (S : Nat → Prop) (p : Ch S W) (hS : ∀ b, b < w.heap.size → ¬ S b), ∃ q : Ext w, p.w = q.w := fun S p hS => ⟨(((Ch.refl NoS w).alloc _).alloc _).onto hW p (fun b hb h => hS b hb h), rfl⟩
  have k0 : ∀ p : Ext W, p.w.cell? ⟨w.heap.size, 0, none⟩ = some (.int .i64 kd) := fun p => cell_at 0 (p.blkE hkb); have k1 : ∀ p : Ext W, p.w.cell? ⟨w.heap.size, 1, none⟩ = some (.int .i64 ka) := fun p => cell_at 1 (p.blkE hkb); have k2 : ∀ p : Ext W, p.w.cell? ⟨w.heap.size, 2, none⟩ = some (.int .i64 kb) := fun p => cell_at 2 (p.blkE hkb); have k3 : ∀ p : Ext W, p.w.cell? ⟨w.heap.size, 3, none⟩ = some (.string ks) := fun p => cell_at 3 (p.blkE hkb)
  have m1 : ∀ p : Ext W, p.w.cell? ⟨I.s, 1, none⟩ = some (.map (some I.m)) := fun p => cell_at 1 (hS.ext p).st
  go_enter Try.func28, Try.ntmps28
  clear h
  cases hg : aget l ⟨kd, ka, kb, ks⟩ with
  | none =>
    have hv : readV l ⟨kd, ka, kb, ks⟩ = (seenV 0 ⟨#[]⟩ false, 0) := by simp only [readV, hg]
    rw [hv]
    clear hv
    go_wp2_with fail
    rw [← hW]
    clear hW
    refine wp_region_ch NoS (by kernel_rfl) (by kernel_rfl) (fun p _ => ?_)
    (repeat (first | (refine wpMix_skip rfl rfl ?_) | (refine wpMix_step (fun K hK => ?_); go_simp; (with_reducible (refine hK _ _ ?_)); clear hK K)))
    refine wpMix_look (K := key_law) (encV := slotV) (k := ⟨kd, ka, kb, ks⟩) (l := l) (c := false) rfl _ _ rfl Try.underlying56 z178 rfl rfl (fun w' ⟨q, hq⟩ => by rw [hq]; exact (hS.ext q).mp) (v := .pointer none) (by rw [hg]; rfl) ?_
    clear hg
    (repeat (first | (refine wpMix_skip rfl rfl ?_) | (refine wpMix_step (fun K hK => ?_); go_simp; (with_reducible (refine hK _ _ ?_)); clear hK K)))
    refine wpMix_nil ?_
    have hnp := p.blkE hn
    have nc0 := cell_at 0 hnp; have nc1 := cell_at 1 hnp; have nc2 := cell_at 2 hnp; have nf0 := frozen_at 0 hnp; have nf1 := frozen_at 1 hnp; have nf2 := frozen_at 2 hnp
    go_wp2
    refine bodyPost_ret (v := .tuple #[seenV 0 ⟨#[]⟩ false, .int .i64 0]) (by simp [results, Try.results28, go_sem, nc0, nc1, nc2, nf0, nf1, nf2]) rfl ⟨rfl, ?_⟩
    exact fin (fun b => b = w.heap.size + 1) ((((p.up (fun b => b = w.heap.size + 1)).set (w.heap.size + 1) 0 _ (fun _ => rfl)).set (w.heap.size + 1) 1 _ (fun _ => rfl)).set (w.heap.size + 1) 2 _ (fun _ => rfl)) (fun b hb => by omega)
  | some z =>
    have hz : ∀ p : Ext W, SlotIn p.w z := fun p => (hS.ext p).slots _ (aget_mem hg)
    cases hf : freeB z.wd with
    | false =>
      have hv : readV l ⟨kd, ka, kb, ks⟩ = (seenV 0 ⟨#[]⟩ false, 60) := by simp only [readV, hg, hf]; rfl
      rw [hv]
      clear hv
      go_wp2_with fail
      rw [← hW]
      clear hW
      refine wp_region_ch NoS (by kernel_rfl) (by kernel_rfl) (fun p _ => ?_)
      (repeat (first | (refine wpMix_skip rfl rfl ?_) | (refine wpMix_step (fun K hK => ?_); go_simp; (with_reducible (refine hK _ _ ?_)); clear hK K)))
      refine wpMix_look (K := key_law) (encV := slotV) (k := ⟨kd, ka, kb, ks⟩) (l := l) (c := false) rfl _ _ rfl Try.underlying56 z178 rfl rfl (fun w' ⟨q, hq⟩ => by rw [hq]; exact (hS.ext q).mp) (v := .pointer (some ⟨z.x, 0, none⟩)) (by rw [hg]; rfl) ?_
      clear hg
      (repeat (first | (refine wpMix_skip rfl rfl ?_) | (refine wpMix_step (fun K hK => ?_); go_simp; (with_reducible (refine hK _ _ ?_)); clear hK K)))
      refine wpMix_nil ?_
      have hnp := p.blkE hn
      have nc0 := cell_at 0 hnp; have nc1 := cell_at 1 hnp; have nc2 := cell_at 2 hnp; have nf0 := frozen_at 0 hnp; have nf1 := frozen_at 1 hnp; have nf2 := frozen_at 2 hnp
      go_wp2_with (go_at_call 121; go_must (refine (locked_any _ _ _ _ _ _ _ (hz p)).mono ?_); rintro e w' ⟨rfl, rfl⟩; rw [hf])
      refine bodyPost_ret (v := .tuple #[seenV 0 ⟨#[]⟩ false, .int .i64 60]) (by simp [results, Try.results28, go_sem, nc0, nc1, nc2, nf0, nf1, nf2]) rfl ⟨rfl, ?_⟩
      exact fin (fun b => b = w.heap.size + 1) ((((p.up (fun b => b = w.heap.size + 1)).set (w.heap.size + 1) 0 _ (fun _ => rfl)).set (w.heap.size + 1) 1 _ (fun _ => rfl)).set (w.heap.size + 1) 2 _ (fun _ => rfl)) (fun b hb => by omega)
    | true =>
      have hv : readV l ⟨kd, ka, kb, ks⟩ = (seenV (stampZ z.wd) z.text (!goneB z.wd), 0) := by simp only [readV, hg, hf]; rfl
      rw [hv]
      clear hv
      go_wp2_with fail
      rw [← hW]
      clear hW
      refine wp_region_ch NoS (by kernel_rfl) (by kernel_rfl) (fun p _ => ?_)
      (repeat (first | (refine wpMix_skip rfl rfl ?_) | (refine wpMix_step (fun K hK => ?_); go_simp; (with_reducible (refine hK _ _ ?_)); clear hK K)))
      refine wpMix_look (K := key_law) (encV := slotV) (k := ⟨kd, ka, kb, ks⟩) (l := l) (c := false) rfl _ _ rfl Try.underlying56 z178 rfl rfl (fun w' ⟨q, hq⟩ => by rw [hq]; exact (hS.ext q).mp) (v := .pointer (some ⟨z.x, 0, none⟩)) (by rw [hg]; rfl) ?_
      clear hg
      (repeat (first | (refine wpMix_skip rfl rfl ?_) | (refine wpMix_step (fun K hK => ?_); go_simp; (with_reducible (refine hK _ _ ?_)); clear hK K)))
      refine wpMix_nil ?_
      go_wp2_with (first
        | (go_at_call 121; go_must (refine (locked_any _ _ _ _ _ _ _ (hz p)).mono ?_); rintro e w' ⟨rfl, rfl⟩; rw [hf])
        | (go_at_call 122; go_must (refine (slotSeen_any _ _ _ _ _ _ _ (hz p)).mono ?_); rintro e w' ⟨rfl, q, rfl⟩; have hnp := q.blkE (p.blkE hn); have nc0 := cell_at 0 hnp; have nc1 := cell_at 1 hnp; have nc2 := cell_at 2 hnp; have nf0 := frozen_at 0 hnp; have nf1 := frozen_at 1 hnp; have nf2 := frozen_at 2 hnp))
      refine bodyPost_ret (v := .tuple #[seenV (stampZ z.wd) z.text (!goneB z.wd), .int .i64 0]) (by simp [results, Try.results28, go_sem, nc0, nc1, nc2, nf0, nf1, nf2]) rfl ⟨rfl, ?_⟩
      exact fin (fun b => b = w.heap.size + 1) (((((p.thenE q).up (fun b => b = w.heap.size + 1)).set (w.heap.size + 1) 0 _ (fun _ => rfl)).set (w.heap.size + 1) 1 _ (fun _ => rfl)).set (w.heap.size + 1) 2 _ (fun _ => rfl)) (fun b hb => by omega)

def stillB (l : List (Key × Slot)) (k : Key) (who wd : Int) (has : Bool) : Bool :=
  match aget l k with
  | none => !has
  | some z => if !freeB z.wd && (z.who != who) then false else (goneB z.wd == !has) && ((stampZ z.wd == wd) || (!has && (stampZ z.wd == 0)))

set_option maxHeartbeats 1600000 in
theorem still_any (I : Ids) (fv : Value) (A : ArenaSt) (l : List (Key × Slot)) (kd ka kb : Int) (ks : ByteArray) (who vw : Int) (vs : ByteArray) (has : Bool) (w : World) (h : StoreAt w I fv A l) :
    Calls Try.prog 33 #[.pointer (some ⟨I.s, 0, none⟩), .agg #[.int .i64 kd, .int .i64 ka, .int .i64 kb, .string ks], .int .i64 who, .agg #[.int .u64 vw, .string vs, .bool has]] w fun e w' =>
      e = .returned (.bool (stillB l ⟨kd, ka, kb, ks⟩ who vw has)) ∧ ∃ p : Ext w, w' = p.w := by
  obtain ⟨W, hW⟩ : ∃ W, W = (w.alloc (.cells (keyCells kd ka kb ks) 23)).alloc (.cells #[.int .u64 vw, .string vs, .bool has] 37) := ⟨_, rfl⟩
  have hkb : W.heap[w.heap.size]? = some (.cells (keyCells kd ka kb ks) 23 (0, 0)) := by rw [hW]; exact heap_alloc_blk _ (heap_alloc_at _ _)
  have hvb : W.heap[w.heap.size + 1]? = some (.cells #[.int .u64 vw, .string vs, .bool has] 37 (0, 0)) := by rw [hW]; exact heap_alloc_eq _ (by simp)
  have hS : StoreAt W I fv A l := by rw [hW]; exact (h.alloc _).alloc _
  have fin : ∀ p : Ext W, ∃ q : Ext w, p.w = q.w := fun p => ⟨(((Ch.refl NoS w).alloc _).alloc _).onto hW p (fun b hb h => h), rfl⟩
  have k0 : ∀ p : Ext W, p.w.cell? ⟨w.heap.size, 0, none⟩ = some (.int .i64 kd) := fun p => cell_at 0 (p.blkE hkb); have k1 : ∀ p : Ext W, p.w.cell? ⟨w.heap.size, 1, none⟩ = some (.int .i64 ka) := fun p => cell_at 1 (p.blkE hkb); have k2 : ∀ p : Ext W, p.w.cell? ⟨w.heap.size, 2, none⟩ = some (.int .i64 kb) := fun p => cell_at 2 (p.blkE hkb); have k3 : ∀ p : Ext W, p.w.cell? ⟨w.heap.size, 3, none⟩ = some (.string ks) := fun p => cell_at 3 (p.blkE hkb)
  have v0 : ∀ p : Ext W, p.w.cell? ⟨(w.heap.size + 1), 0, none⟩ = some (.int .u64 vw) := fun p => cell_at 0 (p.blkE hvb); have v2 : ∀ p : Ext W, p.w.cell? ⟨(w.heap.size + 1), 2, none⟩ = some (.bool has) := fun p => cell_at 2 (p.blkE hvb)
  have m1 : ∀ p : Ext W, p.w.cell? ⟨I.s, 1, none⟩ = some (.map (some I.m)) := fun p => cell_at 1 (hS.ext p).st
  go_enter Try.func33, Try.ntmps33
  clear h
  cases hg : aget l ⟨kd, ka, kb, ks⟩ with
  | none =>
    have hv : stillB l ⟨kd, ka, kb, ks⟩ who vw has = !has := by simp only [stillB, hg]
    rw [hv]
    clear hv
    go_wp2_with fail
    rw [← hW]
    clear hW
    refine wp_region_ch NoS (by kernel_rfl) (by kernel_rfl) (fun p _ => ?_)
    (repeat (first | (refine wpMix_skip rfl rfl ?_) | (refine wpMix_step (fun K hK => ?_); go_simp; (with_reducible (refine hK _ _ ?_)); clear hK K)))
    refine wpMix_look (K := key_law) (encV := slotV) (k := ⟨kd, ka, kb, ks⟩) (l := l) (c := false) rfl _ _ rfl Try.underlying56 z178 rfl rfl (fun w' ⟨q, hq⟩ => by rw [hq]; exact (hS.ext q).mp) (v := .pointer none) (by rw [hg]; rfl) ?_
    clear hg
    (repeat (first | (refine wpMix_skip rfl rfl ?_) | (refine wpMix_step (fun K hK => ?_); go_simp; (with_reducible (refine hK _ _ ?_)); clear hK K)))
    refine wpMix_nil ?_
    go_wp2
    go_ret
    exact ⟨rfl, fin p⟩
  | some z =>
    have hz : ∀ p : Ext W, SlotIn p.w z := fun p => (hS.ext p).slots _ (aget_mem hg)
    have z2 : ∀ p : Ext W, p.w.cell? ⟨z.x, 2, none⟩ = some (.int .u64 z.wd) := fun p => cell_at 2 (hz p)
    have z4 : ∀ p : Ext W, p.w.cell? ⟨z.x, 4, none⟩ = some (.int .i64 z.who) := fun p => cell_at 4 (hz p)
    cases hb : (!freeB z.wd && (z.who != who)) with
    | true =>
      have hv : stillB l ⟨kd, ka, kb, ks⟩ who vw has = false := by simp only [stillB, hg, hb, if_true]
      rw [hv]
      clear hv
      have hf : freeB z.wd = false := by revert hb; cases freeB z.wd <;> simp
      have hw : (z.who != who) = true := by revert hb; cases (z.who != who) <;> simp
      clear hb
      go_wp2_with fail
      rw [← hW]
      clear hW
      refine wp_region_ch NoS (by kernel_rfl) (by kernel_rfl) (fun p _ => ?_)
      (repeat (first | (refine wpMix_skip rfl rfl ?_) | (refine wpMix_step (fun K hK => ?_); go_simp; (with_reducible (refine hK _ _ ?_)); clear hK K)))
      refine wpMix_look (K := key_law) (encV := slotV) (k := ⟨kd, ka, kb, ks⟩) (l := l) (c := false) rfl _ _ rfl Try.underlying56 z178 rfl rfl (fun w' ⟨q, hq⟩ => by rw [hq]; exact (hS.ext q).mp) (v := .pointer (some ⟨z.x, 0, none⟩)) (by rw [hg]; rfl) ?_
      clear hg
      (repeat (first | (refine wpMix_skip rfl rfl ?_) | (refine wpMix_step (fun K hK => ?_); go_simp; (with_reducible (refine hK _ _ ?_)); clear hK K)))
      refine wpMix_nil ?_
      go_wp2_with (go_at_call 121; go_must (refine (locked_any _ _ _ _ _ _ _ (hz p)).mono ?_); rintro e w' ⟨rfl, rfl⟩; rw [hf])
      go_ret
      exact ⟨rfl, fin p⟩
    | false =>
      have hv : stillB l ⟨kd, ka, kb, ks⟩ who vw has = ((goneB z.wd == !has) && ((stampZ z.wd == vw) || (!has && (stampZ z.wd == 0)))) := by simp only [stillB, hg, hb, Bool.false_eq_true, if_false]
      rw [hv]
      clear hv
      have fin2 : ∀ (p : Ext W) (q : Ext p.w), ∃ r : Ext w, q.w = r.w := fun p q => fin (p.thenE q)
      go_wp2_with fail
      rw [← hW]
      clear hW
      refine wp_region_ch NoS (by kernel_rfl) (by kernel_rfl) (fun p _ => ?_)
      (repeat (first | (refine wpMix_skip rfl rfl ?_) | (refine wpMix_step (fun K hK => ?_); go_simp; (with_reducible (refine hK _ _ ?_)); clear hK K)))
      refine wpMix_look (K := key_law) (encV := slotV) (k := ⟨kd, ka, kb, ks⟩) (l := l) (c := false) rfl _ _ rfl Try.underlying56 z178 rfl rfl (fun w' ⟨q, hq⟩ => by rw [hq]; exact (hS.ext q).mp) (v := .pointer (some ⟨z.x, 0, none⟩)) (by rw [hg]; rfl) ?_
      clear hg
      (repeat (first | (refine wpMix_skip rfl rfl ?_) | (refine wpMix_step (fun K hK => ?_); go_simp; (with_reducible (refine hK _ _ ?_)); clear hK K)))
      refine wpMix_nil ?_
      have z2' : ∀ q : Ext p.w, q.w.cell? ⟨z.x, 2, none⟩ = some (.int .u64 z.wd) := fun q => z2 (p.thenE q)
      have v0' : ∀ q : Ext p.w, q.w.cell? ⟨w.heap.size + 1, 0, none⟩ = some (.int .u64 vw) := fun q => v0 (p.thenE q)
      have v2' : ∀ q : Ext p.w, q.w.cell? ⟨w.heap.size + 1, 2, none⟩ = some (.bool has) := fun q => v2 (p.thenE q)
      have hz' : ∀ q : Ext p.w, SlotIn q.w z := fun q => hz (p.thenE q)
      have fin3 := fin2 p
      have hb' : (freeB z.wd = true) ∨ (freeB z.wd = false ∧ (z.who != who) = false) := by revert hb; cases freeB z.wd <;> simp
      clear fin fin2 hb
      rcases hb' with hf | ⟨hf, hw⟩
      · cases hgo : goneB z.wd <;> cases has
        · go_wp2_with (go_at_call 121; go_must (refine (locked_any _ _ _ _ _ _ _ (hz p)).mono ?_); rintro e w' ⟨rfl, rfl⟩; rw [hf]); refine wp_region_ch NoS (by kernel_rfl) (by kernel_rfl) (fun q _ => ?_); (repeat (first | (refine wpMix_skip rfl rfl ?_) | (refine wpMix_step (fun K hK => ?_); go_simp; (with_reducible (refine hK _ _ ?_)); clear hK K))); refine wpMix_step (fun K hK => ?_); go_simp; refine (Calls.inCh (slotAbsent_any _ _ _ _ _ _ _ (hz' q))).mono ?_; rintro e w' ⟨rfl, q, rfl⟩; refine ⟨⟨q, rfl⟩, hK _ _ ?_⟩; clear hK K; rw [hgo]; (repeat (first | (refine wpMix_skip rfl rfl ?_) | (refine wpMix_step (fun K hK => ?_); go_simp; (with_reducible (refine hK _ _ ?_)); clear hK K) | (refine wpMix_step (fun K hK => ?_); go_simp; (with_reducible refine (stamp_any _ _).mono ?_); rintro e w' ⟨rfl, rfl⟩; refine ⟨⟨q, rfl⟩, hK _ _ ?_⟩; clear hK K))); refine wpMix_nil ?_; go_wp2; go_ret; exact ⟨by simp_all, fin3 q⟩
        · cases he : (stampZ z.wd == vw)
          · go_wp2_with (go_at_call 121; go_must (refine (locked_any _ _ _ _ _ _ _ (hz p)).mono ?_); rintro e w' ⟨rfl, rfl⟩; rw [hf]); refine wp_region_ch NoS (by kernel_rfl) (by kernel_rfl) (fun q _ => ?_); (repeat (first | (refine wpMix_skip rfl rfl ?_) | (refine wpMix_step (fun K hK => ?_); go_simp; (with_reducible (refine hK _ _ ?_)); clear hK K))); refine wpMix_step (fun K hK => ?_); go_simp; refine (Calls.inCh (slotAbsent_any _ _ _ _ _ _ _ (hz' q))).mono ?_; rintro e w' ⟨rfl, q, rfl⟩; refine ⟨⟨q, rfl⟩, hK _ _ ?_⟩; clear hK K; rw [hgo]; (repeat (first | (refine wpMix_skip rfl rfl ?_) | (refine wpMix_step (fun K hK => ?_); go_simp; (with_reducible (refine hK _ _ ?_)); clear hK K) | (refine wpMix_step (fun K hK => ?_); go_simp; (with_reducible refine (stamp_any _ _).mono ?_); rintro e w' ⟨rfl, rfl⟩; refine ⟨⟨q, rfl⟩, hK _ _ ?_⟩; clear hK K))); refine wpMix_nil ?_; go_wp2; go_ret; exact ⟨by simp_all, fin3 q⟩
          · go_wp2_with (go_at_call 121; go_must (refine (locked_any _ _ _ _ _ _ _ (hz p)).mono ?_); rintro e w' ⟨rfl, rfl⟩; rw [hf]); refine wp_region_ch NoS (by kernel_rfl) (by kernel_rfl) (fun q _ => ?_); (repeat (first | (refine wpMix_skip rfl rfl ?_) | (refine wpMix_step (fun K hK => ?_); go_simp; (with_reducible (refine hK _ _ ?_)); clear hK K))); refine wpMix_step (fun K hK => ?_); go_simp; refine (Calls.inCh (slotAbsent_any _ _ _ _ _ _ _ (hz' q))).mono ?_; rintro e w' ⟨rfl, q, rfl⟩; refine ⟨⟨q, rfl⟩, hK _ _ ?_⟩; clear hK K; rw [hgo]; (repeat (first | (refine wpMix_skip rfl rfl ?_) | (refine wpMix_step (fun K hK => ?_); go_simp; (with_reducible (refine hK _ _ ?_)); clear hK K) | (refine wpMix_step (fun K hK => ?_); go_simp; (with_reducible refine (stamp_any _ _).mono ?_); rintro e w' ⟨rfl, rfl⟩; refine ⟨⟨q, rfl⟩, hK _ _ ?_⟩; clear hK K))); refine wpMix_nil ?_; go_wp2; go_ret; exact ⟨by simp_all, fin3 q⟩
        · cases he : (stampZ z.wd == vw)
          · cases he0 : (stampZ z.wd == 0)
            · go_wp2_with (go_at_call 121; go_must (refine (locked_any _ _ _ _ _ _ _ (hz p)).mono ?_); rintro e w' ⟨rfl, rfl⟩; rw [hf]); refine wp_region_ch NoS (by kernel_rfl) (by kernel_rfl) (fun q _ => ?_); (repeat (first | (refine wpMix_skip rfl rfl ?_) | (refine wpMix_step (fun K hK => ?_); go_simp; (with_reducible (refine hK _ _ ?_)); clear hK K))); refine wpMix_step (fun K hK => ?_); go_simp; refine (Calls.inCh (slotAbsent_any _ _ _ _ _ _ _ (hz' q))).mono ?_; rintro e w' ⟨rfl, q, rfl⟩; refine ⟨⟨q, rfl⟩, hK _ _ ?_⟩; clear hK K; rw [hgo]; (repeat (first | (refine wpMix_skip rfl rfl ?_) | (refine wpMix_step (fun K hK => ?_); go_simp; (with_reducible (refine hK _ _ ?_)); clear hK K) | (refine wpMix_step (fun K hK => ?_); go_simp; (with_reducible refine (stamp_any _ _).mono ?_); rintro e w' ⟨rfl, rfl⟩; refine ⟨⟨q, rfl⟩, hK _ _ ?_⟩; clear hK K))); refine wpMix_nil ?_; go_wp2; go_ret; exact ⟨by simp_all, fin3 q⟩
            · go_wp2_with (go_at_call 121; go_must (refine (locked_any _ _ _ _ _ _ _ (hz p)).mono ?_); rintro e w' ⟨rfl, rfl⟩; rw [hf]); refine wp_region_ch NoS (by kernel_rfl) (by kernel_rfl) (fun q _ => ?_); (repeat (first | (refine wpMix_skip rfl rfl ?_) | (refine wpMix_step (fun K hK => ?_); go_simp; (with_reducible (refine hK _ _ ?_)); clear hK K))); refine wpMix_step (fun K hK => ?_); go_simp; refine (Calls.inCh (slotAbsent_any _ _ _ _ _ _ _ (hz' q))).mono ?_; rintro e w' ⟨rfl, q, rfl⟩; refine ⟨⟨q, rfl⟩, hK _ _ ?_⟩; clear hK K; rw [hgo]; (repeat (first | (refine wpMix_skip rfl rfl ?_) | (refine wpMix_step (fun K hK => ?_); go_simp; (with_reducible (refine hK _ _ ?_)); clear hK K) | (refine wpMix_step (fun K hK => ?_); go_simp; (with_reducible refine (stamp_any _ _).mono ?_); rintro e w' ⟨rfl, rfl⟩; refine ⟨⟨q, rfl⟩, hK _ _ ?_⟩; clear hK K))); refine wpMix_nil ?_; go_wp2; go_ret; exact ⟨by simp_all, fin3 q⟩
          · go_wp2_with (go_at_call 121; go_must (refine (locked_any _ _ _ _ _ _ _ (hz p)).mono ?_); rintro e w' ⟨rfl, rfl⟩; rw [hf]); refine wp_region_ch NoS (by kernel_rfl) (by kernel_rfl) (fun q _ => ?_); (repeat (first | (refine wpMix_skip rfl rfl ?_) | (refine wpMix_step (fun K hK => ?_); go_simp; (with_reducible (refine hK _ _ ?_)); clear hK K))); refine wpMix_step (fun K hK => ?_); go_simp; refine (Calls.inCh (slotAbsent_any _ _ _ _ _ _ _ (hz' q))).mono ?_; rintro e w' ⟨rfl, q, rfl⟩; refine ⟨⟨q, rfl⟩, hK _ _ ?_⟩; clear hK K; rw [hgo]; (repeat (first | (refine wpMix_skip rfl rfl ?_) | (refine wpMix_step (fun K hK => ?_); go_simp; (with_reducible (refine hK _ _ ?_)); clear hK K) | (refine wpMix_step (fun K hK => ?_); go_simp; (with_reducible refine (stamp_any _ _).mono ?_); rintro e w' ⟨rfl, rfl⟩; refine ⟨⟨q, rfl⟩, hK _ _ ?_⟩; clear hK K))); refine wpMix_nil ?_; go_wp2; go_ret; exact ⟨by simp_all, fin3 q⟩
        · go_wp2_with (go_at_call 121; go_must (refine (locked_any _ _ _ _ _ _ _ (hz p)).mono ?_); rintro e w' ⟨rfl, rfl⟩; rw [hf]); refine wp_region_ch NoS (by kernel_rfl) (by kernel_rfl) (fun q _ => ?_); (repeat (first | (refine wpMix_skip rfl rfl ?_) | (refine wpMix_step (fun K hK => ?_); go_simp; (with_reducible (refine hK _ _ ?_)); clear hK K))); refine wpMix_step (fun K hK => ?_); go_simp; refine (Calls.inCh (slotAbsent_any _ _ _ _ _ _ _ (hz' q))).mono ?_; rintro e w' ⟨rfl, q, rfl⟩; refine ⟨⟨q, rfl⟩, hK _ _ ?_⟩; clear hK K; rw [hgo]; (repeat (first | (refine wpMix_skip rfl rfl ?_) | (refine wpMix_step (fun K hK => ?_); go_simp; (with_reducible (refine hK _ _ ?_)); clear hK K) | (refine wpMix_step (fun K hK => ?_); go_simp; (with_reducible refine (stamp_any _ _).mono ?_); rintro e w' ⟨rfl, rfl⟩; refine ⟨⟨q, rfl⟩, hK _ _ ?_⟩; clear hK K))); refine wpMix_nil ?_; go_wp2; go_ret; exact ⟨by simp_all, fin3 q⟩
      · cases hgo : goneB z.wd <;> cases has
        · go_wp2_with (go_at_call 121; go_must (refine (locked_any _ _ _ _ _ _ _ (hz p)).mono ?_); rintro e w' ⟨rfl, rfl⟩; rw [hf]); refine wp_region_ch NoS (by kernel_rfl) (by kernel_rfl) (fun q _ => ?_); (repeat (first | (refine wpMix_skip rfl rfl ?_) | (refine wpMix_step (fun K hK => ?_); go_simp; (with_reducible (refine hK _ _ ?_)); clear hK K))); refine wpMix_step (fun K hK => ?_); go_simp; refine (Calls.inCh (slotAbsent_any _ _ _ _ _ _ _ (hz' q))).mono ?_; rintro e w' ⟨rfl, q, rfl⟩; refine ⟨⟨q, rfl⟩, hK _ _ ?_⟩; clear hK K; rw [hgo]; (repeat (first | (refine wpMix_skip rfl rfl ?_) | (refine wpMix_step (fun K hK => ?_); go_simp; (with_reducible (refine hK _ _ ?_)); clear hK K) | (refine wpMix_step (fun K hK => ?_); go_simp; (with_reducible refine (stamp_any _ _).mono ?_); rintro e w' ⟨rfl, rfl⟩; refine ⟨⟨q, rfl⟩, hK _ _ ?_⟩; clear hK K))); refine wpMix_nil ?_; go_wp2; go_ret; exact ⟨by simp_all, fin3 q⟩
        · cases he : (stampZ z.wd == vw)
          · go_wp2_with (go_at_call 121; go_must (refine (locked_any _ _ _ _ _ _ _ (hz p)).mono ?_); rintro e w' ⟨rfl, rfl⟩; rw [hf]); refine wp_region_ch NoS (by kernel_rfl) (by kernel_rfl) (fun q _ => ?_); (repeat (first | (refine wpMix_skip rfl rfl ?_) | (refine wpMix_step (fun K hK => ?_); go_simp; (with_reducible (refine hK _ _ ?_)); clear hK K))); refine wpMix_step (fun K hK => ?_); go_simp; refine (Calls.inCh (slotAbsent_any _ _ _ _ _ _ _ (hz' q))).mono ?_; rintro e w' ⟨rfl, q, rfl⟩; refine ⟨⟨q, rfl⟩, hK _ _ ?_⟩; clear hK K; rw [hgo]; (repeat (first | (refine wpMix_skip rfl rfl ?_) | (refine wpMix_step (fun K hK => ?_); go_simp; (with_reducible (refine hK _ _ ?_)); clear hK K) | (refine wpMix_step (fun K hK => ?_); go_simp; (with_reducible refine (stamp_any _ _).mono ?_); rintro e w' ⟨rfl, rfl⟩; refine ⟨⟨q, rfl⟩, hK _ _ ?_⟩; clear hK K))); refine wpMix_nil ?_; go_wp2; go_ret; exact ⟨by simp_all, fin3 q⟩
          · go_wp2_with (go_at_call 121; go_must (refine (locked_any _ _ _ _ _ _ _ (hz p)).mono ?_); rintro e w' ⟨rfl, rfl⟩; rw [hf]); refine wp_region_ch NoS (by kernel_rfl) (by kernel_rfl) (fun q _ => ?_); (repeat (first | (refine wpMix_skip rfl rfl ?_) | (refine wpMix_step (fun K hK => ?_); go_simp; (with_reducible (refine hK _ _ ?_)); clear hK K))); refine wpMix_step (fun K hK => ?_); go_simp; refine (Calls.inCh (slotAbsent_any _ _ _ _ _ _ _ (hz' q))).mono ?_; rintro e w' ⟨rfl, q, rfl⟩; refine ⟨⟨q, rfl⟩, hK _ _ ?_⟩; clear hK K; rw [hgo]; (repeat (first | (refine wpMix_skip rfl rfl ?_) | (refine wpMix_step (fun K hK => ?_); go_simp; (with_reducible (refine hK _ _ ?_)); clear hK K) | (refine wpMix_step (fun K hK => ?_); go_simp; (with_reducible refine (stamp_any _ _).mono ?_); rintro e w' ⟨rfl, rfl⟩; refine ⟨⟨q, rfl⟩, hK _ _ ?_⟩; clear hK K))); refine wpMix_nil ?_; go_wp2; go_ret; exact ⟨by simp_all, fin3 q⟩
        · cases he : (stampZ z.wd == vw)
          · cases he0 : (stampZ z.wd == 0)
            · go_wp2_with (go_at_call 121; go_must (refine (locked_any _ _ _ _ _ _ _ (hz p)).mono ?_); rintro e w' ⟨rfl, rfl⟩; rw [hf]); refine wp_region_ch NoS (by kernel_rfl) (by kernel_rfl) (fun q _ => ?_); (repeat (first | (refine wpMix_skip rfl rfl ?_) | (refine wpMix_step (fun K hK => ?_); go_simp; (with_reducible (refine hK _ _ ?_)); clear hK K))); refine wpMix_step (fun K hK => ?_); go_simp; refine (Calls.inCh (slotAbsent_any _ _ _ _ _ _ _ (hz' q))).mono ?_; rintro e w' ⟨rfl, q, rfl⟩; refine ⟨⟨q, rfl⟩, hK _ _ ?_⟩; clear hK K; rw [hgo]; (repeat (first | (refine wpMix_skip rfl rfl ?_) | (refine wpMix_step (fun K hK => ?_); go_simp; (with_reducible (refine hK _ _ ?_)); clear hK K) | (refine wpMix_step (fun K hK => ?_); go_simp; (with_reducible refine (stamp_any _ _).mono ?_); rintro e w' ⟨rfl, rfl⟩; refine ⟨⟨q, rfl⟩, hK _ _ ?_⟩; clear hK K))); refine wpMix_nil ?_; go_wp2; go_ret; exact ⟨by simp_all, fin3 q⟩
            · go_wp2_with (go_at_call 121; go_must (refine (locked_any _ _ _ _ _ _ _ (hz p)).mono ?_); rintro e w' ⟨rfl, rfl⟩; rw [hf]); refine wp_region_ch NoS (by kernel_rfl) (by kernel_rfl) (fun q _ => ?_); (repeat (first | (refine wpMix_skip rfl rfl ?_) | (refine wpMix_step (fun K hK => ?_); go_simp; (with_reducible (refine hK _ _ ?_)); clear hK K))); refine wpMix_step (fun K hK => ?_); go_simp; refine (Calls.inCh (slotAbsent_any _ _ _ _ _ _ _ (hz' q))).mono ?_; rintro e w' ⟨rfl, q, rfl⟩; refine ⟨⟨q, rfl⟩, hK _ _ ?_⟩; clear hK K; rw [hgo]; (repeat (first | (refine wpMix_skip rfl rfl ?_) | (refine wpMix_step (fun K hK => ?_); go_simp; (with_reducible (refine hK _ _ ?_)); clear hK K) | (refine wpMix_step (fun K hK => ?_); go_simp; (with_reducible refine (stamp_any _ _).mono ?_); rintro e w' ⟨rfl, rfl⟩; refine ⟨⟨q, rfl⟩, hK _ _ ?_⟩; clear hK K))); refine wpMix_nil ?_; go_wp2; go_ret; exact ⟨by simp_all, fin3 q⟩
          · go_wp2_with (go_at_call 121; go_must (refine (locked_any _ _ _ _ _ _ _ (hz p)).mono ?_); rintro e w' ⟨rfl, rfl⟩; rw [hf]); refine wp_region_ch NoS (by kernel_rfl) (by kernel_rfl) (fun q _ => ?_); (repeat (first | (refine wpMix_skip rfl rfl ?_) | (refine wpMix_step (fun K hK => ?_); go_simp; (with_reducible (refine hK _ _ ?_)); clear hK K))); refine wpMix_step (fun K hK => ?_); go_simp; refine (Calls.inCh (slotAbsent_any _ _ _ _ _ _ _ (hz' q))).mono ?_; rintro e w' ⟨rfl, q, rfl⟩; refine ⟨⟨q, rfl⟩, hK _ _ ?_⟩; clear hK K; rw [hgo]; (repeat (first | (refine wpMix_skip rfl rfl ?_) | (refine wpMix_step (fun K hK => ?_); go_simp; (with_reducible (refine hK _ _ ?_)); clear hK K) | (refine wpMix_step (fun K hK => ?_); go_simp; (with_reducible refine (stamp_any _ _).mono ?_); rintro e w' ⟨rfl, rfl⟩; refine ⟨⟨q, rfl⟩, hK _ _ ?_⟩; clear hK K))); refine wpMix_nil ?_; go_wp2; go_ret; exact ⟨by simp_all, fin3 q⟩
        · go_wp2_with (go_at_call 121; go_must (refine (locked_any _ _ _ _ _ _ _ (hz p)).mono ?_); rintro e w' ⟨rfl, rfl⟩; rw [hf]); refine wp_region_ch NoS (by kernel_rfl) (by kernel_rfl) (fun q _ => ?_); (repeat (first | (refine wpMix_skip rfl rfl ?_) | (refine wpMix_step (fun K hK => ?_); go_simp; (with_reducible (refine hK _ _ ?_)); clear hK K))); refine wpMix_step (fun K hK => ?_); go_simp; refine (Calls.inCh (slotAbsent_any _ _ _ _ _ _ _ (hz' q))).mono ?_; rintro e w' ⟨rfl, q, rfl⟩; refine ⟨⟨q, rfl⟩, hK _ _ ?_⟩; clear hK K; rw [hgo]; (repeat (first | (refine wpMix_skip rfl rfl ?_) | (refine wpMix_step (fun K hK => ?_); go_simp; (with_reducible (refine hK _ _ ?_)); clear hK K) | (refine wpMix_step (fun K hK => ?_); go_simp; (with_reducible refine (stamp_any _ _).mono ?_); rintro e w' ⟨rfl, rfl⟩; refine ⟨⟨q, rfl⟩, hK _ _ ?_⟩; clear hK K))); refine wpMix_nil ?_; go_wp2; go_ret; exact ⟨by simp_all, fin3 q⟩
end Go.Proofs.Cob
