/-
  The cells' store (layer 9), second part: Read, Still, New. The cells' store (layer 9), third part: New, Install, Lock. The cells' store (layer 9), fourth part: Install, Lock. The cells' store (layer 9), fifth part: Lock. The cells' store (layer 9), sixth part: Lock's walks. The cells' store (layer 9), seventh part: the plain store beside the one in memory. Words in plain numbers: a stamp below 2^62, the absent bit, the lock bit. A scene: the blocks that a run has laid and still knows, beside a store of cells.
-/
import Derived.Test.YtjhpdmiafecdnaaJa
import Derived.Laws.BitsAllLaws
namespace Go.Proofs.Cob
open Go Go.RowKit Go.Cob
set_option linter.unusedSimpArgs false
set_option linter.unusedVariables false

def readV (l : List (Key × Slot)) (k : Key) : Value × Int :=
  match aget l k with
  | none => (seenV 0 ⟨#[]⟩ false, 0)
  | some z => if freeB z.wd then (seenV (stampZ z.wd) z.text (!goneB z.wd), 0) else (seenV 0 ⟨#[]⟩ false, 60)

set_option maxHeartbeats 800000 in
theorem read_any (I : Ids) (fv : Value) (A : ArenaSt) (l : List (Key × Slot)) (kd ka kb : Int) (ks : ByteArray) (w : World) (h : StoreAt w I fv A l) :
    Calls Try.prog 28 #[.pointer (some ⟨I.s, 0, none⟩), .agg #[.int .i64 kd, .int .i64 ka, .int .i64 kb, .string ks]] w fun e w' =>
      e = .returned (.tuple #[(readV l ⟨kd, ka, kb, ks⟩).1, .int .i64 (readV l ⟨kd, ka, kb, ks⟩).2]) ∧ ∃ p : Ext w, w' = p.w := by
  obtain ⟨W, hW⟩ : ∃ W, W = (w.alloc (.cells (keyCells kd ka kb ks) 23)).alloc (.cells #[.int .u64 0, .string ⟨#[]⟩, .bool false] 37) := ⟨_, rfl⟩
  have hkb : W.heap[w.heap.size]? = some (.cells (keyCells kd ka kb ks) 23 (0, 0)) := by rw [hW]; exact heap_alloc_blk _ (heap_alloc_at _ _)
  have hn : W.heap[w.heap.size + 1]? = some (.cells #[.int .u64 0, .string ⟨#[]⟩, .bool false] 37 (0, 0)) := by rw [hW]; exact heap_alloc_eq _ (by simp)
  have hS : StoreAt W I fv A l := by rw [hW]; exact (h.alloc _).alloc _
  have fin : ∀ (S : Nat → Prop) (p : Ch S W) (hS : ∀ b, b < w.heap.size → ¬ S b), ∃ q : Ext w, p.w = q.w := fun S p hS => ⟨(((Ch.refl NoS w).alloc _).alloc _).onto hW p (fun b hb h => hS b hb h), rfl⟩
  have k0 : ∀ p : Ext W, p.w.cell? ⟨w.heap.size, 0, none⟩ = some (.int .i64 kd) := fun p => cell_at 0 (p.blkE hkb); have k1 : ∀ p : Ext W, p.w.cell? ⟨w.heap.size, 1, none⟩ = some (.int .i64 ka) := fun p => cell_at 1 (p.blkE hkb); have k2 : ∀ p : Ext W, p.w.cell? ⟨w.heap.size, 2, none⟩ = some (.int .i64 kb) := fun p => cell_at 2 (p.blkE hkb); have k3 : ∀ p : Ext W, p.w.cell? ⟨w.heap.size, 3, none⟩ = some (.string ks) := fun p => cell_at 3 (p.blkE hkb)
  have m1 : ∀ p : Ext W, p.w.cell? ⟨I.s, 1, none⟩ = some (.map (some I.m)) := fun p => cell_at 1 (hS.ext p).st
  go_enter Try.func28, Try.ntmps28
  clear h
  cases hg : aget l ⟨kd, ka, kb, ks⟩ with
  | none =>
    have hv : readV l ⟨kd, ka, kb, ks⟩ = (seenV 0 ⟨#[]⟩ false, 0) := by simp only [readV, hg]
    rw [hv]
    clear hv
    go_wp2_with fail
    rw [← hW]
    clear hW
    refine wp_region_ch NoS (by kernel_rfl) (by kernel_rfl) (fun p _ => ?_)
    (repeat (first | (refine wpMix_skip rfl rfl ?_) | (refine wpMix_step (fun K hK => ?_); go_simp; (with_reducible (refine hK _ _ ?_)); clear hK K)))
    refine wpMix_look (K := key_law) (encV := slotV) (k := ⟨kd, ka, kb, ks⟩) (l := l) (c := false) rfl _ _ rfl Try.underlying56 z178 rfl rfl (fun w' ⟨q, hq⟩ => by rw [hq]; exact (hS.ext q).mp) (v := .pointer none) (by rw [hg]; rfl) ?_
    clear hg
    (repeat (first | (refine wpMix_skip rfl rfl ?_) | (refine wpMix_step (fun K hK => ?_); go_simp; (with_reducible (refine hK _ _ ?_)); clear hK K)))
    refine wpMix_nil ?_
    have hnp := p.blkE hn
    have nc0 := cell_at 0 hnp; have nc1 := cell_at 1 hnp; have nc2 := cell_at 2 hnp; have nf0 := frozen_at 0 hnp; have nf1 := frozen_at 1 hnp; have nf2 := frozen_at 2 hnp
    go_wp2
    refine bodyPost_ret (v := .tuple #[seenV 0 ⟨#[]⟩ false, .int .i64 0]) (by simp [results, Try.results28, go_sem, nc0, nc1, nc2, nf0, nf1, nf2]) rfl ⟨rfl, ?_⟩
    exact fin (fun b => b = w.heap.size + 1) ((((p.up (fun b => b = w.heap.size + 1)).set (w.heap.size + 1) 0 _ (fun _ => rfl)).set (w.heap.size + 1) 1 _ (fun _ => rfl)).set (w.heap.size + 1) 2 _ (fun _ => rfl)) (fun b hb => by omega)
  | some z =>
    have hz : ∀ p : Ext W, SlotIn p.w z := fun p => (hS.ext p).slots _ (aget_mem hg)
    cases hf : freeB z.wd with
    | false =>
      have hv : readV l ⟨kd, ka, kb, ks⟩ = (seenV 0 ⟨#[]⟩ false, 60) := by simp only [readV, hg, hf]; rfl
      rw [hv]
      clear hv
      go_wp2_with fail
      rw [← hW]
      clear hW
      refine wp_region_ch NoS (by kernel_rfl) (by kernel_rfl) (fun p _ => ?_)
      (repeat (first | (refine wpMix_skip rfl rfl ?_) | (refine wpMix_step (fun K hK => ?_); go_simp; (with_reducible (refine hK _ _ ?_)); clear hK K)))
      refine wpMix_look (K := key_law) (encV := slotV) (k := ⟨kd, ka, kb, ks⟩) (l := l) (c := false) rfl _ _ rfl Try.underlying56 z178 rfl rfl (fun w' ⟨q, hq⟩ => by rw [hq]; exact (hS.ext q).mp) (v := .pointer (some ⟨z.x, 0, none⟩)) (by rw [hg]; rfl) ?_
      clear hg
      (repeat (first | (refine wpMix_skip rfl rfl ?_) | (refine wpMix_step (fun K hK => ?_); go_simp; (with_reducible (refine hK _ _ ?_)); clear hK K)))
      refine wpMix_nil ?_
      have hnp := p.blkE hn
      have nc0 := cell_at 0 hnp; have nc1 := cell_at 1 hnp; have nc2 := cell_at 2 hnp; have nf0 := frozen_at 0 hnp; have nf1 := frozen_at 1 hnp; have nf2 := frozen_at 2 hnp
      go_wp2_with (go_at_call 121; go_must (refine (locked_any _ _ _ _ _ _ _ (hz p)).mono ?_); rintro e w' ⟨rfl, rfl⟩; rw [hf])
      refine bodyPost_ret (v := .tuple #[seenV 0 ⟨#[]⟩ false, .int .i64 60]) (by simp [results, Try.results28, go_sem, nc0, nc1, nc2, nf0, nf1, nf2]) rfl ⟨rfl, ?_⟩
      exact fin (fun b => b = w.heap.size + 1) ((((p.up (fun b => b = w.heap.size + 1)).set (w.heap.size + 1) 0 _ (fun _ => rfl)).set (w.heap.size + 1) 1 _ (fun _ => rfl)).set (w.heap.size + 1) 2 _ (fun _ => rfl)) (fun b hb => by omega)
    | true =>
      have hv : readV l ⟨kd, ka, kb, ks⟩ = (seenV (stampZ z.wd) z.text (!goneB z.wd), 0) := by simp only [readV, hg, hf]; rfl
      rw [hv]
      clear hv
      go_wp2_with fail
      rw [← hW]
      clear hW
      refine wp_region_ch NoS (by kernel_rfl) (by kernel_rfl) (fun p _ => ?_)
      (repeat (first | (refine wpMix_skip rfl rfl ?_) | (refine wpMix_step (fun K hK => ?_); go_simp; (with_reducible (refine hK _ _ ?_)); clear hK K)))
      refine wpMix_look (K := key_law) (encV := slotV) (k := ⟨kd, ka, kb, ks⟩) (l := l) (c := false) rfl _ _ rfl Try.underlying56 z178 rfl rfl (fun w' ⟨q, hq⟩ => by rw [hq]; exact (hS.ext q).mp) (v := .pointer (some ⟨z.x, 0, none⟩)) (by rw [hg]; rfl) ?_
      clear hg
      (repeat (first | (refine wpMix_skip rfl rfl ?_) | (refine wpMix_step (fun K hK => ?_); go_simp; (with_reducible (refine hK _ _ ?_)); clear hK K)))
      refine wpMix_nil ?_
      go_wp2_with (first
        | (go_at_call 121; go_must (refine (locked_any _ _ _ _ _ _ _ (hz p)).mono ?_); rintro e w' ⟨rfl, rfl⟩; rw [hf])
        | (go_at_call 122; go_must (refine (slotSeen_any _ _ _ _ _ _ _ (hz p)).mono ?_); rintro e w' ⟨rfl, q, rfl⟩; have hnp := q.blkE (p.blkE hn); have nc0 := cell_at 0 hnp; have nc1 := cell_at 1 hnp; have nc2 := cell_at 2 hnp; have nf0 := frozen_at 0 hnp; have nf1 := frozen_at 1 hnp; have nf2 := frozen_at 2 hnp))
      refine bodyPost_ret (v := .tuple #[seenV (stampZ z.wd) z.text (!goneB z.wd), .int .i64 0]) (by simp [results, Try.results28, go_sem, nc0, nc1, nc2, nf0, nf1, nf2]) rfl ⟨rfl, ?_⟩
      exact fin (fun b => b = w.heap.size + 1) (((((p.thenE q).up (fun b => b = w.heap.size + 1)).set (w.heap.size + 1) 0 _ (fun _ => rfl)).set (w.heap.size + 1) 1 _ (fun _ => rfl)).set (w.heap.size + 1) 2 _ (fun _ => rfl)) (fun b hb => by omega)

def stillB (l : List (Key × Slot)) (k : Key) (who wd : Int) (has : Bool) : Bool :=
  match aget l k with
  | none => !has
  | some z => if !freeB z.wd && (z.who != who) then false else (goneB z.wd == !has) && ((stampZ z.wd == wd) || (!has && (stampZ z.wd == 0)))

set_option maxHeartbeats 1600000 in
theorem still_any (I : Ids) (fv : Value) (A : ArenaSt) (l : List (Key × Slot)) (kd ka kb : Int) (ks : ByteArray) (who vw : Int) (vs : ByteArray) (has : Bool) (w : World) (h : StoreAt w I fv A l) :
    Calls Try.prog 33 #[.pointer (some ⟨I.s, 0, none⟩), .agg #[.int .i64 kd, .int .i64 ka, .int .i64 kb, .string ks], .int .i64 who, .agg #[.int .u64 vw, .string vs, .bool has]] w fun e w' =>
      e = .returned (.bool (stillB l ⟨kd, ka, kb, ks⟩ who vw has)) ∧ ∃ p : Ext w, w' = p.w := by
  obtain ⟨W, hW⟩ : ∃ W, W = (w.alloc (.cells (keyCells kd ka kb ks) 23)).alloc (.cells #[.int .u64 vw, .string vs, .bool has] 37) := ⟨_, rfl⟩
  have hkb : W.heap[w.heap.size]? = some (.cells (keyCells kd ka kb ks) 23 (0, 0)) := by rw [hW]; exact heap_alloc_blk _ (heap_alloc_at _ _)
  have hvb : W.heap[w.heap.size + 1]? = some (.cells #[.int .u64 vw, .string vs, .bool has] 37 (0, 0)) := by rw [hW]; exact heap_alloc_eq _ (by simp)
  have hS : StoreAt W I fv A l := by rw [hW]; exact (h.alloc _).alloc _
  have fin : ∀ p : Ext W, ∃ q : Ext w, p.w = q.w := fun p => ⟨(((Ch.refl NoS w).alloc _).alloc _).onto hW p (fun b hb h => h), rfl⟩
  have k0 : ∀ p : Ext W, p.w.cell? ⟨w.heap.size, 0, none⟩ = some (.int .i64 kd) := fun p => cell_at 0 (p.blkE hkb); have k1 : ∀ p : Ext W, p.w.cell? ⟨w.heap.size, 1, none⟩ = some (.int .i64 ka) := fun p => cell_at 1 (p.blkE hkb); have k2 : ∀ p : Ext W, p.w.cell? ⟨w.heap.size, 2, none⟩ = some (.int .i64 kb) := fun p => cell_at 2 (p.blkE hkb); have k3 : ∀ p : Ext W, p.w.cell? ⟨w.heap.size, 3, none⟩ = some (.string ks) := fun p => cell_at 3 (p.blkE hkb)
  have v0 : ∀ p : Ext W, p.w.cell? ⟨(w.heap.size + 1), 0, none⟩ = some (.int .u64 vw) := fun p => cell_at 0 (p.blkE hvb); have v2 : ∀ p : Ext W, p.w.cell? ⟨(w.heap.size + 1), 2, none⟩ = some (.bool has) := fun p => cell_at 2 (p.blkE hvb)
  have m1 : ∀ p : Ext W, p.w.cell? ⟨I.s, 1, none⟩ = some (.map (some I.m)) := fun p => cell_at 1 (hS.ext p).st
  go_enter Try.func33, Try.ntmps33
  clear h
  cases hg : aget l ⟨kd, ka, kb, ks⟩ with
  | none =>
    have hv : stillB l ⟨kd, ka, kb, ks⟩ who vw has = !has := by simp only [stillB, hg]
    rw [hv]
    clear hv
    go_wp2_with fail
    rw [← hW]
    clear hW
    refine wp_region_ch NoS (by kernel_rfl) (by kernel_rfl) (fun p _ => ?_)
    (repeat (first | (refine wpMix_skip rfl rfl ?_) | (refine wpMix_step (fun K hK => ?_); go_simp; (with_reducible (refine hK _ _ ?_)); clear hK K)))
    refine wpMix_look (K := key_law) (encV := slotV) (k := ⟨kd, ka, kb, ks⟩) (l := l) (c := false) rfl _ _ rfl Try.underlying56 z178 rfl rfl (fun w' ⟨q, hq⟩ => by rw [hq]; exact (hS.ext q).mp) (v := .pointer none) (by rw [hg]; rfl) ?_
    clear hg
    (repeat (first | (refine wpMix_skip rfl rfl ?_) | (refine wpMix_step (fun K hK => ?_); go_simp; (with_reducible (refine hK _ _ ?_)); clear hK K)))
    refine wpMix_nil ?_
    go_wp2
    go_ret
    exact ⟨rfl, fin p⟩
  | some z =>
    have hz : ∀ p : Ext W, SlotIn p.w z := fun p => (hS.ext p).slots _ (aget_mem hg)
    have z2 : ∀ p : Ext W, p.w.cell? ⟨z.x, 2, none⟩ = some (.int .u64 z.wd) := fun p => cell_at 2 (hz p)
    have z4 : ∀ p : Ext W, p.w.cell? ⟨z.x, 4, none⟩ = some (.int .i64 z.who) := fun p => cell_at 4 (hz p)
    cases hb : (!freeB z.wd && (z.who != who)) with
    | true =>
      have hv : stillB l ⟨kd, ka, kb, ks⟩ who vw has = false := by simp only [stillB, hg, hb, if_true]
      rw [hv]
      clear hv
      have hf : freeB z.wd = false := by revert hb; cases freeB z.wd <;> simp
      have hw : (z.who != who) = true := by revert hb; cases (z.who != who) <;> simp
      clear hb
      go_wp2_with fail
      rw [← hW]
      clear hW
      refine wp_region_ch NoS (by kernel_rfl) (by kernel_rfl) (fun p _ => ?_)
      (repeat (first | (refine wpMix_skip rfl rfl ?_) | (refine wpMix_step (fun K hK => ?_); go_simp; (with_reducible (refine hK _ _ ?_)); clear hK K)))
      refine wpMix_look (K := key_law) (encV := slotV) (k := ⟨kd, ka, kb, ks⟩) (l := l) (c := false) rfl _ _ rfl Try.underlying56 z178 rfl rfl (fun w' ⟨q, hq⟩ => by rw [hq]; exact (hS.ext q).mp) (v := .pointer (some ⟨z.x, 0, none⟩)) (by rw [hg]; rfl) ?_
      clear hg
      (repeat (first | (refine wpMix_skip rfl rfl ?_) | (refine wpMix_step (fun K hK => ?_); go_simp; (with_reducible (refine hK _ _ ?_)); clear hK K)))
      refine wpMix_nil ?_
      go_wp2_with (go_at_call 121; go_must (refine (locked_any _ _ _ _ _ _ _ (hz p)).mono ?_); rintro e w' ⟨rfl, rfl⟩; rw [hf])
      go_ret
      exact ⟨rfl, fin p⟩
    | false =>
      have hv : stillB l ⟨kd, ka, kb, ks⟩ who vw has = ((goneB z.wd == !has) && ((stampZ z.wd == vw) || (!has && (stampZ z.wd == 0)))) := by simp only [stillB, hg, hb, Bool.false_eq_true, if_false]
      rw [hv]
      clear hv
      have fin2 : ∀ (p : Ext W) (q : Ext p.w), ∃ r : Ext w, q.w = r.w := fun p q => fin (p.thenE q)
      go_wp2_with fail
      rw [← hW]
      clear hW
      refine wp_region_ch NoS (by kernel_rfl) (by kernel_rfl) (fun p _ => ?_)
      (repeat (first | (refine wpMix_skip rfl rfl ?_) | (refine wpMix_step (fun K hK => ?_); go_simp; (with_reducible (refine hK _ _ ?_)); clear hK K)))
      refine wpMix_look (K := key_law) (encV := slotV) (k := ⟨kd, ka, kb, ks⟩) (l := l) (c := false) rfl _ _ rfl Try.underlying56 z178 rfl rfl (fun w' ⟨q, hq⟩ => by rw [hq]; exact (hS.ext q).mp) (v := .pointer (some ⟨z.x, 0, none⟩)) (by rw [hg]; rfl) ?_
      clear hg
      (repeat (first | (refine wpMix_skip rfl rfl ?_) | (refine wpMix_step (fun K hK => ?_); go_simp; (with_reducible (refine hK _ _ ?_)); clear hK K)))
      refine wpMix_nil ?_
      have z2' : ∀ q : Ext p.w, q.w.cell? ⟨z.x, 2, none⟩ = some (.int .u64 z.wd) := fun q => z2 (p.thenE q)
      have v0' : ∀ q : Ext p.w, q.w.cell? ⟨w.heap.size + 1, 0, none⟩ = some (.int .u64 vw) := fun q => v0 (p.thenE q)
      have v2' : ∀ q : Ext p.w, q.w.cell? ⟨w.heap.size + 1, 2, none⟩ = some (.bool has) := fun q => v2 (p.thenE q)
      have hz' : ∀ q : Ext p.w, SlotIn q.w z := fun q => hz (p.thenE q)
      have fin3 := fin2 p
      have hb' : (freeB z.wd = true) ∨ (freeB z.wd = false ∧ (z.who != who) = false) := by revert hb; cases freeB z.wd <;> simp
      clear fin fin2 hb
      rcases hb' with hf | ⟨hf, hw⟩
      · cases hgo : goneB z.wd <;> cases has
        · go_wp2_with (go_at_call 121; go_must (refine (locked_any _ _ _ _ _ _ _ (hz p)).mono ?_); rintro e w' ⟨rfl, rfl⟩; rw [hf]); refine wp_region_ch NoS (by kernel_rfl) (by kernel_rfl) (fun q _ => ?_); (repeat (first | (refine wpMix_skip rfl rfl ?_) | (refine wpMix_step (fun K hK => ?_); go_simp; (with_reducible (refine hK _ _ ?_)); clear hK K))); refine wpMix_step (fun K hK => ?_); go_simp; refine (Calls.inCh (slotAbsent_any _ _ _ _ _ _ _ (hz' q))).mono ?_; rintro e w' ⟨rfl, q, rfl⟩; refine ⟨⟨q, rfl⟩, hK _ _ ?_⟩; clear hK K; rw [hgo]; (repeat (first | (refine wpMix_skip rfl rfl ?_) | (refine wpMix_step (fun K hK => ?_); go_simp; (with_reducible (refine hK _ _ ?_)); clear hK K) | (refine wpMix_step (fun K hK => ?_); go_simp; (with_reducible refine (stamp_any _ _).mono ?_); rintro e w' ⟨rfl, rfl⟩; refine ⟨⟨q, rfl⟩, hK _ _ ?_⟩; clear hK K))); refine wpMix_nil ?_; go_wp2; go_ret; exact ⟨by simp_all, fin3 q⟩
        · cases he : (stampZ z.wd == vw)
          · go_wp2_with (go_at_call 121; go_must (refine (locked_any _ _ _ _ _ _ _ (hz p)).mono ?_); rintro e w' ⟨rfl, rfl⟩; rw [hf]); refine wp_region_ch NoS (by kernel_rfl) (by kernel_rfl) (fun q _ => ?_); (repeat (first | (refine wpMix_skip rfl rfl ?_) | (refine wpMix_step (fun K hK => ?_); go_simp; (with_reducible (refine hK _ _ ?_)); clear hK K))); refine wpMix_step (fun K hK => ?_); go_simp; refine (Calls.inCh (slotAbsent_any _ _ _ _ _ _ _ (hz' q))).mono ?_; rintro e w' ⟨rfl, q, rfl⟩; refine ⟨⟨q, rfl⟩, hK _ _ ?_⟩; clear hK K; rw [hgo]; (repeat (first | (refine wpMix_skip rfl rfl ?_) | (refine wpMix_step (fun K hK => ?_); go_simp; (with_reducible (refine hK _ _ ?_)); clear hK K) | (refine wpMix_step (fun K hK => ?_); go_simp; (with_reducible refine (stamp_any _ _).mono ?_); rintro e w' ⟨rfl, rfl⟩; refine ⟨⟨q, rfl⟩, hK _ _ ?_⟩; clear hK K))); refine wpMix_nil ?_; go_wp2; go_ret; exact ⟨by simp_all, fin3 q⟩
          · go_wp2_with (go_at_call 121; go_must (refine (locked_any _ _ _ _ _ _ _ (hz p)).mono ?_); rintro e w' ⟨rfl, rfl⟩; rw [hf]); refine wp_region_ch NoS (by kernel_rfl) (by kernel_rfl) (fun q _ => ?_); (repeat (first | (refine wpMix_skip rfl rfl ?_) | (refine wpMix_step (fun K hK => ?_); go_simp; (with_reducible (refine hK _ _ ?_)); clear hK K))); refine wpMix_step (fun K hK => ?_); go_simp; refine (Calls.inCh (slotAbsent_any _ _ _ _ _ _ _ (hz' q))).mono ?_; rintro e w' ⟨rfl, q, rfl⟩; refine ⟨⟨q, rfl⟩, hK _ _ ?_⟩; clear hK K; rw [hgo]; (repeat (first | (refine wpMix_skip rfl rfl ?_) | (refine wpMix_step (fun K hK => ?_); go_simp; (with_reducible (refine hK _ _ ?_)); clear hK K) | (refine wpMix_step (fun K hK => ?_); go_simp; (with_reducible refine (stamp_any _ _).mono ?_); rintro e w' ⟨rfl, rfl⟩; refine ⟨⟨q, rfl⟩, hK _ _ ?_⟩; clear hK K))); refine wpMix_nil ?_; go_wp2; go_ret; exact ⟨by simp_all, fin3 q⟩
        · cases he : (stampZ z.wd == vw)
          · cases he0 : (stampZ z.wd == 0)
            · go_wp2_with (go_at_call 121; go_must (refine (locked_any _ _ _ _ _ _ _ (hz p)).mono ?_); rintro e w' ⟨rfl, rfl⟩; rw [hf]); refine wp_region_ch NoS (by kernel_rfl) (by kernel_rfl) (fun q _ => ?_); (repeat (first | (refine wpMix_skip rfl rfl ?_) | (refine wpMix_step (fun K hK => ?_); go_simp; (with_reducible (refine hK _ _ ?_)); clear hK K))); refine wpMix_step (fun K hK => ?_); go_simp; refine (Calls.inCh (slotAbsent_any _ _ _ _ _ _ _ (hz' q))).mono ?_; rintro e w' ⟨rfl, q, rfl⟩; refine ⟨⟨q, rfl⟩, hK _ _ ?_⟩; clear hK K; rw [hgo]; (repeat (first | (refine wpMix_skip rfl rfl ?_) | (refine wpMix_step (fun K hK => ?_); go_simp; (with_reducible (refine hK _ _ ?_)); clear hK K) | (refine wpMix_step (fun K hK => ?_); go_simp; (with_reducible refine (stamp_any _ _).mono ?_); rintro e w' ⟨rfl, rfl⟩; refine ⟨⟨q, rfl⟩, hK _ _ ?_⟩; clear hK K))); refine wpMix_nil ?_; go_wp2; go_ret; exact ⟨by simp_all, fin3 q⟩
            · go_wp2_with (go_at_call 121; go_must (refine (locked_any _ _ _ _ _ _ _ (hz p)).mono ?_); rintro e w' ⟨rfl, rfl⟩; rw [hf]); refine wp_region_ch NoS (by kernel_rfl) (by kernel_rfl) (fun q _ => ?_); (repeat (first | (refine wpMix_skip rfl rfl ?_) | (refine wpMix_step (fun K hK => ?_); go_simp; (with_reducible (refine hK _ _ ?_)); clear hK K))); refine wpMix_step (fun K hK => ?_); go_simp; refine (Calls.inCh (slotAbsent_any _ _ _ _ _ _ _ (hz' q))).mono ?_; rintro e w' ⟨rfl, q, rfl⟩; refine ⟨⟨q, rfl⟩, hK _ _ ?_⟩; clear hK K; rw [hgo]; (repeat (first | (refine wpMix_skip rfl rfl ?_) | (refine wpMix_step (fun K hK => ?_); go_simp; (with_reducible (refine hK _ _ ?_)); clear hK K) | (refine wpMix_step (fun K hK => ?_); go_simp; (with_reducible refine (stamp_any _ _).mono ?_); rintro e w' ⟨rfl, rfl⟩; refine ⟨⟨q, rfl⟩, hK _ _ ?_⟩; clear hK K))); refine wpMix_nil ?_; go_wp2; go_ret; exact ⟨by simp_all, fin3 q⟩
          · go_wp2_with (go_at_call 121; go_must (refine (locked_any _ _ _ _ _ _ _ (hz p)).mono ?_); rintro e w' ⟨rfl, rfl⟩; rw [hf]); refine wp_region_ch NoS (by kernel_rfl) (by kernel_rfl) (fun q _ => ?_); (repeat (first | (refine wpMix_skip rfl rfl ?_) | (refine wpMix_step (fun K hK => ?_); go_simp; (with_reducible (refine hK _ _ ?_)); clear hK K))); refine wpMix_step (fun K hK => ?_); go_simp; refine (Calls.inCh (slotAbsent_any _ _ _ _ _ _ _ (hz' q))).mono ?_; rintro e w' ⟨rfl, q, rfl⟩; refine ⟨⟨q, rfl⟩, hK _ _ ?_⟩; clear hK K; rw [hgo]; (repeat (first | (refine wpMix_skip rfl rfl ?_) | (refine wpMix_step (fun K hK => ?_); go_simp; (with_reducible (refine hK _ _ ?_)); clear hK K) | (refine wpMix_step (fun K hK => ?_); go_simp; (with_reducible refine (stamp_any _ _).mono ?_); rintro e w' ⟨rfl, rfl⟩; refine ⟨⟨q, rfl⟩, hK _ _ ?_⟩; clear hK K))); refine wpMix_nil ?_; go_wp2; go_ret; exact ⟨by simp_all, fin3 q⟩
        · go_wp2_with (go_at_call 121; go_must (refine (locked_any _ _ _ _ _ _ _ (hz p)).mono ?_); rintro e w' ⟨rfl, rfl⟩; rw [hf]); refine wp_region_ch NoS (by kernel_rfl) (by kernel_rfl) (fun q _ => ?_); (repeat (first | (refine wpMix_skip rfl rfl ?_) | (refine wpMix_step (fun K hK => ?_); go_simp; (with_reducible (refine hK _ _ ?_)); clear hK K))); refine wpMix_step (fun K hK => ?_); go_simp; refine (Calls.inCh (slotAbsent_any _ _ _ _ _ _ _ (hz' q))).mono ?_; rintro e w' ⟨rfl, q, rfl⟩; refine ⟨⟨q, rfl⟩, hK _ _ ?_⟩; clear hK K; rw [hgo]; (repeat (first | (refine wpMix_skip rfl rfl ?_) | (refine wpMix_step (fun K hK => ?_); go_simp; (with_reducible (refine hK _ _ ?_)); clear hK K) | (refine wpMix_step (fun K hK => ?_); go_simp; (with_reducible refine (stamp_any _ _).mono ?_); rintro e w' ⟨rfl, rfl⟩; refine ⟨⟨q, rfl⟩, hK _ _ ?_⟩; clear hK K))); refine wpMix_nil ?_; go_wp2; go_ret; exact ⟨by simp_all, fin3 q⟩
      · cases hgo : goneB z.wd <;> cases has
        · go_wp2_with (go_at_call 121; go_must (refine (locked_any _ _ _ _ _ _ _ (hz p)).mono ?_); rintro e w' ⟨rfl, rfl⟩; rw [hf]); refine wp_region_ch NoS (by kernel_rfl) (by kernel_rfl) (fun q _ => ?_); (repeat (first | (refine wpMix_skip rfl rfl ?_) | (refine wpMix_step (fun K hK => ?_); go_simp; (with_reducible (refine hK _ _ ?_)); clear hK K))); refine wpMix_step (fun K hK => ?_); go_simp; refine (Calls.inCh (slotAbsent_any _ _ _ _ _ _ _ (hz' q))).mono ?_; rintro e w' ⟨rfl, q, rfl⟩; refine ⟨⟨q, rfl⟩, hK _ _ ?_⟩; clear hK K; rw [hgo]; (repeat (first | (refine wpMix_skip rfl rfl ?_) | (refine wpMix_step (fun K hK => ?_); go_simp; (with_reducible (refine hK _ _ ?_)); clear hK K) | (refine wpMix_step (fun K hK => ?_); go_simp; (with_reducible refine (stamp_any _ _).mono ?_); rintro e w' ⟨rfl, rfl⟩; refine ⟨⟨q, rfl⟩, hK _ _ ?_⟩; clear hK K))); refine wpMix_nil ?_; go_wp2; go_ret; exact ⟨by simp_all, fin3 q⟩
        · cases he : (stampZ z.wd == vw)
          · go_wp2_with (go_at_call 121; go_must (refine (locked_any _ _ _ _ _ _ _ (hz p)).mono ?_); rintro e w' ⟨rfl, rfl⟩; rw [hf]); refine wp_region_ch NoS (by kernel_rfl) (by kernel_rfl) (fun q _ => ?_); (repeat (first | (refine wpMix_skip rfl rfl ?_) | (refine wpMix_step (fun K hK => ?_); go_simp; (with_reducible (refine hK _ _ ?_)); clear hK K))); refine wpMix_step (fun K hK => ?_); go_simp; refine (Calls.inCh (slotAbsent_any _ _ _ _ _ _ _ (hz' q))).mono ?_; rintro e w' ⟨rfl, q, rfl⟩; refine ⟨⟨q, rfl⟩, hK _ _ ?_⟩; clear hK K; rw [hgo]; (repeat (first | (refine wpMix_skip rfl rfl ?_) | (refine wpMix_step (fun K hK => ?_); go_simp; (with_reducible (refine hK _ _ ?_)); clear hK K) | (refine wpMix_step (fun K hK => ?_); go_simp; (with_reducible refine (stamp_any _ _).mono ?_); rintro e w' ⟨rfl, rfl⟩; refine ⟨⟨q, rfl⟩, hK _ _ ?_⟩; clear hK K))); refine wpMix_nil ?_; go_wp2; go_ret; exact ⟨by simp_all, fin3 q⟩
          · go_wp2_with (go_at_call 121; go_must (refine (locked_any _ _ _ _ _ _ _ (hz p)).mono ?_); rintro e w' ⟨rfl, rfl⟩; rw [hf]); refine wp_region_ch NoS (by kernel_rfl) (by kernel_rfl) (fun q _ => ?_); (repeat (first | (refine wpMix_skip rfl rfl ?_) | (refine wpMix_step (fun K hK => ?_); go_simp; (with_reducible (refine hK _ _ ?_)); clear hK K))); refine wpMix_step (fun K hK => ?_); go_simp; refine (Calls.inCh (slotAbsent_any _ _ _ _ _ _ _ (hz' q))).mono ?_; rintro e w' ⟨rfl, q, rfl⟩; refine ⟨⟨q, rfl⟩, hK _ _ ?_⟩; clear hK K; rw [hgo]; (repeat (first | (refine wpMix_skip rfl rfl ?_) | (refine wpMix_step (fun K hK => ?_); go_simp; (with_reducible (refine hK _ _ ?_)); clear hK K) | (refine wpMix_step (fun K hK => ?_); go_simp; (with_reducible refine (stamp_any _ _).mono ?_); rintro e w' ⟨rfl, rfl⟩; refine ⟨⟨q, rfl⟩, hK _ _ ?_⟩; clear hK K))); refine wpMix_nil ?_; go_wp2; go_ret; exact ⟨by simp_all, fin3 q⟩
        · cases he : (stampZ z.wd == vw)
          · cases he0 : (stampZ z.wd == 0)
            · go_wp2_with (go_at_call 121; go_must (refine (locked_any _ _ _ _ _ _ _ (hz p)).mono ?_); rintro e w' ⟨rfl, rfl⟩; rw [hf]); refine wp_region_ch NoS (by kernel_rfl) (by kernel_rfl) (fun q _ => ?_); (repeat (first | (refine wpMix_skip rfl rfl ?_) | (refine wpMix_step (fun K hK => ?_); go_simp; (with_reducible (refine hK _ _ ?_)); clear hK K))); refine wpMix_step (fun K hK => ?_); go_simp; refine (Calls.inCh (slotAbsent_any _ _ _ _ _ _ _ (hz' q))).mono ?_; rintro e w' ⟨rfl, q, rfl⟩; refine ⟨⟨q, rfl⟩, hK _ _ ?_⟩; clear hK K; rw [hgo]; (repeat (first | (refine wpMix_skip rfl rfl ?_) | (refine wpMix_step (fun K hK => ?_); go_simp; (with_reducible (refine hK _ _ ?_)); clear hK K) | (refine wpMix_step (fun K hK => ?_); go_simp; (with_reducible refine (stamp_any _ _).mono ?_); rintro e w' ⟨rfl, rfl⟩; refine ⟨⟨q, rfl⟩, hK _ _ ?_⟩; clear hK K))); refine wpMix_nil ?_; go_wp2; go_ret; exact ⟨by simp_all, fin3 q⟩
            · go_wp2_with (go_at_call 121; go_must (refine (locked_any _ _ _ _ _ _ _ (hz p)).mono ?_); rintro e w' ⟨rfl, rfl⟩; rw [hf]); refine wp_region_ch NoS (by kernel_rfl) (by kernel_rfl) (fun q _ => ?_); (repeat (first | (refine wpMix_skip rfl rfl ?_) | (refine wpMix_step (fun K hK => ?_); go_simp; (with_reducible (refine hK _ _ ?_)); clear hK K))); refine wpMix_step (fun K hK => ?_); go_simp; refine (Calls.inCh (slotAbsent_any _ _ _ _ _ _ _ (hz' q))).mono ?_; rintro e w' ⟨rfl, q, rfl⟩; refine ⟨⟨q, rfl⟩, hK _ _ ?_⟩; clear hK K; rw [hgo]; (repeat (first | (refine wpMix_skip rfl rfl ?_) | (refine wpMix_step (fun K hK => ?_); go_simp; (with_reducible (refine hK _ _ ?_)); clear hK K) | (refine wpMix_step (fun K hK => ?_); go_simp; (with_reducible refine (stamp_any _ _).mono ?_); rintro e w' ⟨rfl, rfl⟩; refine ⟨⟨q, rfl⟩, hK _ _ ?_⟩; clear hK K))); refine wpMix_nil ?_; go_wp2; go_ret; exact ⟨by simp_all, fin3 q⟩
          · go_wp2_with (go_at_call 121; go_must (refine (locked_any _ _ _ _ _ _ _ (hz p)).mono ?_); rintro e w' ⟨rfl, rfl⟩; rw [hf]); refine wp_region_ch NoS (by kernel_rfl) (by kernel_rfl) (fun q _ => ?_); (repeat (first | (refine wpMix_skip rfl rfl ?_) | (refine wpMix_step (fun K hK => ?_); go_simp; (with_reducible (refine hK _ _ ?_)); clear hK K))); refine wpMix_step (fun K hK => ?_); go_simp; refine (Calls.inCh (slotAbsent_any _ _ _ _ _ _ _ (hz' q))).mono ?_; rintro e w' ⟨rfl, q, rfl⟩; refine ⟨⟨q, rfl⟩, hK _ _ ?_⟩; clear hK K; rw [hgo]; (repeat (first | (refine wpMix_skip rfl rfl ?_) | (refine wpMix_step (fun K hK => ?_); go_simp; (with_reducible (refine hK _ _ ?_)); clear hK K) | (refine wpMix_step (fun K hK => ?_); go_simp; (with_reducible refine (stamp_any _ _).mono ?_); rintro e w' ⟨rfl, rfl⟩; refine ⟨⟨q, rfl⟩, hK _ _ ?_⟩; clear hK K))); refine wpMix_nil ?_; go_wp2; go_ret; exact ⟨by simp_all, fin3 q⟩
        · go_wp2_with (go_at_call 121; go_must (refine (locked_any _ _ _ _ _ _ _ (hz p)).mono ?_); rintro e w' ⟨rfl, rfl⟩; rw [hf]); refine wp_region_ch NoS (by kernel_rfl) (by kernel_rfl) (fun q _ => ?_); (repeat (first | (refine wpMix_skip rfl rfl ?_) | (refine wpMix_step (fun K hK => ?_); go_simp; (with_reducible (refine hK _ _ ?_)); clear hK K))); refine wpMix_step (fun K hK => ?_); go_simp; refine (Calls.inCh (slotAbsent_any _ _ _ _ _ _ _ (hz' q))).mono ?_; rintro e w' ⟨rfl, q, rfl⟩; refine ⟨⟨q, rfl⟩, hK _ _ ?_⟩; clear hK K; rw [hgo]; (repeat (first | (refine wpMix_skip rfl rfl ?_) | (refine wpMix_step (fun K hK => ?_); go_simp; (with_reducible (refine hK _ _ ?_)); clear hK K) | (refine wpMix_step (fun K hK => ?_); go_simp; (with_reducible refine (stamp_any _ _).mono ?_); rintro e w' ⟨rfl, rfl⟩; refine ⟨⟨q, rfl⟩, hK _ _ ?_⟩; clear hK K))); refine wpMix_nil ?_; go_wp2; go_ret; exact ⟨by simp_all, fin3 q⟩
end Go.Proofs.Cob

namespace Go.Proofs.Cob
open Go Go.RowKit Go.Cob
set_option linter.unusedSimpArgs false
set_option linter.unusedVariables false

theorem key_any (n : Int) (w : World) : Calls Try.prog 88 #[.int .i64 n] w fun e w' => e = .returned (.agg #[.int .i64 1, .int .i64 n, .int .i64 0, .string ⟨#[]⟩]) ∧ ∃ p : Ext w, w' = p.w := by
  go_enter Try.func88, Try.ntmps88
  go_wp2
  refine bodyPost_ret (v := .agg #[.int .i64 1, .int .i64 n, .int .i64 0, .string ⟨#[]⟩]) (by simp [results, Try.results88, go_sem]) rfl ⟨rfl, (Ch.refl _ w).alloc _, rfl⟩
theorem seen_any (s : ByteArray) (w : World) : Calls Try.prog 27 #[.string s] w fun e w' => e = .returned (seenV 0 s true) ∧ ∃ p : Ext w, w' = p.w := by
  go_enter Try.func27, Try.ntmps27
  go_wp2
  refine bodyPost_ret (v := seenV 0 s true) (by simp [results, Try.results27, go_sem]) rfl ⟨rfl, (Ch.refl _ w).alloc _, rfl⟩

theorem cellNew_bad (room : Int) (w : World) (h : room < 0 ∨ 1048576 < room) :
    Calls Try.prog 24 #[.int .i64 room] w fun e w' => e = .returned (.tuple #[.pointer none, .int .i64 2]) ∧ w = w' := by
  go_enter Try.func24, Try.ntmps24
  go_wp2_with (go_at_call 115; go_must (refine (arenaNew_bad _ _ h).mono ?_); rintro e w' ⟨rfl, rfl⟩)
  go_ret2
  exact ⟨rfl, rfl⟩

theorem cellNew_ok (room : Int) (w : World) (h0 : 0 ≤ room) (h1 : room ≤ 1048576) :
    Calls Try.prog 24 #[.int .i64 room] w fun e w' => ∃ (p : Ext w) (I : Ids), w' = p.w ∧ e = .returned (.tuple #[.pointer (some ⟨I.s, 0, none⟩), .int .i64 0]) ∧
      StoreAt p.w I (.slice none 0 0) ⟨room, 0, [], [], []⟩ [] ∧ (∀ b, Foot I (.slice none 0 0) [] b → w.heap.size ≤ b) := by
  have hmm := @run_makeMap Try.prog
  go_enter Try.func24, Try.ntmps24
  go_wp2_with (go_at_call 115; go_must (refine (arenaNew_ok _ _ h0 h1).mono ?_); rintro e w' ⟨p, rfl, rfl, hsz, hA⟩; have Hsz : Hid (p.w.heap.size = w.heap.size + 3) := hsz; clear hsz)
  have hsz := Hsz.out
  go_ret2
  refine ⟨(p.alloc (.map #[] 0)).alloc (.cells #[.pointer (some ⟨w.heap.size + 2, 0, none⟩), .map (some p.w.heap.size)] 58), ⟨p.w.heap.size + 1, w.heap.size + 2, p.w.heap.size, w.heap.size, w.heap.size + 1⟩, rfl, rfl, ?_, ?_⟩
  · refine ⟨heap_alloc_eq _ (by simp), ?_, ?_, by simp, by simp, by simp [hsz], by simp [hsz]⟩
    · refine hA.keep ?_ ?_ ?_ (by simp [Value.ownBlock])
      all_goals
        show (World.alloc (World.alloc _ _) _).heap[_]? = _
        rw [heap_alloc_lt _ (by simp; omega), heap_alloc_lt _ (by omega)]
    · refine (MapAt.made (encK := keyV) (encV := slotV) p.w).keep ?_
      show (World.alloc (World.alloc _ _) _).heap[p.w.heap.size]? = _
      rw [heap_alloc_lt _ (by simp)]
  · intro b hb
    have := p.size
    rcases hb with rfl | rfl | rfl | rfl | rfl | hb | ⟨q, hq, rfl⟩
    · simp; omega
    · simp
    · simpa using this
    · simp
    · simp
    · simp [Value.ownBlock] at hb
    · simp at hq
end Go.Proofs.Cob

namespace Go.Proofs.Cob
open Go Go.RowKit Go.Cob
set_option linter.unusedSimpArgs false
set_option linter.unusedVariables false

theorem ents_congr {α β α' β' : Type} {encK : α → Value} {encV : β → Value} {encK' : α' → Value} {encV' : β' → Value} : ∀ (l : List (α × β)) (l' : List (α' × β')) (bs : List Nat), l.map (fun p => (encK p.1, encV p.2)) = l'.map (fun p => (encK' p.1, encV' p.2)) → ents encK encV l bs = ents encK' encV' l' bs
  | [], [], _, _ => by cases ‹List Nat› <;> rfl
  | [], _ :: _, _, h => by simp at h
  | _ :: _, [], _, h => by simp at h
  | (k, v) :: l, (k', v') :: l', [], h => rfl
  | (k, v) :: l, (k', v') :: l', b :: bs, h => by
    simp only [List.map_cons, List.cons.injEq, Prod.mk.injEq] at h
    simp only [ents]
    rw [ents_congr l l' bs h.2, h.1.1, h.1.2]
theorem _root_.Go.Cob.MapAt.congr {α β : Type} [DecidableEq α] {encK : α → Value} {encV : β → Value} {w : World} {m : Nat} {l l' : List (α × β)} (h : MapAt encK encV w m l) (e : l.map (fun p => (encK p.1, encV p.2)) = l'.map (fun p => (encK p.1, encV p.2))) : MapAt encK encV w m l' := by
  obtain ⟨bs, c, h1, h2, h3⟩ := h
  exact ⟨bs, c, by rw [← ents_congr l l' bs e]; exact h1, by have := congrArg List.length e; simp at this; omega, h3⟩

theorem aget_cases {α β : Type} [DecidableEq α] {l : List (α × β)} {k : α} {v : β} (h : aget l k = some v) : ∃ l1 l2, l = l1 ++ (k, v) :: l2 ∧ adel l k = l1 ++ l2 ∧ ∀ v', aput l k v' = l1 ++ (k, v') :: l2 := by
  rcases find_cases l k with ⟨-, e, -⟩ | ⟨l1, v0, l2, e0, -, e1, e2, e3⟩
  · rw [e] at h; cases h
  · rw [e1] at h; cases h; exact ⟨l1, l2, e0, e2, e3⟩

theorem StoreAt.ne {w : World} {I : Ids} {fv : Value} {A : ArenaSt} {l : List (Key × Slot)} (h : StoreAt w I fv A l) {z : Slot} (hz : SlotIn w z) : I.s ≠ z.x ∧ I.a ≠ z.x ∧ I.m ≠ z.x ∧ I.g ≠ z.x ∧ I.t ≠ z.x ∧ ∀ b, fv.ownBlock = some b → b ≠ z.x :=
  ⟨blkNe h.st hz (by decide), blkNe h.ar.1 hz (by decide), h.mp.ne_cells hz, h.ar.2.1.ne_cells hz, h.ar.2.2.1.ne_cells hz, fun b hb => by obtain ⟨_, hc⟩ := rowBlk h.ar.2.2.2.1 hb; exact blkNe hc hz (by decide)⟩

/-- One slot is written. -/
theorem StoreAt.setSlot {w : World} {I : Ids} {fv : Value} {A : ArenaSt} {l : List (Key × Slot)} (h : StoreAt w I fv A l) {k : Key} {z z' : Slot} (hg : aget l k = some z) (hx : z'.x = z.x)
    (p : Ch (fun b => b = z.x) w) (hz : SlotIn p.w z') : StoreAt p.w I fv A (aput l k z') := by
  obtain ⟨n1, n2, n3, n4, n5, n6⟩ := h.ne (h.slots _ (aget_mem hg))
  obtain ⟨l1, l2, e0, -, e1⟩ := aget_cases hg
  have hnd := h.nodup
  rw [e0] at hnd
  simp only [List.map_append, List.map_cons, List.nodup_append, List.nodup_cons] at hnd
  rw [e1 z']
  refine ⟨p.blk h.st n1, h.ar.keep (p.same _ (lt_of_blk h.ar.1) n2) (p.same _ h.ar.2.1.lt n4) (p.same _ h.ar.2.2.1.lt n5) (fun b hb => p.same b (h.lt (.inr (.inr (.inr (.inr (.inr (.inl hb))))))) (n6 b hb)), ?_, ?_, ?_, h.mg, h.mt⟩
  · refine ((h.mp.keep (p.same _ h.mp.lt n3)).congr ?_)
    rw [e0]; simp [hx]
  · intro q hq
    rcases List.mem_append.1 hq with hq | hq
    · exact p.blk (h.slots q (by rw [e0]; simp [hq])) (hnd.2.2 _ (List.mem_map.2 ⟨q, hq, rfl⟩) _ (List.mem_cons_self ..))
    · rcases List.mem_cons.1 hq with rfl | hq
      · exact hz
      · exact p.blk (h.slots q (by rw [e0]; simp [hq])) (fun e => hnd.2.1.1 (by rw [← e]; exact List.mem_map.2 ⟨q, hq, rfl⟩))
  · simp only [List.map_append, List.map_cons, List.nodup_append, List.nodup_cons, hx]; exact hnd

def badB (stamp : Int) (z : Slot) (vs : ByteArray) (has : Bool) : Bool := (stamp != stampZ stamp) || decide (stamp ≤ stampZ z.wd) || (!vs.toList.isEmpty && !has)

set_option maxHeartbeats 1600000 in
theorem install_not (I : Ids) (fv : Value) (A : ArenaSt) (l : List (Key × Slot)) (kd ka kb : Int) (ks : ByteArray) (who stamp vw : Int) (vs : ByteArray) (has : Bool) (w : World) (h : StoreAt w I fv A l) (hh : holdsB l ⟨kd, ka, kb, ks⟩ who = false) :
    Calls Try.prog 26 #[.pointer (some ⟨I.s, 0, none⟩), .agg #[.int .i64 kd, .int .i64 ka, .int .i64 kb, .string ks], .int .i64 who, .int .u64 stamp, .agg #[.int .u64 vw, .string vs, .bool has]] w fun e w' =>
      e = .returned (.int .i64 51) ∧ ∃ p : Ext w, w' = p.w := by
  have hS := (h.alloc (.cells (keyCells kd ka kb ks) 23)).alloc (.cells #[.int .u64 vw, .string vs, .bool has] 37)
  go_enter Try.func26, Try.ntmps26
  go_wp2_with (go_at_call 120; go_must (refine (holds_any _ _ _ _ _ _ _ _ _ _ hS).mono ?_); rintro e w' ⟨rfl, p, rfl⟩; rw [hh])
  go_ret
  exact ⟨rfl, (((Ch.refl NoS w).alloc _).alloc _).thenE p, rfl⟩

set_option maxHeartbeats 1600000 in
theorem install_bad (I : Ids) (fv : Value) (A : ArenaSt) (l : List (Key × Slot)) (kd ka kb : Int) (ks : ByteArray) (who stamp vw : Int) (vs : ByteArray) (has : Bool) (w : World) (z : Slot) (h : StoreAt w I fv A l) (hh : holdsB l ⟨kd, ka, kb, ks⟩ who = true)
    (hg : aget l ⟨kd, ka, kb, ks⟩ = some z) (hb : badB stamp z vs has = true) :
    Calls Try.prog 26 #[.pointer (some ⟨I.s, 0, none⟩), .agg #[.int .i64 kd, .int .i64 ka, .int .i64 kb, .string ks], .int .i64 who, .int .u64 stamp, .agg #[.int .u64 vw, .string vs, .bool has]] w fun e w' =>
      e = .returned (.int .i64 2) ∧ ∃ p : Ext w, w' = p.w := by
  have hS := (h.alloc (.cells (keyCells kd ka kb ks) 23)).alloc (.cells #[.int .u64 vw, .string vs, .bool has] 37)
  obtain ⟨W, hW⟩ : ∃ W, W = (w.alloc (.cells (keyCells kd ka kb ks) 23)).alloc (.cells #[.int .u64 vw, .string vs, .bool has] 37) := ⟨_, rfl⟩
  rw [← hW] at hS
  have hkb : W.heap[w.heap.size]? = some (.cells (keyCells kd ka kb ks) 23 (0, 0)) := by rw [hW]; exact heap_alloc_blk _ (heap_alloc_at _ _)
  have hvb : W.heap[w.heap.size + 1]? = some (.cells #[.int .u64 vw, .string vs, .bool has] 37 (0, 0)) := by rw [hW]; exact heap_alloc_eq _ (by simp)
  have fin : ∀ p : Ext W, ∃ q : Ext w, p.w = q.w := fun p => ⟨(((Ch.refl NoS w).alloc _).alloc _).onto hW p (fun b hb h => h), rfl⟩
  go_enter Try.func26, Try.ntmps26
  clear h
  go_wp2_with fail
  rw [← hW]
  clear hW
  go_wp2_with (go_at_call 120; go_must (refine (holds_any _ _ _ _ _ _ _ _ _ _ hS).mono ?_); rintro e w' ⟨rfl, p, rfl⟩; rw [hh])
  have hS1 := hS.ext p; have hkb1 := p.blkE hkb; have hvb1 := p.blkE hvb; have fin1 : ∀ q : Ext p.w, ∃ r : Ext w, q.w = r.w := fun q => fin (p.thenE q); clear fin hS hkb hvb; generalize p.w = W1 at hS1 hkb1 hvb1 fin1 ⊢; clear p
  have k0 : ∀ p : Ext W1, p.w.cell? ⟨w.heap.size, 0, none⟩ = some (.int .i64 kd) := fun p => cell_at 0 (p.blkE hkb1); have k1 : ∀ p : Ext W1, p.w.cell? ⟨w.heap.size, 1, none⟩ = some (.int .i64 ka) := fun p => cell_at 1 (p.blkE hkb1); have k2 : ∀ p : Ext W1, p.w.cell? ⟨w.heap.size, 2, none⟩ = some (.int .i64 kb) := fun p => cell_at 2 (p.blkE hkb1); have k3 : ∀ p : Ext W1, p.w.cell? ⟨w.heap.size, 3, none⟩ = some (.string ks) := fun p => cell_at 3 (p.blkE hkb1)
  have m1 : ∀ p : Ext W1, p.w.cell? ⟨I.s, 1, none⟩ = some (.map (some I.m)) := fun p => cell_at 1 (hS1.ext p).st
  refine wp_region_ch NoS (by kernel_rfl) (by kernel_rfl) (fun p _ => ?_)
  (repeat (first | (refine wpMix_skip rfl rfl ?_) | (refine wpMix_step (fun K hK => ?_); go_simp; (with_reducible (refine hK _ _ ?_)); clear hK K)))
  refine wpMix_look (K := key_law) (encV := slotV) (k := ⟨kd, ka, kb, ks⟩) (l := l) (c := false) rfl _ _ rfl Try.underlying56 z178 rfl rfl (fun w' ⟨q, hq⟩ => by rw [hq]; exact (hS1.ext q).mp) (v := .pointer (some ⟨z.x, 0, none⟩)) (by rw [hg]; rfl) ?_
  (repeat (first | (refine wpMix_skip rfl rfl ?_) | (refine wpMix_step (fun K hK => ?_); go_simp; (with_reducible (refine hK _ _ ?_)); clear hK K)))
  refine wpMix_nil ?_
  have hz := (hS1.ext p).slots _ (aget_mem hg)
  have z2 := cell_at 2 hz
  have v1 := cell_at 1 (p.blkE hvb1)
  have v2 := cell_at 2 (p.blkE hvb1)
  clear hg k0 k1 k2 k3 m1
  cases h1 : (stamp != stampZ stamp)
  · cases h2 : decide (stamp ≤ stampZ z.wd)
    · have h34 : (!vs.toList.isEmpty) = true ∧ has = false := by
        revert hb; unfold badB; rw [h1, h2]; cases has <;> simp
      obtain ⟨h3, rfl⟩ := h34
      clear hb
      go_wp2_with (go_at_call 119; go_must (refine (stamp_any _ _).mono ?_); rintro e w' ⟨rfl, rfl⟩)
      go_ret
      exact ⟨rfl, fin1 p⟩
    · clear hb
      go_wp2_with (go_at_call 119; go_must (refine (stamp_any _ _).mono ?_); rintro e w' ⟨rfl, rfl⟩)
      go_ret
      exact ⟨rfl, fin1 p⟩
  · clear hb
    go_wp2_with (go_at_call 119; go_must (refine (stamp_any _ _).mono ?_); rintro e w' ⟨rfl, rfl⟩)
    go_ret
    exact ⟨rfl, fin1 p⟩

set_option maxHeartbeats 1600000 in
theorem install_ok (I : Ids) (fv : Value) (A : ArenaSt) (l : List (Key × Slot)) (kd ka kb : Int) (ks : ByteArray) (who stamp vw : Int) (vs : ByteArray) (has : Bool) (w : World) (z : Slot) (h : StoreAt w I fv A l) (hh : holdsB l ⟨kd, ka, kb, ks⟩ who = true)
    (hg : aget l ⟨kd, ka, kb, ks⟩ = some z) (hb : badB stamp z vs has = false) :
    Calls Try.prog 26 #[.pointer (some ⟨I.s, 0, none⟩), .agg #[.int .i64 kd, .int .i64 ka, .int .i64 kb, .string ks], .int .i64 who, .int .u64 stamp, .agg #[.int .u64 vw, .string vs, .bool has]] w fun e w' =>
      e = .returned (.int .i64 0) ∧ ∃ p : Ch (fun b => b = z.x) w, w' = p.w ∧ StoreAt p.w I fv A (aput l ⟨kd, ka, kb, ks⟩ { z with wd := absentZ stamp (!has), text := vs }) := by
  have hS := (h.alloc (.cells (keyCells kd ka kb ks) 23)).alloc (.cells #[.int .u64 vw, .string vs, .bool has] 37)
  obtain ⟨W, hW⟩ : ∃ W, W = (w.alloc (.cells (keyCells kd ka kb ks) 23)).alloc (.cells #[.int .u64 vw, .string vs, .bool has] 37) := ⟨_, rfl⟩
  rw [← hW] at hS
  have hkb : W.heap[w.heap.size]? = some (.cells (keyCells kd ka kb ks) 23 (0, 0)) := by rw [hW]; exact heap_alloc_blk _ (heap_alloc_at _ _)
  have hvb : W.heap[w.heap.size + 1]? = some (.cells #[.int .u64 vw, .string vs, .bool has] 37 (0, 0)) := by rw [hW]; exact heap_alloc_eq _ (by simp)
  have fin : ∀ p : Ch (fun b => b = z.x) W, ∃ q : Ch (fun b => b = z.x) w, p.w = q.w := fun p => ⟨(((Ch.refl _ w).alloc _).alloc _).onto hW p (fun b hb h => h), rfl⟩
  have hne : w.heap.size + 1 ≠ z.x := blkNe hvb (hS.slots _ (aget_mem hg)) (by decide)
  go_enter Try.func26, Try.ntmps26
  clear h
  go_wp2_with fail
  rw [← hW]
  clear hW
  go_wp2_with (go_at_call 120; go_must (refine (holds_any _ _ _ _ _ _ _ _ _ _ hS).mono ?_); rintro e w' ⟨rfl, p, rfl⟩; rw [hh])
  have hS1 := hS.ext p; have hkb1 := p.blkE hkb; have hvb1 := p.blkE hvb
  have fin1 : ∀ q : Ch (fun b => b = z.x) p.w, ∃ r : Ch (fun b => b = z.x) w, q.w = r.w := fun q => fin ((p.up _).then q (fun _ _ h => h))
  clear fin hS hkb hvb
  generalize p.w = W1 at hS1 hkb1 hvb1 fin1 ⊢
  clear p
  have k0 : ∀ p : Ext W1, p.w.cell? ⟨w.heap.size, 0, none⟩ = some (.int .i64 kd) := fun p => cell_at 0 (p.blkE hkb1); have k1 : ∀ p : Ext W1, p.w.cell? ⟨w.heap.size, 1, none⟩ = some (.int .i64 ka) := fun p => cell_at 1 (p.blkE hkb1); have k2 : ∀ p : Ext W1, p.w.cell? ⟨w.heap.size, 2, none⟩ = some (.int .i64 kb) := fun p => cell_at 2 (p.blkE hkb1); have k3 : ∀ p : Ext W1, p.w.cell? ⟨w.heap.size, 3, none⟩ = some (.string ks) := fun p => cell_at 3 (p.blkE hkb1)
  have m1 : ∀ p : Ext W1, p.w.cell? ⟨I.s, 1, none⟩ = some (.map (some I.m)) := fun p => cell_at 1 (hS1.ext p).st
  refine wp_region_ch NoS (by kernel_rfl) (by kernel_rfl) (fun p _ => ?_)
  (repeat (first | (refine wpMix_skip rfl rfl ?_) | (refine wpMix_step (fun K hK => ?_); go_simp; (with_reducible (refine hK _ _ ?_)); clear hK K)))
  refine wpMix_look (K := key_law) (encV := slotV) (k := ⟨kd, ka, kb, ks⟩) (l := l) (c := false) rfl _ _ rfl Try.underlying56 z178 rfl rfl (fun w' ⟨q, hq⟩ => by rw [hq]; exact (hS1.ext q).mp) (v := .pointer (some ⟨z.x, 0, none⟩)) (by rw [hg]; rfl) ?_
  (repeat (first | (refine wpMix_skip rfl rfl ?_) | (refine wpMix_step (fun K hK => ?_); go_simp; (with_reducible (refine hK _ _ ?_)); clear hK K)))
  refine wpMix_nil ?_
  clear k0 k1 k2 k3 m1 hkb1
  have hS2 := hS1.ext p; have hvb2 := p.blkE hvb1
  have fin2 : ∀ q : Ch (fun b => b = z.x) p.w, ∃ r : Ch (fun b => b = z.x) w, q.w = r.w := fun q => fin1 ((p.up _).then q (fun _ _ h => h))
  clear fin1 hS1 hvb1
  generalize p.w = W2 at hS2 hvb2 fin2 ⊢
  have hz := hS2.slots _ (aget_mem hg)
  have z2 := cell_at 2 hz
  have v1 : ∀ q : Ch (fun b => b = z.x) W2, q.w.cell? ⟨w.heap.size + 1, 1, none⟩ = some (.string vs) := fun q => cell_at 1 (q.blk hvb2 hne)
  have v2 : ∀ q : Ch (fun b => b = z.x) W2, q.w.cell? ⟨w.heap.size + 1, 2, none⟩ = some (.bool has) := fun q => cell_at 2 (q.blk hvb2 hne)
  have v1' := cell_at 1 hvb2
  have v2' := cell_at 2 hvb2
  have Hg : Hid (aget l ⟨kd, ka, kb, ks⟩ = some z) := hg
  clear hg
  have hbits : (stamp != stampZ stamp) = false ∧ decide (stamp ≤ stampZ z.wd) = false ∧ (!vs.toList.isEmpty && !has) = false := by
    revert hb; unfold badB; cases (stamp != stampZ stamp) <;> cases decide (stamp ≤ stampZ z.wd) <;> simp
  obtain ⟨h1, h2, h3⟩ := hbits
  have fin3 : ∀ q : Ch (fun b => b = z.x) W2, q.w.heap[z.x]? = some (.cells (slotCells z.sl z.gen (absentZ stamp (!has)) vs z.who) 183 (0, 0)) →
      ∃ r : Ch (fun b => b = z.x) w, q.w = r.w ∧ StoreAt r.w I fv A (aput l ⟨kd, ka, kb, ks⟩ { z with wd := absentZ stamp (!has), text := vs }) := fun q hq => by
    obtain ⟨r, hr⟩ := fin2 q
    exact ⟨r, hr, hr ▸ hS2.setSlot (z' := { z with wd := absentZ stamp (!has), text := vs }) Hg.out rfl q hq⟩
  clear fin2 hb hS2
  have h3' : (!vs.toList.isEmpty) = false ∨ ((!vs.toList.isEmpty) = true ∧ has = true) := by revert h3; cases (!vs.toList.isEmpty) <;> cases has <;> simp
  rcases h3' with h4 | ⟨h4, rfl⟩
  all_goals
    go_wp2_with (go_at_call 119; go_must (refine (stamp_any _ _).mono ?_); rintro e w' ⟨rfl, rfl⟩)
    refine wp_region_ch (fun b => b = z.x) (by kernel_rfl) (by kernel_rfl) (fun q hq => ?_)
    have hzq : SlotIn q.w z := by show q.w.heap[z.x]? = _; rw [hq]; exact hz
    clear hq
    (repeat (first | (refine wpMix_skip rfl rfl ?_) | (refine wpMix_step (fun K hK => ?_); go_simp; (with_reducible (refine hK _ _ ?_)); clear hK K)))
    refine wpMix_step (fun K hK => ?_); go_simp; refine (absent_any _ _ _).mono ?_; rintro e w' ⟨rfl, rfl⟩; refine ⟨⟨q, rfl⟩, hK _ _ ?_⟩; clear hK K
    (repeat (first | (refine wpMix_skip rfl rfl ?_) | (refine wpMix_step (fun K hK => ?_); go_simp; (with_reducible (refine hK _ _ ?_)); clear hK K)))
    have y2 := cell_at 2 hzq
    have y3 := cell_at 3 hzq
    have f2 := frozen_at 2 hzq
    have f3 := frozen_at 3 hzq
    refine wpMix_step (fun K hK => ?_); go_simp
    refine ⟨⟨q.set z.x 2 _ (fun _ => rfl), rfl⟩, hK _ _ ?_⟩; clear hK K
    (repeat (first | (refine wpMix_skip rfl rfl ?_) | (refine wpMix_step (fun K hK => ?_); go_simp; (with_reducible (refine hK _ _ ?_)); clear hK K)))
    refine wpMix_step (fun K hK => ?_); go_simp
    refine ⟨⟨(q.set z.x 2 _ (fun _ => rfl)).set z.x 3 _ (fun _ => rfl), rfl⟩, hK _ _ ?_⟩; clear hK K
    refine wpMix_nil ?_
    go_wp2
    go_ret
    refine ⟨rfl, fin3 ((q.set z.x 2 _ (fun _ => rfl)).set z.x 3 _ (fun _ => rfl)) ?_⟩
    first
      | (have := heap_set_same (heap_set_same hzq 2 (.int .u64 (absentZ stamp (!has)))) 3 (.string vs)
         simpa using this)
      | (have := heap_set_same (heap_set_same hzq 2 (.int .u64 (absentZ stamp (!true)))) 3 (.string vs)
         simpa using this)
end Go.Proofs.Cob

namespace Go.Proofs.Cob
open Go Go.RowKit Go.Cob
set_option linter.unusedSimpArgs false
set_option linter.unusedVariables false

/-- Taking a slot. -/
def takeA (A : ArenaSt) : Option (Int × ArenaSt) :=
  if A.free = [] then
    if (A.fresh == A.room) = true then none else some (A.fresh, { A with fresh := A.fresh + 1, taken := aput A.taken A.fresh true })
  else some (A.free.getLastD 0, { A with free := A.free.dropLast, taken := aput A.taken (A.free.getLastD 0) true })
def genOf (A : ArenaSt) (s : Int) : Int := (aget A.gens s).getD 0

theorem row_form {w : World} {base e size n : Nat} {v : Value} {xs : List Value} (h : w.ownsRow base e size v n xs) : ∃ fa cap, v = .slice fa n cap ∧ n ≤ cap ∧ (0 < n → ∃ g, fa = some ⟨g, 0, none⟩) := by
  obtain ⟨_, h | ⟨g, cap, cur, hv, _, _, h1, _⟩⟩ := h
  · exact ⟨none, 0, by rw [h.1, h.2], by omega, fun h' => by omega⟩
  · exact ⟨some ⟨g, 0, none⟩, cap, hv, h1, fun _ => ⟨g, rfl⟩⟩

theorem take_any (a g t : Nat) (fv : Value) (A : ArenaSt) (w : World) (hA : ArenaAt w a g t fv A) (h0 : 0 ≤ A.fresh) (h1 : A.fresh < 2000000) :
    (takeA A = none → Calls Try.prog 116 #[.pointer (some ⟨a, 0, none⟩)] w fun e w' => e = .returned (.tuple #[.agg #[.int .i64 0, .int .i64 0], .int .i64 50]) ∧ ∃ p : Ext w, w' = p.w) ∧
    ∀ s A', takeA A = some (s, A') → Calls Try.prog 116 #[.pointer (some ⟨a, 0, none⟩)] w fun e w' => e = .returned (.tuple #[.agg #[.int .i64 s, .int .i64 (genOf A s)], .int .i64 0]) ∧
      ∃ p : Ch (fun b => b = a ∨ b = t) w, w' = p.w ∧ ∃ fv', fv'.ownBlock = fv.ownBlock ∧ ArenaAt p.w a g t fv' A' := by
  obtain ⟨fa, cap, hfv, hcap, hfa⟩ := row_form hA.2.2.2.1
  by_cases hf : A.free = []
  · have hn : A.free.length = 0 := by rw [hf]; rfl
    rw [hn] at hfv
    subst hfv
    refine ⟨fun ht => ?_, fun s A' ht => ?_⟩
    · simp only [takeA, hf, if_true] at ht
      split at ht
      · rename_i hr; exact take_full a g t fa cap A w hA hr
      · cases ht
    · simp only [takeA, hf, if_true] at ht
      split at ht
      · cases ht
      · rename_i hr
        simp only [Option.some.injEq, Prod.mk.injEq] at ht
        obtain ⟨rfl, rfl⟩ := ht
        refine (take_fresh a g t fa cap A w hA hf (by simpa using hr) h0 h1).mono ?_
        rintro e w' ⟨he, p, hp, hA'⟩
        exact ⟨he, p, hp, _, rfl, by simpa [hf] using hA'⟩
  · refine ⟨fun ht => ?_, fun s A' ht => ?_⟩
    · simp [takeA, hf] at ht
    · simp only [takeA, hf, if_false, Option.some.injEq, Prod.mk.injEq] at ht
      obtain ⟨rfl, rfl⟩ := ht
      have hl : A.free = A.free.dropLast ++ [A.free.getLastD 0] := by
        rw [List.getLastD_eq_getLast?, List.getLast?_eq_some_getLast hf, Option.getD_some]
        exact (List.dropLast_concat_getLast hf).symm
      have hlen : A.free.length = A.free.dropLast.length + 1 := by
        have := List.length_pos_iff.2 hf
        simp; omega
      obtain ⟨gb, rfl⟩ := hfa (by omega)
      rw [hlen] at hfv
      subst hfv
      refine (take_free a g t gb cap A w _ _ (by omega) hA hl).mono ?_
      rintro e w' ⟨he, p, hp, hA'⟩
      exact ⟨he, p, hp, .slice (some ⟨gb, 0, none⟩) A.free.dropLast.length cap, rfl, hA'⟩

theorem StoreAt.arena {w : World} {I : Ids} {fv fv' : Value} {A A' : ArenaSt} {l : List (Key × Slot)} (h : StoreAt w I fv A l) (p : Ch (fun b => b = I.a ∨ b = I.t) w) (hA : ArenaAt p.w I.a I.g I.t fv' A') : StoreAt p.w I fv' A' l where
  st := p.blk h.st (by intro e; rcases e with e | e; exact blkNe h.st h.ar.1 (by decide) e; exact h.ar.2.2.1.ne_cells h.st e.symm)
  ar := hA
  mp := h.mp.keep (p.same _ h.mp.lt (by intro e; rcases e with e | e; exact h.mp.ne_cells h.ar.1 e; exact h.mt e))
  slots := fun q hq => p.blk (h.slots q hq) (by intro e; rcases e with e | e; exact blkNe (h.slots q hq) h.ar.1 (by decide) e; exact h.ar.2.2.1.ne_cells (h.slots q hq) e.symm)
  nodup := h.nodup
  mg := h.mg
  mt := h.mt

theorem aput_new {α β : Type} [DecidableEq α] {l : List (α × β)} {k : α} (h : aget l k = none) (v : β) : aput l k v = l ++ [(k, v)] := by
  rcases find_cases l k with ⟨-, -, -, e⟩ | ⟨_, _, _, -, -, e, -⟩
  · exact e v
  · rw [e] at h; cases h
theorem aget_cons {α β : Type} [DecidableEq α] (p : α × β) (l : List (α × β)) (k : α) : aget (p :: l) k = if p.1 = k then some p.2 else aget l k := by
  by_cases h : p.1 = k <;> simp [aget, h]
theorem aget_aput {α β : Type} [DecidableEq α] (l : List (α × β)) (k k' : α) (v : β) : aget (aput l k v) k' = if k = k' then some v else aget l k' := by
  induction l with
  | nil => by_cases h : k = k' <;> simp [aput, aget, h]
  | cons p l ih =>
    by_cases h : p.1 = k
    · simp only [aput, h, if_true, aget_cons]
      by_cases h' : k = k' <;> simp [h']
    · simp only [aput, h, if_false, aget_cons, ih]
      by_cases h' : p.1 = k'
      · have : ¬ k = k' := fun e => h (h'.trans e.symm)
        simp [h', this]
      · simp [h']
theorem aput_aput {α β : Type} [DecidableEq α] (l : List (α × β)) (k : α) (v v' : β) : aput (aput l k v) k v' = aput l k v' := by
  induction l with
  | nil => simp [aput]
  | cons p l ih => by_cases h : p.1 = k <;> simp [aput, h, ih]

theorem StoreAt.insert {w : World} {I : Ids} {fv : Value} {A : ArenaSt} {l : List (Key × Slot)} (h : StoreAt w I fv A l) {k : Key} {z : Slot} (hk : aget l k = none) (hz : SlotIn w z) (hx : ∀ p ∈ l, p.2.x ≠ z.x)
    {ob : Obj} (hm : MapAt keyV slotV (putO w I.m ob) I.m (aput l k z)) : StoreAt (putO w I.m ob) I fv A (aput l k z) := by
  have keep : ∀ {b : Nat} {c : Array Value} {t : TypeId}, w.heap[b]? = some (.cells c t (0, 0)) → (putO w I.m ob).heap[b]? = w.heap[b]? := fun hb => putO_other _ (fun e => h.mp.ne_cells hb e.symm)
  refine ⟨(keep h.st).trans h.st, h.ar.keep (keep h.ar.1) (putO_other _ (Ne.symm h.mg)) (putO_other _ (Ne.symm h.mt)) (fun b hb => by obtain ⟨_, hc⟩ := rowBlk h.ar.2.2.2.1 hb; exact keep hc), hm, ?_, ?_, h.mg, h.mt⟩
  · rw [aput_new hk]
    intro q hq
    rcases List.mem_append.1 hq with hq | hq
    · exact (keep (h.slots q hq)).trans (h.slots q hq)
    · simp at hq; subst hq; exact (keep hz).trans hz
  · rw [aput_new hk, List.map_append, List.nodup_append]
    refine ⟨h.nodup, by simp, fun x hx' y hy e => ?_⟩
    simp at hy
    obtain ⟨q, hq, rfl⟩ := List.mem_map.1 hx'
    exact hx q hq (e.trans hy)
end Go.Proofs.Cob

namespace Go.Proofs.Cob
open Go Go.RowKit Go.Cob
set_option linter.unusedSimpArgs false
set_option linter.unusedVariables false

set_option maxHeartbeats 800000 in
theorem lock_busy (I : Ids) (fv : Value) (A : ArenaSt) (l : List (Key × Slot)) (kd ka kb : Int) (ks : ByteArray) (who : Int) (w : World) (z : Slot) (h : StoreAt w I fv A l) (hg : aget l ⟨kd, ka, kb, ks⟩ = some z) (hf : freeB z.wd = false) :
    Calls Try.prog 25 #[.pointer (some ⟨I.s, 0, none⟩), .agg #[.int .i64 kd, .int .i64 ka, .int .i64 kb, .string ks], .int .i64 who] w fun e w' =>
      e = .returned (.tuple #[.int .u64 0, .int .i64 60]) ∧ ∃ p : Ext w, w' = p.w := by
  obtain ⟨W, hW⟩ : ∃ W, W = w.alloc (.cells (keyCells kd ka kb ks) 23) := ⟨_, rfl⟩; have hkb : W.heap[w.heap.size]? = some (.cells (keyCells kd ka kb ks) 23 (0, 0)) := (by rw [hW]; exact heap_alloc_at _ _); have hS : StoreAt W I fv A l := (by rw [hW]; exact h.alloc _)
  have fin : ∀ p : Ext W, ∃ q : Ext w, p.w = q.w := fun p => ⟨((Ch.refl NoS w).alloc _).onto hW p (fun b hb h => h), rfl⟩
  have k0 : ∀ p : Ext W, p.w.cell? ⟨w.heap.size, 0, none⟩ = some (.int .i64 kd) := fun p => cell_at 0 (p.blkE hkb); have k1 : ∀ p : Ext W, p.w.cell? ⟨w.heap.size, 1, none⟩ = some (.int .i64 ka) := fun p => cell_at 1 (p.blkE hkb); have k2 : ∀ p : Ext W, p.w.cell? ⟨w.heap.size, 2, none⟩ = some (.int .i64 kb) := fun p => cell_at 2 (p.blkE hkb); have k3 : ∀ p : Ext W, p.w.cell? ⟨w.heap.size, 3, none⟩ = some (.string ks) := fun p => cell_at 3 (p.blkE hkb)
  have m1 : ∀ p : Ext W, p.w.cell? ⟨I.s, 1, none⟩ = some (.map (some I.m)) := fun p => cell_at 1 (hS.ext p).st
  go_enter Try.func25, Try.ntmps25
  clear h
  go_wp2_with fail
  rw [← hW]
  clear hW
  refine wp_region_ch NoS (by kernel_rfl) (by kernel_rfl) (fun p _ => ?_)
  (repeat (first | (refine wpMix_skip rfl rfl ?_) | (refine wpMix_step (fun K hK => ?_); go_simp; (with_reducible (refine hK _ _ ?_)); clear hK K)))
  refine wpMix_look (K := key_law) (encV := slotV) (k := ⟨kd, ka, kb, ks⟩) (l := l) (c := false) rfl _ _ rfl Try.underlying56 z178 rfl rfl (fun w' ⟨q, hq⟩ => by rw [hq]; exact (hS.ext q).mp) (v := .pointer (some ⟨z.x, 0, none⟩)) (by rw [hg]; rfl) ?_
  (repeat (first | (refine wpMix_skip rfl rfl ?_) | (refine wpMix_step (fun K hK => ?_); go_simp; (with_reducible (refine hK _ _ ?_)); clear hK K)))
  refine wpMix_nil ?_
  have hz := (hS.ext p).slots _ (aget_mem hg)
  have z2 := cell_at 2 hz
  clear hg k0 k1 k2 k3 m1
  go_wp2_with (go_at_call 118; go_must (refine (lock_any _ _).mono ?_); rintro e w' ⟨rfl, rfl⟩; rw [hf])
  go_ret2
  exact ⟨rfl, fin p⟩

set_option maxHeartbeats 800000 in
theorem lock_old (I : Ids) (fv : Value) (A : ArenaSt) (l : List (Key × Slot)) (kd ka kb : Int) (ks : ByteArray) (who : Int) (w : World) (z : Slot) (h : StoreAt w I fv A l) (hg : aget l ⟨kd, ka, kb, ks⟩ = some z) (hf : freeB z.wd = true) :
    Calls Try.prog 25 #[.pointer (some ⟨I.s, 0, none⟩), .agg #[.int .i64 kd, .int .i64 ka, .int .i64 kb, .string ks], .int .i64 who] w fun e w' =>
      e = .returned (.tuple #[.int .u64 (stampZ (lockZ z.wd)), .int .i64 0]) ∧ ∃ p : Ch (fun b => b = z.x) w, w' = p.w ∧ StoreAt p.w I fv A (aput l ⟨kd, ka, kb, ks⟩ { z with wd := lockZ z.wd, who := who }) := by
  obtain ⟨W, hW⟩ : ∃ W, W = w.alloc (.cells (keyCells kd ka kb ks) 23) := ⟨_, rfl⟩; have hkb : W.heap[w.heap.size]? = some (.cells (keyCells kd ka kb ks) 23 (0, 0)) := (by rw [hW]; exact heap_alloc_at _ _); have hS : StoreAt W I fv A l := (by rw [hW]; exact h.alloc _)
  have fin : ∀ p : Ch (fun b => b = z.x) W, ∃ q : Ch (fun b => b = z.x) w, p.w = q.w := fun p => ⟨((Ch.refl _ w).alloc _).onto hW p (fun b hb h => h), rfl⟩
  have k0 : ∀ p : Ext W, p.w.cell? ⟨w.heap.size, 0, none⟩ = some (.int .i64 kd) := fun p => cell_at 0 (p.blkE hkb); have k1 : ∀ p : Ext W, p.w.cell? ⟨w.heap.size, 1, none⟩ = some (.int .i64 ka) := fun p => cell_at 1 (p.blkE hkb); have k2 : ∀ p : Ext W, p.w.cell? ⟨w.heap.size, 2, none⟩ = some (.int .i64 kb) := fun p => cell_at 2 (p.blkE hkb); have k3 : ∀ p : Ext W, p.w.cell? ⟨w.heap.size, 3, none⟩ = some (.string ks) := fun p => cell_at 3 (p.blkE hkb)
  have m1 : ∀ p : Ext W, p.w.cell? ⟨I.s, 1, none⟩ = some (.map (some I.m)) := fun p => cell_at 1 (hS.ext p).st
  go_enter Try.func25, Try.ntmps25
  clear h
  go_wp2_with fail
  rw [← hW]
  clear hW
  refine wp_region_ch NoS (by kernel_rfl) (by kernel_rfl) (fun p _ => ?_)
  (repeat (first | (refine wpMix_skip rfl rfl ?_) | (refine wpMix_step (fun K hK => ?_); go_simp; (with_reducible (refine hK _ _ ?_)); clear hK K)))
  refine wpMix_look (K := key_law) (encV := slotV) (k := ⟨kd, ka, kb, ks⟩) (l := l) (c := false) rfl _ _ rfl Try.underlying56 z178 rfl rfl (fun w' ⟨q, hq⟩ => by rw [hq]; exact (hS.ext q).mp) (v := .pointer (some ⟨z.x, 0, none⟩)) (by rw [hg]; rfl) ?_
  (repeat (first | (refine wpMix_skip rfl rfl ?_) | (refine wpMix_step (fun K hK => ?_); go_simp; (with_reducible (refine hK _ _ ?_)); clear hK K)))
  refine wpMix_nil ?_
  have hz := (hS.ext p).slots _ (aget_mem hg)
  have z2 := cell_at 2 hz
  have z4 := cell_at 4 hz
  have f2 := frozen_at 2 hz
  have f4 := frozen_at 4 hz
  have Hg : Hid (aget l ⟨kd, ka, kb, ks⟩ = some z) := hg
  clear hg k0 k1 k2 k3 m1
  go_wp2_with (first
    | (go_at_call 118; go_must (refine (lock_any _ _).mono ?_); rintro e w' ⟨rfl, rfl⟩; rw [hf])
    | (go_at_call 119; go_must (refine (stamp_any _ _).mono ?_); rintro e w' ⟨rfl, rfl⟩))
  go_ret2
  obtain ⟨r, hr⟩ := fin (((p.up (fun b => b = z.x)).set z.x 2 (.int .u64 (lockZ z.wd)) (fun _ => rfl)).set z.x 4 (.int .i64 who) (fun _ => rfl))
  refine ⟨rfl, r, hr, hr ▸ ?_⟩
  have := (hS.ext p).setSlot (z' := { z with wd := lockZ z.wd, who := who }) Hg.out rfl (((Ch.refl (fun b => b = z.x) p.w).set z.x 2 (.int .u64 (lockZ z.wd)) (fun _ => rfl)).set z.x 4 (.int .i64 who) (fun _ => rfl)) ?_
  · exact this
  · have := heap_set_same (heap_set_same hz 2 (.int .u64 (lockZ z.wd))) 4 (.int .i64 who)
    simpa using this

set_option maxHeartbeats 800000 in
theorem lock_full (I : Ids) (fv : Value) (A : ArenaSt) (l : List (Key × Slot)) (kd ka kb : Int) (ks : ByteArray) (who : Int) (w : World) (h : StoreAt w I fv A l) (hg : aget l ⟨kd, ka, kb, ks⟩ = none) (h0 : 0 ≤ A.fresh) (h1 : A.fresh < 2000000) (ht : takeA A = none) :
    Calls Try.prog 25 #[.pointer (some ⟨I.s, 0, none⟩), .agg #[.int .i64 kd, .int .i64 ka, .int .i64 kb, .string ks], .int .i64 who] w fun e w' =>
      e = .returned (.tuple #[.int .u64 0, .int .i64 50]) ∧ ∃ p : Ext w, w' = p.w := by
  obtain ⟨W, hW⟩ : ∃ W, W = w.alloc (.cells (keyCells kd ka kb ks) 23) := ⟨_, rfl⟩; have hkb : W.heap[w.heap.size]? = some (.cells (keyCells kd ka kb ks) 23 (0, 0)) := (by rw [hW]; exact heap_alloc_at _ _); have hS : StoreAt W I fv A l := (by rw [hW]; exact h.alloc _)
  have fin : ∀ p : Ext W, ∃ q : Ext w, p.w = q.w := fun p => ⟨((Ch.refl NoS w).alloc _).onto hW p (fun b hb h => h), rfl⟩
  have k0 : ∀ p : Ext W, p.w.cell? ⟨w.heap.size, 0, none⟩ = some (.int .i64 kd) := fun p => cell_at 0 (p.blkE hkb); have k1 : ∀ p : Ext W, p.w.cell? ⟨w.heap.size, 1, none⟩ = some (.int .i64 ka) := fun p => cell_at 1 (p.blkE hkb); have k2 : ∀ p : Ext W, p.w.cell? ⟨w.heap.size, 2, none⟩ = some (.int .i64 kb) := fun p => cell_at 2 (p.blkE hkb); have k3 : ∀ p : Ext W, p.w.cell? ⟨w.heap.size, 3, none⟩ = some (.string ks) := fun p => cell_at 3 (p.blkE hkb)
  have m1 : ∀ p : Ext W, p.w.cell? ⟨I.s, 1, none⟩ = some (.map (some I.m)) := fun p => cell_at 1 (hS.ext p).st
  go_enter Try.func25, Try.ntmps25
  clear h
  go_wp2_with fail
  rw [← hW]
  clear hW
  refine wp_region_ch NoS (by kernel_rfl) (by kernel_rfl) (fun p _ => ?_)
  (repeat (first | (refine wpMix_skip rfl rfl ?_) | (refine wpMix_step (fun K hK => ?_); go_simp; (with_reducible (refine hK _ _ ?_)); clear hK K)))
  refine wpMix_look (K := key_law) (encV := slotV) (k := ⟨kd, ka, kb, ks⟩) (l := l) (c := false) rfl _ _ rfl Try.underlying56 z178 rfl rfl (fun w' ⟨q, hq⟩ => by rw [hq]; exact (hS.ext q).mp) (v := .pointer none) (by rw [hg]; rfl) ?_
  (repeat (first | (refine wpMix_skip rfl rfl ?_) | (refine wpMix_step (fun K hK => ?_); go_simp; (with_reducible (refine hK _ _ ?_)); clear hK K)))
  refine wpMix_nil ?_
  have m0 := cell_at 0 (hS.ext p).st
  clear hg k0 k1 k2 k3 m1
  go_wp2_with (go_at_call 116; go_must (refine ((take_any _ _ _ _ _ _ (hS.ext p).ar h0 h1).1 ht).mono ?_); rintro e w' ⟨rfl, q, rfl⟩)
  go_ret2
  exact ⟨rfl, fin ((p.thenE q).alloc _)⟩

/-- The blocks of a store that its own functions write. -/
def Own (I : Ids) (fv : Value) (l : List (Key × Slot)) (b : Nat) : Prop := Foot I fv l b

/-- What a new cell is, locked. -/
def newSlot (x : Nat) (A : ArenaSt) (s who : Int) : Slot := ⟨x, s, genOf A s, lockZ (absentZ 0 true), ⟨#[]⟩, who⟩

theorem free_new : freeB (absentZ 0 true) = true := by decide +kernel

set_option maxHeartbeats 1600000 in
theorem lock_new (I : Ids) (fv : Value) (A A' : ArenaSt) (l : List (Key × Slot)) (kd ka kb : Int) (ks : ByteArray) (who s : Int) (w : World) (h : StoreAt w I fv A l) (hg : aget l ⟨kd, ka, kb, ks⟩ = none) (h0 : 0 ≤ A.fresh) (h1 : A.fresh < 2000000) (ht : takeA A = some (s, A')) :
    Calls Try.prog 25 #[.pointer (some ⟨I.s, 0, none⟩), .agg #[.int .i64 kd, .int .i64 ka, .int .i64 kb, .string ks], .int .i64 who] w fun e w' =>
      e = .returned (.tuple #[.int .u64 (stampZ (lockZ (absentZ 0 true))), .int .i64 0]) ∧ ∃ p : Ch (fun b => b = I.a ∨ b = I.t ∨ b = I.m) w, w' = p.w ∧ ∃ fv' x, fv'.ownBlock = fv.ownBlock ∧ w.heap.size ≤ x ∧ x < p.w.heap.size ∧
        StoreAt p.w I fv' A' (aput l ⟨kd, ka, kb, ks⟩ (newSlot x A s who)) := by
  obtain ⟨W, hW⟩ : ∃ W, W = w.alloc (.cells (keyCells kd ka kb ks) 23) := ⟨_, rfl⟩; have hkb : W.heap[w.heap.size]? = some (.cells (keyCells kd ka kb ks) 23 (0, 0)) := (by rw [hW]; exact heap_alloc_at _ _); have hS : StoreAt W I fv A l := (by rw [hW]; exact h.alloc _)
  have fin : ∀ p : Ch (fun b => b = I.a ∨ b = I.t ∨ b = I.m ∨ w.heap.size ≤ b) W, ∃ q : Ch (fun b => b = I.a ∨ b = I.t ∨ b = I.m) w, p.w = q.w := fun p => ⟨((Ch.refl _ w).alloc _).onto hW p (fun b hb h => by rcases h with h | h | h | h; exact .inl h; exact .inr (.inl h); exact .inr (.inr h); omega), rfl⟩
  have hWs : W.heap.size = w.heap.size + 1 := by rw [hW]; simp
  have k0 : ∀ p : Ext W, p.w.cell? ⟨w.heap.size, 0, none⟩ = some (.int .i64 kd) := fun p => cell_at 0 (p.blkE hkb); have k1 : ∀ p : Ext W, p.w.cell? ⟨w.heap.size, 1, none⟩ = some (.int .i64 ka) := fun p => cell_at 1 (p.blkE hkb); have k2 : ∀ p : Ext W, p.w.cell? ⟨w.heap.size, 2, none⟩ = some (.int .i64 kb) := fun p => cell_at 2 (p.blkE hkb); have k3 : ∀ p : Ext W, p.w.cell? ⟨w.heap.size, 3, none⟩ = some (.string ks) := fun p => cell_at 3 (p.blkE hkb)
  have m1 : ∀ p : Ext W, p.w.cell? ⟨I.s, 1, none⟩ = some (.map (some I.m)) := fun p => cell_at 1 (hS.ext p).st
  go_enter Try.func25, Try.ntmps25
  clear h
  go_wp2_with fail
  rw [← hW]
  have HWs : Hid (W.heap.size = w.heap.size + 1) := hWs
  clear hW hWs
  refine wp_region_ch NoS (by kernel_rfl) (by kernel_rfl) (fun p hp0 => ?_)
  (repeat (first | (refine wpMix_skip rfl rfl ?_) | (refine wpMix_step (fun K hK => ?_); go_simp; (with_reducible (refine hK _ _ ?_)); clear hK K)))
  refine wpMix_look (K := key_law) (encV := slotV) (k := ⟨kd, ka, kb, ks⟩) (l := l) (c := false) rfl _ _ rfl Try.underlying56 z178 rfl rfl (fun w' ⟨q, hq⟩ => by rw [hq]; exact (hS.ext q).mp) (v := .pointer none) (by rw [hg]; rfl) ?_
  (repeat (first | (refine wpMix_skip rfl rfl ?_) | (refine wpMix_step (fun K hK => ?_); go_simp; (with_reducible (refine hK _ _ ?_)); clear hK K)))
  refine wpMix_nil ?_
  have m0 := cell_at 0 (hS.ext p).st
  have Hg : Hid (aget l ⟨kd, ka, kb, ks⟩ = none) := hg
  clear hg k0 k1 k2 k3 m1 hp0
  go_wp2_with (go_at_call 116; go_must (refine ((take_any _ _ _ _ _ _ (hS.ext p).ar h0 h1).2 _ _ ht).mono ?_); rintro e w' ⟨rfl, q, rfl, fv', hfv, hA⟩)
  have hsz2 : w.heap.size < q.w.heap.size := by have := q.size; have := p.size; have := HWs.out; omega
  have hkq : q.w.heap[w.heap.size]? = some (.cells (keyCells kd ka kb ks) 23 (0, 0)) := q.blk (p.blkE hkb) (by intro e; rcases e with e | e; exact blkNe (p.blkE hkb) (hS.ext p).ar.1 (by decide) e; exact (hS.ext p).ar.2.2.1.ne_cells (p.blkE hkb) e.symm)
  have hSq := (hS.ext p).arena q hA
  have finq : ∀ r : Ch (fun b => b = I.a ∨ b = I.t ∨ b = I.m ∨ w.heap.size ≤ b) q.w, ∃ q : Ch (fun b => b = I.a ∨ b = I.t ∨ b = I.m) w, r.w = q.w := fun r =>
    fin (((p.up (fun b => b = I.a ∨ b = I.t ∨ b = I.m ∨ w.heap.size ≤ b)).then q (fun _ _ h => by rcases h with h | h; exact .inl h; exact .inr (.inl h))).then r (fun _ _ h => h))
  clear hA fin hS hkb HWs ht m0
  generalize q.w = Wq at hsz2 hkq hSq finq ⊢
  clear q p W
  obtain ⟨W2, hW2⟩ : ∃ W2, W2 = Wq.alloc (.cells #[.int .i64 s, .int .i64 (genOf A s)] 143) := ⟨_, rfl⟩
  have hk2 : W2.heap[w.heap.size]? = some (.cells (keyCells kd ka kb ks) 23 (0, 0)) := by rw [hW2]; exact heap_alloc_blk _ hkq
  have hh2 : W2.heap[Wq.heap.size]? = some (.cells #[.int .i64 s, .int .i64 (genOf A s)] 143 (0, 0)) := by rw [hW2]; exact heap_alloc_at _ _
  have hS2 : StoreAt W2 I fv' A' l := by rw [hW2]; exact hSq.alloc _
  have fin2 : ∀ r : Ch (fun b => b = I.a ∨ b = I.t ∨ b = I.m ∨ w.heap.size ≤ b) W2, ∃ q : Ch (fun b => b = I.a ∨ b = I.t ∨ b = I.m) w, r.w = q.w := fun r => finq (((Ch.refl _ Wq).alloc _).onto hW2 r (fun _ _ h => h))
  have hsz3 : w.heap.size < W2.heap.size := by rw [hW2]; simp; omega
  rw [← hW2]
  clear hkq hSq finq hW2
  have h0' : ∀ r : Ext W2, r.w.cell? ⟨Wq.heap.size, 0, none⟩ = some (.int .i64 s) := fun r => cell_at 0 (r.blkE hh2)
  have h1' : ∀ r : Ext W2, r.w.cell? ⟨Wq.heap.size, 1, none⟩ = some (.int .i64 (genOf A s)) := fun r => cell_at 1 (r.blkE hh2)
  refine wp_region_ch NoS (by kernel_rfl) (by kernel_rfl) (fun r hr0 => ?_)
  have hr1 : r.w.heap.size = W2.heap.size := by rw [hr0]
  have Hr0 : Hid (r.w.heap.size = W2.heap.size) := hr1
  clear hr0 hr1
  (repeat (first | (refine wpMix_skip rfl rfl ?_) | (refine wpMix_step (fun K hK => ?_); go_simp; (with_reducible (refine hK _ _ ?_)); clear hK K)))
  refine wpMix_step (fun K hK => ?_); go_simp; refine (absent_any 0 true _).mono ?_; rintro e w' ⟨rfl, rfl⟩; refine ⟨⟨r, rfl⟩, hK _ _ ?_⟩; clear hK K
  (repeat (first | (refine wpMix_skip rfl rfl ?_) | (refine wpMix_step (fun K hK => ?_); go_simp; (with_reducible (refine hK _ _ ?_)); clear hK K)))
  refine wpMix_step (fun K hK => ?_); go_simp
  refine ⟨⟨r.alloc _, rfl⟩, hK _ _ ?_⟩; clear hK K
  (repeat (first | (refine wpMix_skip rfl rfl ?_) | (refine wpMix_step (fun K hK => ?_); go_simp; (with_reducible (refine hK _ _ ?_)); clear hK K)))
  refine wpMix_nil ?_
  clear h0' h1'
  obtain ⟨W3, hW3⟩ : ∃ W3, W3 = r.w.alloc (.cells (slotCells s (genOf A s) (absentZ 0 true) ⟨#[]⟩ 0) 183) := ⟨_, rfl⟩
  obtain ⟨x, hx⟩ : ∃ x, x = r.w.heap.size := ⟨_, rfl⟩
  have hk3 : W3.heap[w.heap.size]? = some (.cells (keyCells kd ka kb ks) 23 (0, 0)) := by rw [hW3]; exact heap_alloc_blk _ (r.blkE hk2)
  have hz3 : SlotIn W3 ⟨x, s, genOf A s, absentZ 0 true, ⟨#[]⟩, 0⟩ := by rw [hW3, hx]; exact heap_alloc_at _ _
  have hS3 : StoreAt W3 I fv' A' l := by rw [hW3]; exact (hS2.ext r).alloc _
  have hxl : ∀ p ∈ l, p.2.x ≠ x := fun p hp => by have := lt_of_blk ((hS2.ext r).slots p hp); rw [hx]; omega
  have hxw : w.heap.size ≤ x ∧ x < W3.heap.size := by rw [hx, hW3]; have := r.size; simp; omega
  have fin3 : ∀ q : Ch (fun b => b = I.a ∨ b = I.t ∨ b = I.m ∨ w.heap.size ≤ b) W3, ∃ q' : Ch (fun b => b = I.a ∨ b = I.t ∨ b = I.m) w, q.w = q'.w := fun q => fin2 (((r.up _).alloc _).onto hW3 q (fun _ _ h => h))
  clear fin2 hS2 hk2 hh2 hsz3
  rw [← hx, ← hW3]
  clear hW3 hx Hr0
  clear r
  have k0 : ∀ q : Ch (fun b => b = I.m) W3, q.w.cell? ⟨w.heap.size, 0, none⟩ = some (.int .i64 kd) := fun q => cell_at 0 (q.blk hk3 (fun e => hS3.mp.ne_cells hk3 e.symm))
  have k1 : ∀ q : Ch (fun b => b = I.m) W3, q.w.cell? ⟨w.heap.size, 1, none⟩ = some (.int .i64 ka) := fun q => cell_at 1 (q.blk hk3 (fun e => hS3.mp.ne_cells hk3 e.symm))
  have k2 : ∀ q : Ch (fun b => b = I.m) W3, q.w.cell? ⟨w.heap.size, 2, none⟩ = some (.int .i64 kb) := fun q => cell_at 2 (q.blk hk3 (fun e => hS3.mp.ne_cells hk3 e.symm))
  have k3 : ∀ q : Ch (fun b => b = I.m) W3, q.w.cell? ⟨w.heap.size, 3, none⟩ = some (.string ks) := fun q => cell_at 3 (q.blk hk3 (fun e => hS3.mp.ne_cells hk3 e.symm))
  have m1 : ∀ q : Ch (fun b => b = I.m) W3, q.w.cell? ⟨I.s, 1, none⟩ = some (.map (some I.m)) := fun q => cell_at 1 (q.blk hS3.st (fun e => hS3.mp.ne_cells hS3.st e.symm))
  go_wp2_with fail
  refine wp_region_ch (fun b => b = I.m) (by kernel_rfl) (by kernel_rfl) (fun q hq => ?_)
  have hSq : StoreAt q.w I fv' A' l := hS3.keep (fun b _ => by rw [hq])
  have hzq : SlotIn q.w ⟨x, s, genOf A s, absentZ 0 true, ⟨#[]⟩, 0⟩ := by show q.w.heap[x]? = _; rw [hq]; exact hz3
  have hsq : q.w.heap.size = W3.heap.size := by rw [hq]
  have Hsq : Hid (q.w.heap.size = W3.heap.size) := hsq
  clear hq hsq
  (repeat (first | (refine wpMix_skip rfl rfl ?_) | (refine wpMix_step (fun K hK => ?_); go_simp; (with_reducible (refine hK _ _ ?_)); clear hK K)))
  refine wpMix_put (K := key_law) (encV := slotV) (k := ⟨kd, ka, kb, ks⟩) (u := ⟨x, s, genOf A s, absentZ 0 true, ⟨#[]⟩, 0⟩) (l := l) rfl _ _ _ rfl Try.underlying56 rfl rfl rfl hSq.mp (fun ob hM => ⟨⟨q.putO I.m ob (fun _ => rfl), rfl⟩, ?_⟩)
  have hS4 := hSq.insert Hg.out hzq hxl hM
  have hz4 := hS4.slots (⟨kd, ka, kb, ks⟩, ⟨x, s, genOf A s, absentZ 0 true, ⟨#[]⟩, 0⟩) (by rw [aput_new Hg.out]; simp)
  have fin4 : ∀ r : Ch (fun b => b = x) (putO q.w I.m ob), ∃ q' : Ch (fun b => b = I.a ∨ b = I.t ∨ b = I.m) w, r.w = q'.w := fun r => fin3 ((((q.mono (T := (fun b => b = I.a ∨ b = I.t ∨ b = I.m ∨ w.heap.size ≤ b)) (fun b _ h => .inr (.inr (.inl h)))).putO I.m ob (fun _ => .inr (.inr (.inl rfl)))).then r (fun b _ h => .inr (.inr (.inr (h ▸ hxw.1))))))
  have hsz4 : x < (putO q.w I.m ob).heap.size := by rw [putO_size, Hsq.out]; exact hxw.2
  refine wpMix_nil ?_
  clear k0 k1 k2 k3 m1 hM hSq hzq fin3 hz3 hS3 hk3 Hsq
  generalize putO q.w I.m ob = W4 at hS4 hz4 fin4 hsz4 ⊢
  have y2 := cell_at 2 hz4
  have y4 := cell_at 4 hz4
  have f2 := frozen_at 2 hz4
  have f4 := frozen_at 4 hz4
  go_wp2_with (first
    | (go_at_call 118; go_must (refine (lock_any _ _).mono ?_); rintro e w' ⟨rfl, rfl⟩; rw [free_new])
    | (go_at_call 119; go_must (refine (stamp_any _ _).mono ?_); rintro e w' ⟨rfl, rfl⟩))
  go_ret2
  obtain ⟨r, hr⟩ := fin4 (((Ch.refl (fun b => b = x) W4).set x 2 (.int .u64 (lockZ (absentZ 0 true))) (fun _ => rfl)).set x 4 (.int .i64 who) (fun _ => rfl))
  refine ⟨rfl, r, hr, fv', x, hfv, hxw.1, ?_, hr ▸ ?_⟩
  · rw [← hr]; simpa using hsz4
  · have := hS4.setSlot (k := ⟨kd, ka, kb, ks⟩) (z := ⟨x, s, genOf A s, absentZ 0 true, ⟨#[]⟩, 0⟩) (z' := newSlot x A s who) (by rw [aget_aput, if_pos rfl]) rfl (((Ch.refl (fun b => b = x) W4).set x 2 (.int .u64 (lockZ (absentZ 0 true))) (fun _ => rfl)).set x 4 (.int .i64 who) (fun _ => rfl)) ?_
    · rw [aput_aput] at this; exact this
    · have := heap_set_same (heap_set_same hz4 2 (.int .u64 (lockZ (absentZ 0 true)))) 4 (.int .i64 who)
      simpa [newSlot] using this
end Go.Proofs.Cob

namespace Go.Proofs.Cob
open Go Go.RowKit Go.Cob
set_option linter.unusedSimpArgs false
set_option linter.unusedVariables false

structure Cl where
  sl : Int
  gen : Int
  wd : Int
  text : ByteArray
  who : Int
abbrev Slot.cl (z : Slot) : Cl := ⟨z.sl, z.gen, z.wd, z.text, z.who⟩
abbrev strip (p : Key × Slot) : Key × Cl := (p.1, p.2.cl)

theorem aget_map {α β γ : Type} [DecidableEq α] (f : β → γ) (l : List (α × β)) (k : α) : aget (l.map fun p => (p.1, f p.2)) k = (aget l k).map f := by
  induction l with
  | nil => rfl
  | cons p l ih =>
    rw [List.map_cons, aget_cons, aget_cons, ih]
    by_cases h : p.1 = k <;> simp [h]
theorem aput_map {α β γ : Type} [DecidableEq α] (f : β → γ) (l : List (α × β)) (k : α) (v : β) : (aput l k v).map (fun p => (p.1, f p.2)) = aput (l.map fun p => (p.1, f p.2)) k (f v) := by
  induction l with
  | nil => rfl
  | cons p l ih =>
    simp only [aput, List.map_cons]
    by_cases h : p.1 = k <;> simp [h, ih]
theorem adel_map {α β γ : Type} [DecidableEq α] (f : β → γ) (l : List (α × β)) (k : α) : (adel l k).map (fun p => (p.1, f p.2)) = adel (l.map fun p => (p.1, f p.2)) k := by
  induction l with
  | nil => rfl
  | cons p l ih =>
    simp only [adel, List.map_cons]
    by_cases h : p.1 = k <;> simp [h, ih]

/-- The store in memory, its blocks within F, and the plain one: an arena, and a list of cells. -/
structure StM (w : World) (I : Ids) (A : ArenaSt) (L : List (Key × Cl)) (F : Nat → Prop) : Prop where
  ex : ∃ fv l, StoreAt w I fv A l ∧ l.map strip = L ∧ ∀ b, Foot I fv l b → F b
  lo : 0 ≤ A.fresh
  hi : A.fresh ≤ A.room
  top : A.room ≤ 1048576

theorem StM.ext {w : World} {I : Ids} {A : ArenaSt} {L : List (Key × Cl)} {F : Nat → Prop} (h : StM w I A L F) (p : Ext w) : StM p.w I A L F := by
  obtain ⟨⟨fv, l, h1, h2, h3⟩, h4, h5, h6⟩ := h
  exact ⟨⟨fv, l, h1.ext p, h2, h3⟩, h4, h5, h6⟩
theorem StM.ch {w : World} {I : Ids} {A : ArenaSt} {L : List (Key × Cl)} {F T : Nat → Prop} (h : StM w I A L F) (p : Ch T w) (hT : ∀ b, T b → ¬ F b) : StM p.w I A L F := by
  obtain ⟨⟨fv, l, h1, h2, h3⟩, h4, h5, h6⟩ := h
  exact ⟨⟨fv, l, h1.keep fun b hb => p.same b (h1.lt hb) fun ht => hT b ht (h3 b hb), h2, h3⟩, h4, h5, h6⟩
theorem StM.mono {w : World} {I : Ids} {A : ArenaSt} {L : List (Key × Cl)} {F G : Nat → Prop} (h : StM w I A L F) (hG : ∀ b, b < w.heap.size → F b → G b) : StM w I A L G := by
  obtain ⟨⟨fv, l, h1, h2, h3⟩, h4, h5, h6⟩ := h
  exact ⟨⟨fv, l, h1, h2, fun b hb => hG b (h1.lt hb) (h3 b hb)⟩, h4, h5, h6⟩
/-- What was allocated last is none of the store's. -/
theorem StM.keep {w w' : World} {I : Ids} {A : ArenaSt} {L : List (Key × Cl)} {F : Nat → Prop} (h : StM w I A L F) (e : ∀ b, F b → b < w.heap.size → w'.heap[b]? = w.heap[b]?) : StM w' I A L F := by
  obtain ⟨⟨fv, l, h1, h2, h3⟩, h4, h5, h6⟩ := h
  exact ⟨⟨fv, l, h1.keep fun b hb => e b (h3 b hb) (h1.lt hb), h2, h3⟩, h4, h5, h6⟩

def holdsM (L : List (Key × Cl)) (k : Key) (who : Int) : Bool := match aget L k with | none => false | some z => !freeB z.wd && (z.who == who)
theorem holds_strip {l : List (Key × Slot)} {L : List (Key × Cl)} (h : l.map strip = L) (k : Key) (who : Int) : holdsB l k who = holdsM L k who := by
  subst h; unfold holdsB holdsM; rw [aget_map (fun z => Slot.cl z)]; cases aget l k <;> rfl
def readM (L : List (Key × Cl)) (k : Key) : Value × Int :=
  match aget L k with
  | none => (seenV 0 ⟨#[]⟩ false, 0)
  | some z => if freeB z.wd then (seenV (stampZ z.wd) z.text (!goneB z.wd), 0) else (seenV 0 ⟨#[]⟩ false, 60)
theorem read_strip {l : List (Key × Slot)} {L : List (Key × Cl)} (h : l.map strip = L) (k : Key) : readV l k = readM L k := by
  subst h; unfold readV readM; rw [aget_map (fun z => Slot.cl z)]; cases aget l k <;> rfl
def stillM (L : List (Key × Cl)) (k : Key) (who wd : Int) (has : Bool) : Bool :=
  match aget L k with
  | none => !has
  | some z => if !freeB z.wd && (z.who != who) then false else (goneB z.wd == !has) && ((stampZ z.wd == wd) || (!has && (stampZ z.wd == 0)))
theorem still_strip {l : List (Key × Slot)} {L : List (Key × Cl)} (h : l.map strip = L) (k : Key) (who wd : Int) (has : Bool) : stillB l k who wd has = stillM L k who wd has := by
  subst h; unfold stillB stillM; rw [aget_map (fun z => Slot.cl z)]; cases aget l k <;> rfl

theorem holds_m (I : Ids) (A : ArenaSt) (L : List (Key × Cl)) (F : Nat → Prop) (k : Key) (who : Int) (w : World) (h : StM w I A L F) :
    Calls Try.prog 120 #[.pointer (some ⟨I.s, 0, none⟩), keyV k, .int .i64 who] w fun e w' => e = .returned (.bool (holdsM L k who)) ∧ ∃ p : Ext w, w' = p.w := by
  obtain ⟨⟨fv, l, h1, h2, h3⟩, h4, h5, h6⟩ := h
  rw [← holds_strip h2]
  exact holds_any I fv A l _ _ _ _ who w h1
theorem read_m (I : Ids) (A : ArenaSt) (L : List (Key × Cl)) (F : Nat → Prop) (k : Key) (w : World) (h : StM w I A L F) :
    Calls Try.prog 28 #[.pointer (some ⟨I.s, 0, none⟩), keyV k] w fun e w' => e = .returned (.tuple #[(readM L k).1, .int .i64 (readM L k).2]) ∧ ∃ p : Ext w, w' = p.w := by
  obtain ⟨⟨fv, l, h1, h2, h3⟩, h4, h5, h6⟩ := h
  rw [← read_strip h2]
  exact read_any I fv A l _ _ _ _ w h1
theorem still_m (I : Ids) (A : ArenaSt) (L : List (Key × Cl)) (F : Nat → Prop) (k : Key) (who vw : Int) (vs : ByteArray) (has : Bool) (w : World) (h : StM w I A L F) :
    Calls Try.prog 33 #[.pointer (some ⟨I.s, 0, none⟩), keyV k, .int .i64 who, seenV vw vs has] w fun e w' => e = .returned (.bool (stillM L k who vw has)) ∧ ∃ p : Ext w, w' = p.w := by
  obtain ⟨⟨fv, l, h1, h2, h3⟩, h4, h5, h6⟩ := h
  rw [← still_strip h2]
  exact still_any I fv A l _ _ _ _ who vw vs has w h1

def lockM (A : ArenaSt) (L : List (Key × Cl)) (k : Key) (who : Int) : (Int × Int) × ArenaSt × List (Key × Cl) :=
  match aget L k with
  | some z => if freeB z.wd then ((stampZ (lockZ z.wd), 0), A, aput L k { z with wd := lockZ z.wd, who := who }) else ((0, 60), A, L)
  | none => match takeA A with
    | none => ((0, 50), A, L)
    | some (s, A') => ((stampZ (lockZ (absentZ 0 true)), 0), A', aput L k ⟨s, genOf A s, lockZ (absentZ 0 true), ⟨#[]⟩, who⟩)

theorem take_bounds {A A' : ArenaSt} {s : Int} (h : takeA A = some (s, A')) (lo : 0 ≤ A.fresh) (hi : A.fresh ≤ A.room) : 0 ≤ A'.fresh ∧ A'.fresh ≤ A'.room ∧ A'.room = A.room := by
  unfold takeA at h
  split at h
  · split at h
    · cases h
    · rename_i hr
      simp only [Option.some.injEq, Prod.mk.injEq] at h
      obtain ⟨rfl, rfl⟩ := h
      simp at hr
      refine ⟨?_, ?_, rfl⟩ <;> simp only <;> omega
  · simp only [Option.some.injEq, Prod.mk.injEq] at h
    obtain ⟨rfl, rfl⟩ := h
    exact ⟨lo, hi, rfl⟩

theorem mem_aput {α β : Type} [DecidableEq α] {l : List (α × β)} {k : α} {v : β} {p : α × β} (h : p ∈ aput l k v) : p ∈ l ∨ p = (k, v) := by
  induction l with
  | nil => simp only [aput, List.mem_singleton] at h; exact .inr h
  | cons q l ih =>
    simp only [aput] at h
    split at h
    · rcases List.mem_cons.1 h with rfl | h
      · exact .inr rfl
      · exact .inl (List.mem_cons_of_mem _ h)
    · rcases List.mem_cons.1 h with rfl | h
      · exact .inl (List.mem_cons_self ..)
      · rcases ih h with h | h
        · exact .inl (List.mem_cons_of_mem _ h)
        · exact .inr h

theorem foot_put {I : Ids} {fv : Value} {l : List (Key × Slot)} {k : Key} {z' : Slot} {b : Nat} (h : Foot I fv (aput l k z') b) : Foot I fv l b ∨ b = z'.x := by
  unfold Foot at *
  rcases h with h | h | h | h | h | h | ⟨p, hp, h⟩
  · exact .inl (by simp [h])
  · exact .inl (by simp [h])
  · exact .inl (by simp [h])
  · exact .inl (by simp [h])
  · exact .inl (by simp [h])
  · exact .inl (by simp [h])
  · rcases mem_aput hp with hp | rfl
    · exact .inl (.inr (.inr (.inr (.inr (.inr (.inr ⟨p, hp, h⟩))))))
    · exact .inr h.symm

theorem lock_m (I : Ids) (A : ArenaSt) (L : List (Key × Cl)) (F : Nat → Prop) (k : Key) (who : Int) (w : World) (h : StM w I A L F) (hF : ∀ b, w.heap.size ≤ b → F b) :
    Calls Try.prog 25 #[.pointer (some ⟨I.s, 0, none⟩), keyV k, .int .i64 who] w fun e w' =>
      e = .returned (.tuple #[.int .u64 (lockM A L k who).1.1, .int .i64 (lockM A L k who).1.2]) ∧ ∃ p : Ch F w, w' = p.w ∧ StM p.w I (lockM A L k who).2.1 (lockM A L k who).2.2 F := by
  have h0 := h
  obtain ⟨⟨fv, l, h1, h2, h3⟩, h4, h5, h6⟩ := h
  have hm : aget L k = (aget l k).map Slot.cl := by rw [← h2]; exact aget_map (fun z => Slot.cl z) l k
  unfold lockM
  rcases hg : aget l k with _ | z
  · rw [hm, hg]
    simp only [Option.map_none]
    rcases ht : takeA A with _ | ⟨s, A'⟩
    · refine (lock_full I fv A l _ _ _ _ who w h1 hg h4 (by omega) ht).mono ?_
      rintro e w' ⟨rfl, p, rfl⟩
      exact ⟨rfl, p.up F, rfl, h0.ext p⟩
    · refine (lock_new I fv A A' l _ _ _ _ who s w h1 hg h4 (by omega) ht).mono ?_
      rintro e w' ⟨rfl, p, rfl, fv', x, hfv, hx, hx2, hS⟩
      refine ⟨rfl, p.mono (fun b hb hc => h3 b (by rcases hc with rfl | rfl | rfl <;> simp [Foot])), rfl, ⟨⟨fv', _, hS, ?_, ?_⟩, (take_bounds ht h4 h5).1, (take_bounds ht h4 h5).2.1, by rw [(take_bounds ht h4 h5).2.2]; exact h6⟩⟩
      · exact (aput_map (fun z => Slot.cl z) l k (newSlot x A s who)).trans (by rw [← h2]; rfl)
      · intro b hb
        rcases foot_put hb with hb | rfl
        · refine h3 b ?_
          unfold Foot at *
          rw [hfv] at hb
          exact hb
        · exact hF _ hx
  · rw [hm, hg]
    simp only [Option.map_some]
    cases hf : freeB z.wd
    · simp only [hf, Bool.false_eq_true, if_false]
      refine (lock_busy I fv A l _ _ _ _ who w z h1 hg hf).mono ?_
      rintro e w' ⟨rfl, p, rfl⟩
      exact ⟨rfl, p.up F, rfl, h0.ext p⟩
    · simp only [hf, if_true]
      refine (lock_old I fv A l _ _ _ _ who w z h1 hg hf).mono ?_
      rintro e w' ⟨rfl, p, rfl, hS⟩
      have hxF : F z.x := h3 z.x (.inr (.inr (.inr (.inr (.inr (.inr ⟨_, aget_mem hg, rfl⟩))))))
      refine ⟨rfl, p.mono (fun b _ e => e ▸ hxF), rfl, ⟨⟨fv, _, hS, ?_, ?_⟩, h4, h5, h6⟩⟩
      · exact (aput_map (fun z => Slot.cl z) l k _).trans (by rw [← h2])
      · intro b hb
        rcases foot_put hb with hb | rfl
        · exact h3 b hb
        · exact hxF

def badM (stamp wd : Int) (vs : ByteArray) (has : Bool) : Bool := (stamp != stampZ stamp) || decide (stamp ≤ stampZ wd) || (!vs.toList.isEmpty && !has)
def installM (L : List (Key × Cl)) (k : Key) (who stamp : Int) (vs : ByteArray) (has : Bool) : Int × List (Key × Cl) :=
  if holdsM L k who then
    match aget L k with
    | none => (51, L)
    | some z => if badM stamp z.wd vs has then (2, L) else (0, aput L k { z with wd := absentZ stamp (!has), text := vs })
  else (51, L)

theorem install_m (I : Ids) (A : ArenaSt) (L : List (Key × Cl)) (F : Nat → Prop) (k : Key) (who stamp vw : Int) (vs : ByteArray) (has : Bool) (w : World) (h : StM w I A L F) :
    Calls Try.prog 26 #[.pointer (some ⟨I.s, 0, none⟩), keyV k, .int .i64 who, .int .u64 stamp, seenV vw vs has] w fun e w' =>
      e = .returned (.int .i64 (installM L k who stamp vs has).1) ∧ ∃ p : Ch F w, w' = p.w ∧ StM p.w I A (installM L k who stamp vs has).2 F := by
  have h0 := h
  obtain ⟨⟨fv, l, h1, h2, h3⟩, h4, h5, h6⟩ := h
  have hm : aget L k = (aget l k).map Slot.cl := by rw [← h2]; exact aget_map (fun z => Slot.cl z) l k
  have hh := holds_strip h2 k who
  unfold installM
  cases hb : holdsM L k who
  · rw [hb] at hh
    rw [if_neg (by simp)]
    refine (install_not I fv A l _ _ _ _ who stamp vw vs has w h1 hh).mono ?_
    rintro e w' ⟨rfl, p, rfl⟩
    exact ⟨rfl, p.up F, rfl, h0.ext p⟩
  · rw [hb] at hh
    rw [if_pos rfl]
    rcases hg : aget l k with _ | z
    · unfold holdsB at hh; rw [hg] at hh; cases hh
    · rw [hm, hg]
      simp only [Option.map_some]
      cases hbad : badM stamp z.wd vs has
      · simp only [hbad, Bool.false_eq_true, if_false]
        refine (install_ok I fv A l _ _ _ _ who stamp vw vs has w z h1 hh hg hbad).mono ?_
        rintro e w' ⟨rfl, p, rfl, hS⟩
        have hxF : F z.x := h3 z.x (.inr (.inr (.inr (.inr (.inr (.inr ⟨_, aget_mem hg, rfl⟩))))))
        refine ⟨rfl, p.mono (fun b _ e => e ▸ hxF), rfl, ⟨⟨fv, _, hS, ?_, ?_⟩, h4, h5, h6⟩⟩
        · exact (aput_map (fun z => Slot.cl z) l k _).trans (by rw [← h2])
        · intro b hb
          rcases foot_put hb with hb | rfl
          · exact h3 b hb
          · exact hxF
      · simp only [hbad, if_true]
        refine (install_bad I fv A l _ _ _ _ who stamp vw vs has w z h1 hh hg hbad).mono ?_
        rintro e w' ⟨rfl, p, rfl⟩
        exact ⟨rfl, p.up F, rfl, h0.ext p⟩

theorem cellNew_m (room : Int) (w : World) (h0 : 0 ≤ room) (h1 : room ≤ 1048576) :
    Calls Try.prog 24 #[.int .i64 room] w fun e w' => ∃ I : Ids, e = .returned (.tuple #[.pointer (some ⟨I.s, 0, none⟩), .int .i64 0]) ∧ ∃ p : Ext w, w' = p.w ∧
      StM p.w I ⟨room, 0, [], [], []⟩ [] (fun b => w.heap.size ≤ b) := by
  refine (cellNew_ok room w h0 h1).mono ?_
  rintro e w' ⟨p, I, rfl, rfl, hS, hF⟩
  exact ⟨I, rfl, p, rfl, ⟨⟨_, _, hS, rfl, hF⟩, by simp, h0, h1⟩⟩
end Go.Proofs.Cob

namespace Go.Proofs.Cob
open Go Go.RowKit Go.Cob
set_option linter.unusedSimpArgs false
set_option linter.unusedVariables false

theorem and_split (a b s t : Nat) (hs : s < 4611686018427387904) (ht : t < 4611686018427387904) : (4611686018427387904 * a + s) &&& (4611686018427387904 * b + t) = 4611686018427387904 * (a &&& b) + (s &&& t) := by
  have h1 := Nat.and_div_two_pow (n := 62) (a := 4611686018427387904 * a + s) (b := 4611686018427387904 * b + t)
  have h2 := Nat.and_mod_two_pow (n := 62) (a := 4611686018427387904 * a + s) (b := 4611686018427387904 * b + t)
  have e : (2 : Nat) ^ 62 = 4611686018427387904 := by decide
  rw [e] at h1 h2
  rw [show (4611686018427387904 * a + s) / 4611686018427387904 = a from by omega, show (4611686018427387904 * b + t) / 4611686018427387904 = b from by omega] at h1
  rw [show (4611686018427387904 * a + s) % 4611686018427387904 = s from by omega, show (4611686018427387904 * b + t) % 4611686018427387904 = t from by omega] at h2
  generalize (4611686018427387904 * a + s) &&& (4611686018427387904 * b + t) = x at *
  generalize a &&& b = y at *
  generalize s &&& t = z at *
  omega
theorem or_split (a b s t : Nat) (hs : s < 4611686018427387904) (ht : t < 4611686018427387904) : (4611686018427387904 * a + s) ||| (4611686018427387904 * b + t) = 4611686018427387904 * (a ||| b) + (s ||| t) := by
  have h1 := Nat.or_div_two_pow (n := 62) (a := 4611686018427387904 * a + s) (b := 4611686018427387904 * b + t)
  have h2 := Nat.or_mod_two_pow (n := 62) (a := 4611686018427387904 * a + s) (b := 4611686018427387904 * b + t)
  have e : (2 : Nat) ^ 62 = 4611686018427387904 := by decide
  rw [e] at h1 h2
  rw [show (4611686018427387904 * a + s) / 4611686018427387904 = a from by omega, show (4611686018427387904 * b + t) / 4611686018427387904 = b from by omega] at h1
  rw [show (4611686018427387904 * a + s) % 4611686018427387904 = s from by omega, show (4611686018427387904 * b + t) % 4611686018427387904 = t from by omega] at h2
  generalize (4611686018427387904 * a + s) ||| (4611686018427387904 * b + t) = x at *
  generalize a ||| b = y at *
  generalize s ||| t = z at *
  omega

/-- A word: its stamp, absent, locked. -/
def mkN (s : Nat) (g l : Bool) : Nat := 4611686018427387904 * ((if g then 1 else 0) + (if l then 2 else 0)) + s
def mkW (s : Nat) (g l : Bool) : Int := ((mkN s g l : Nat) : Int)
theorem mkN_lt {s : Nat} (hs : s < 4611686018427387904) (g l : Bool) : mkN s g l < 18446744073709551616 := by unfold mkN; cases g <;> cases l <;> simp <;> omega

section
variable {s : Nat} (hs : s < 4611686018427387904) (g l : Bool)
include hs
theorem stamp_mk : stampZ (mkW s g l) = (s : Int) := by
  unfold stampZ mkW
  rw [show (13835058055282163712 : Int) = ((13835058055282163712 : Nat) : Int) from rfl, u64_andNot_nat _ _ (mkN_lt hs g l) (by decide)]
  rw [show 18446744073709551615 - 13835058055282163712 = 4611686018427387904 * 0 + 4611686018427387903 from by decide]
  unfold mkN
  rw [and_split _ _ _ _ hs (by decide), Nat.and_zero]
  have : s &&& 4611686018427387903 = s % 2 ^ 62 := Nat.and_two_pow_sub_one_eq_mod s 62
  rw [this, show (2 : Nat) ^ 62 = 4611686018427387904 from by decide, Nat.mod_eq_of_lt hs]
  simp
theorem free_mk : freeB (mkW s g l) = !l := by
  unfold freeB mkW
  rw [show (9223372036854775808 : Int) = ((9223372036854775808 : Nat) : Int) from rfl, u64_and_nat _ _ (mkN_lt hs g l) (by decide)]
  rw [show (9223372036854775808 : Nat) = 4611686018427387904 * 2 + 0 from by decide]
  unfold mkN
  rw [and_split _ _ _ _ hs (by decide), Nat.and_zero]
  cases g <;> cases l <;> simp
theorem gone_mk : goneB (mkW s g l) = g := by
  unfold goneB absentZ mkW
  rw [if_pos rfl, show (4611686018427387904 : Int) = ((4611686018427387904 : Nat) : Int) from rfl, u64_or_nat _ _ (mkN_lt hs g l) (by decide)]
  have e : mkN s g l ||| 4611686018427387904 = 4611686018427387904 * (((if g then 1 else 0) + (if l then 2 else 0)) ||| 1) + s := by
    unfold mkN
    rw [show (4611686018427387904 * ((if g = true then 1 else 0) + if l = true then 2 else 0) + s ||| 4611686018427387904) = (4611686018427387904 * ((if g = true then 1 else 0) + if l = true then 2 else 0) + s ||| (4611686018427387904 * 1 + 0)) from rfl]
    rw [or_split _ _ _ _ hs (by decide), Nat.or_zero]
  rw [e]
  unfold mkN
  cases g <;> cases l <;> simp <;> omega
theorem lock_mk : lockZ (mkW s g false) = mkW s g true := by
  unfold lockZ mkW
  rw [show (9223372036854775808 : Int) = ((9223372036854775808 : Nat) : Int) from rfl, u64_or_nat _ _ (mkN_lt hs g false) (by decide)]
  rw [show (9223372036854775808 : Nat) = 4611686018427387904 * 2 + 0 from by decide]
  unfold mkN
  rw [or_split _ _ _ _ hs (by decide), Nat.or_zero]
  cases g <;> simp
theorem unlock_mk : unlockZ (mkW s g l) = mkW s g false := by
  unfold unlockZ mkW
  rw [show (9223372036854775808 : Int) = ((9223372036854775808 : Nat) : Int) from rfl, u64_andNot_nat _ _ (mkN_lt hs g l) (by decide)]
  rw [show 18446744073709551615 - 9223372036854775808 = 4611686018427387904 * 1 + 4611686018427387903 from by decide]
  unfold mkN
  rw [and_split _ _ _ _ hs (by decide)]
  have : s &&& 4611686018427387903 = s % 2 ^ 62 := Nat.and_two_pow_sub_one_eq_mod s 62
  rw [this, show (2 : Nat) ^ 62 = 4611686018427387904 from by decide, Nat.mod_eq_of_lt hs]
  cases g <;> cases l <;> simp
theorem absent_mk : absentZ (s : Int) g = mkW s g false := by
  have e0 : (s : Nat) = 4611686018427387904 * 0 + s := by omega
  have hlt : s < 18446744073709551616 := by omega
  unfold absentZ mkW
  cases g
  · rw [if_neg (by simp), show (4611686018427387904 : Int) = ((4611686018427387904 : Nat) : Int) from rfl, u64_andNot_nat _ _ hlt (by decide)]
    rw [show 18446744073709551615 - 4611686018427387904 = 4611686018427387904 * 2 + 4611686018427387903 from by decide]
    have h := and_split 0 2 s 4611686018427387903 hs (by decide)
    rw [← e0] at h
    rw [h]
    have : s &&& 4611686018427387903 = s % 2 ^ 62 := Nat.and_two_pow_sub_one_eq_mod s 62
    rw [this, show (2 : Nat) ^ 62 = 4611686018427387904 from by decide, Nat.mod_eq_of_lt hs]
    simp [mkN]
  · rw [if_pos rfl, show (4611686018427387904 : Int) = ((4611686018427387904 : Nat) : Int) from rfl, u64_or_nat _ _ hlt (by decide)]
    have h := or_split 0 1 s 0 hs (by decide)
    rw [← e0, Nat.or_zero] at h
    rw [show (s ||| 4611686018427387904) = (s ||| (4611686018427387904 * 1 + 0)) from rfl, h]
    simp [mkN]
end
/-- Every word is one. -/
theorem mk_all (x : Nat) (hx : x < 18446744073709551616) : ∃ g l, x = mkN (x % 4611686018427387904) g l := by
  have h : x / 4611686018427387904 = 0 ∨ x / 4611686018427387904 = 1 ∨ x / 4611686018427387904 = 2 ∨ x / 4611686018427387904 = 3 := by omega
  rcases h with h | h | h | h
  · exact ⟨false, false, by simp [mkN]; omega⟩
  · exact ⟨true, false, by simp [mkN]; omega⟩
  · exact ⟨false, true, by simp [mkN]; omega⟩
  · exact ⟨true, true, by simp [mkN]; omega⟩
theorem stamp_all (x : Int) (h0 : 0 ≤ x) (h1 : x < 18446744073709551616) : stampZ x = x % 4611686018427387904 := by
  obtain ⟨n, rfl⟩ := Int.eq_ofNat_of_zero_le h0
  have hn : n < 18446744073709551616 := by omega
  obtain ⟨g, l, e⟩ := mk_all n hn
  have := stamp_mk (s := n % 4611686018427387904) (Nat.mod_lt _ (by decide)) g l
  unfold mkW at this
  rw [← e] at this
  rw [this]
  omega
theorem stamp_bad (x : Int) (h0 : 0 ≤ x) (h1 : x < 18446744073709551616) : (x != stampZ x) = decide (4611686018427387904 ≤ x) := by
  rw [stamp_all x h0 h1]
  by_cases h : 4611686018427387904 ≤ x
  · have : x ≠ x % 4611686018427387904 := by omega
    simp [h, this]
  · have : x = x % 4611686018427387904 := by omega
    rw [decide_eq_false h, ← this]
    simp
end Go.Proofs.Cob

namespace Go.Proofs.Cob
open Go Go.RowKit Go.Cob
set_option linter.unusedSimpArgs false
set_option linter.unusedVariables false

abbrev Box := Nat × TypeId × Array Value
/-- The blocks laid since w0 that are none of the boxes. -/
abbrev Wide (w0 : World) (bs : List Box) : Nat → Prop := fun b => w0.heap.size ≤ b ∧ ∀ x ∈ bs, b ≠ x.1

structure Scene (w0 W : World) (bs : List Box) : Prop where
  bx : ∀ x ∈ bs, W.heap[x.1]? = some (.cells x.2.2 x.2.1 (0, 0)) ∧ w0.heap.size ≤ x.1
  fin : ∃ p : Ext w0, W = p.w

theorem Scene.refl (w0 : World) : Scene w0 w0 [] := ⟨by simp, Ch.refl NoS w0, rfl⟩
theorem Scene.size {w0 W : World} {bs : List Box} (h : Scene w0 W bs) : w0.heap.size ≤ W.heap.size := by
  obtain ⟨p, rfl⟩ := h.fin; exact p.size
theorem Scene.wide {w0 W : World} {bs : List Box} (h : Scene w0 W bs) : ∀ b, W.heap.size ≤ b → Wide w0 bs b := fun b hb =>
  ⟨by have := h.size; omega, fun x hx => by have := lt_of_blk (h.bx x hx).1; omega⟩
theorem Scene.ch {w0 W : World} {bs : List Box} (h : Scene w0 W bs) (q : Ch (Wide w0 bs) W) : Scene w0 q.w bs := by
  refine ⟨fun x hx => ⟨q.blk (h.bx x hx).1 fun hw => hw.2 x hx rfl, (h.bx x hx).2⟩, ?_⟩
  obtain ⟨p, hp⟩ := h.fin
  exact ⟨p.onto hp q (fun b hb hw => absurd hw.1 (by omega)), rfl⟩
theorem Scene.ext {w0 W : World} {bs : List Box} (h : Scene w0 W bs) (q : Ext W) : Scene w0 q.w bs := h.ch (q.up _)
theorem Scene.alloc {w0 W : World} {bs : List Box} (h : Scene w0 W bs) (c : Array Value) (t : TypeId) : Scene w0 (W.alloc (.cells c t)) ((W.heap.size, t, c) :: bs) := by
  have hs := h.size
  obtain ⟨hb, p, rfl⟩ := h
  refine ⟨fun x hx => ?_, p.alloc _, rfl⟩
  rcases List.mem_cons.1 hx with rfl | hx
  · exact ⟨heap_alloc_at _ _, hs⟩
  · exact ⟨heap_alloc_blk _ (hb x hx).1, (hb x hx).2⟩
theorem Scene.drop {w0 W : World} {b : Box} {bs : List Box} (h : Scene w0 W (b :: bs)) : Scene w0 W bs := ⟨fun x hx => h.bx x (List.mem_cons_of_mem _ hx), h.fin⟩
theorem StM.box {w0 W : World} {bs : List Box} {I : Ids} {A : ArenaSt} {L : List (Key × Cl)} (h : StM W I A L (Wide w0 bs)) (c : Array Value) (t : TypeId) : StM (W.alloc (.cells c t)) I A L (Wide w0 ((W.heap.size, t, c) :: bs)) := by
  have := (h.mono (G := Wide w0 ((W.heap.size, t, c) :: bs)) fun b hb hw => ⟨hw.1, fun x hx => by
    rcases List.mem_cons.1 hx with rfl | hx
    · exact Nat.ne_of_lt hb
    · exact hw.2 x hx⟩)
  exact this.ext ((Ch.refl NoS W).alloc _)
theorem Scene.cell {w0 W : World} {bs : List Box} (h : Scene w0 W bs) {n : Nat} {t : TypeId} {c : Array Value} (hx : (n, t, c) ∈ bs) : W.heap[n]? = some (.cells c t (0, 0)) := (h.bx _ hx).1
end Go.Proofs.Cob
