/-
  The cells' store (layer 9), fourth part: Install, Lock.
-/
import Derived.Test.YtjhpdmiafecdnaaCellC
namespace Go.Proofs.Cob
open Go Go.RowKit Go.Cob
set_option linter.unusedSimpArgs false
set_option linter.unusedVariables false

theorem ents_congr {α β α' β' : Type} {encK : α → Value} {encV : β → Value} {encK' : α' → Value} {encV' : β' → Value} : ∀ (l : List (α × β)) (l' : List (α' × β')) (bs : List Nat), l.map (fun p => (encK p.1, encV p.2)) = l'.map (fun p => (encK' p.1, encV' p.2)) → ents encK encV l bs = ents encK' encV' l' bs
  | [], [], _, _ => by cases ‹List Nat› <;> rfl
  | [], _ :: _, _, h => by simp at h
  | _ :: _, [], _, h => by simp at h
  | (k, v) :: l, (k', v') :: l', [], h => rfl
  | (k, v) :: l, (k', v') :: l', b :: bs, h => by
    simp only [List.map_cons, List.cons.injEq, Prod.mk.injEq] at h
    simp only [ents]
    rw [ents_congr l l' bs h.2, h.1.1, h.1.2]
theorem _root_.Go.Cob.MapAt.congr {α β : Type} [DecidableEq α] {encK : α → Value} {encV : β → Value} {w : World} {m : Nat} {l l' : List (α × β)} (h : MapAt encK encV w m l) (e : l.map (fun p => (encK p.1, encV p.2)) = l'.map (fun p => (encK p.1, encV p.2))) : MapAt encK encV w m l' := by
  obtain ⟨bs, c, h1, h2, h3⟩ := h
  exact ⟨bs, c, by rw [← ents_congr l l' bs e]; exact h1, by have := congrArg List.length e; simp at this; omega, h3⟩

theorem aget_cases {α β : Type} [DecidableEq α] {l : List (α × β)} {k : α} {v : β} (h : aget l k = some v) : ∃ l1 l2, l = l1 ++ (k, v) :: l2 ∧ adel l k = l1 ++ l2 ∧ ∀ v', aput l k v' = l1 ++ (k, v') :: l2 := by
  rcases find_cases l k with ⟨-, e, -⟩ | ⟨l1, v0, l2, e0, -, e1, e2, e3⟩
  · rw [e] at h; cases h
  · rw [e1] at h; cases h; exact ⟨l1, l2, e0, e2, e3⟩

theorem StoreAt.ne {w : World} {I : Ids} {fv : Value} {A : ArenaSt} {l : List (Key × Slot)} (h : StoreAt w I fv A l) {z : Slot} (hz : SlotIn w z) : I.s ≠ z.x ∧ I.a ≠ z.x ∧ I.m ≠ z.x ∧ I.g ≠ z.x ∧ I.t ≠ z.x ∧ ∀ b, fv.ownBlock = some b → b ≠ z.x :=
  ⟨blkNe h.st hz (by decide), blkNe h.ar.1 hz (by decide), h.mp.ne_cells hz, h.ar.2.1.ne_cells hz, h.ar.2.2.1.ne_cells hz, fun b hb => by obtain ⟨_, hc⟩ := rowBlk h.ar.2.2.2.1 hb; exact blkNe hc hz (by decide)⟩

/-- One slot is written. -/
theorem StoreAt.setSlot {w : World} {I : Ids} {fv : Value} {A : ArenaSt} {l : List (Key × Slot)} (h : StoreAt w I fv A l) {k : Key} {z z' : Slot} (hg : aget l k = some z) (hx : z'.x = z.x)
    (p : Ch (fun b => b = z.x) w) (hz : SlotIn p.w z') : StoreAt p.w I fv A (aput l k z') := by
  obtain ⟨n1, n2, n3, n4, n5, n6⟩ := h.ne (h.slots _ (aget_mem hg))
  obtain ⟨l1, l2, e0, -, e1⟩ := aget_cases hg
  have hnd := h.nodup
  rw [e0] at hnd
  simp only [List.map_append, List.map_cons, List.nodup_append, List.nodup_cons] at hnd
  rw [e1 z']
  refine ⟨p.blk h.st n1, h.ar.keep (p.same _ (lt_of_blk h.ar.1) n2) (p.same _ h.ar.2.1.lt n4) (p.same _ h.ar.2.2.1.lt n5) (fun b hb => p.same b (h.lt (.inr (.inr (.inr (.inr (.inr (.inl hb))))))) (n6 b hb)), ?_, ?_, ?_, h.mg, h.mt⟩
  · refine ((h.mp.keep (p.same _ h.mp.lt n3)).congr ?_)
    rw [e0]; simp [hx]
  · intro q hq
    rcases List.mem_append.1 hq with hq | hq
    · exact p.blk (h.slots q (by rw [e0]; simp [hq])) (hnd.2.2 _ (List.mem_map.2 ⟨q, hq, rfl⟩) _ (List.mem_cons_self ..))
    · rcases List.mem_cons.1 hq with rfl | hq
      · exact hz
      · exact p.blk (h.slots q (by rw [e0]; simp [hq])) (fun e => hnd.2.1.1 (by rw [← e]; exact List.mem_map.2 ⟨q, hq, rfl⟩))
  · simp only [List.map_append, List.map_cons, List.nodup_append, List.nodup_cons, hx]; exact hnd

def badB (stamp : Int) (z : Slot) (vs : ByteArray) (has : Bool) : Bool := (stamp != stampZ stamp) || decide (stamp ≤ stampZ z.wd) || (!vs.toList.isEmpty && !has)

set_option maxHeartbeats 1600000 in
theorem install_not (I : Ids) (fv : Value) (A : ArenaSt) (l : List (Key × Slot)) (kd ka kb : Int) (ks : ByteArray) (who stamp vw : Int) (vs : ByteArray) (has : Bool) (w : World) (h : StoreAt w I fv A l) (hh : holdsB l ⟨kd, ka, kb, ks⟩ who = false) :
    Calls Try.prog 26 #[.pointer (some ⟨I.s, 0, none⟩), .agg #[.int .i64 kd, .int .i64 ka, .int .i64 kb, .string ks], .int .i64 who, .int .u64 stamp, .agg #[.int .u64 vw, .string vs, .bool has]] w fun e w' =>
      e = .returned (.int .i64 51) ∧ ∃ p : Ext w, w' = p.w := by
  have hS := (h.alloc (.cells (keyCells kd ka kb ks) 23)).alloc (.cells #[.int .u64 vw, .string vs, .bool has] 37)
  go_enter Try.func26, Try.ntmps26
  go_wp2_with (go_at_call 120; go_must (refine (holds_any _ _ _ _ _ _ _ _ _ _ hS).mono ?_); rintro e w' ⟨rfl, p, rfl⟩; rw [hh])
  go_ret
  exact ⟨rfl, (((Ch.refl NoS w).alloc _).alloc _).thenE p, rfl⟩

set_option maxHeartbeats 1600000 in
theorem install_bad (I : Ids) (fv : Value) (A : ArenaSt) (l : List (Key × Slot)) (kd ka kb : Int) (ks : ByteArray) (who stamp vw : Int) (vs : ByteArray) (has : Bool) (w : World) (z : Slot) (h : StoreAt w I fv A l) (hh : holdsB l ⟨kd, ka, kb, ks⟩ who = true)
    (hg : aget l ⟨kd, ka, kb, ks⟩ = some z) (hb : badB stamp z vs has = true) :
    Calls Try.prog 26 #[.pointer (some ⟨I.s, 0, none⟩), .agg #[.int .i64 kd, .int .i64 ka, .int .i64 kb, .string ks], .int .i64 who, .int .u64 stamp, .agg #[.int .u64 vw, .string vs, .bool has]] w fun e w' =>
      e = .returned (.int .i64 2) ∧ ∃ p : Ext w, w' = p.w := by
  have hS := (h.alloc (.cells (keyCells kd ka kb ks) 23)).alloc (.cells #[.int .u64 vw, .string vs, .bool has] 37)
  obtain ⟨W, hW⟩ : ∃ W, W = (w.alloc (.cells (keyCells kd ka kb ks) 23)).alloc (.cells #[.int .u64 vw, .string vs, .bool has] 37) := ⟨_, rfl⟩
  rw [← hW] at hS
  have hkb : W.heap[w.heap.size]? = some (.cells (keyCells kd ka kb ks) 23 (0, 0)) := by rw [hW]; exact heap_alloc_blk _ (heap_alloc_at _ _)
  have hvb : W.heap[w.heap.size + 1]? = some (.cells #[.int .u64 vw, .string vs, .bool has] 37 (0, 0)) := by rw [hW]; exact heap_alloc_eq _ (by simp)
  have fin : ∀ p : Ext W, ∃ q : Ext w, p.w = q.w := fun p => ⟨(((Ch.refl NoS w).alloc _).alloc _).onto hW p (fun b hb h => h), rfl⟩
  go_enter Try.func26, Try.ntmps26
  clear h
  go_wp2_with fail
  rw [← hW]
  clear hW
  go_wp2_with (go_at_call 120; go_must (refine (holds_any _ _ _ _ _ _ _ _ _ _ hS).mono ?_); rintro e w' ⟨rfl, p, rfl⟩; rw [hh])
  have hS1 := hS.ext p; have hkb1 := p.blkE hkb; have hvb1 := p.blkE hvb; have fin1 : ∀ q : Ext p.w, ∃ r : Ext w, q.w = r.w := fun q => fin (p.thenE q); clear fin hS hkb hvb; generalize p.w = W1 at hS1 hkb1 hvb1 fin1 ⊢; clear p
  have k0 : ∀ p : Ext W1, p.w.cell? ⟨w.heap.size, 0, none⟩ = some (.int .i64 kd) := fun p => cell_at 0 (p.blkE hkb1); have k1 : ∀ p : Ext W1, p.w.cell? ⟨w.heap.size, 1, none⟩ = some (.int .i64 ka) := fun p => cell_at 1 (p.blkE hkb1); have k2 : ∀ p : Ext W1, p.w.cell? ⟨w.heap.size, 2, none⟩ = some (.int .i64 kb) := fun p => cell_at 2 (p.blkE hkb1); have k3 : ∀ p : Ext W1, p.w.cell? ⟨w.heap.size, 3, none⟩ = some (.string ks) := fun p => cell_at 3 (p.blkE hkb1)
  have m1 : ∀ p : Ext W1, p.w.cell? ⟨I.s, 1, none⟩ = some (.map (some I.m)) := fun p => cell_at 1 (hS1.ext p).st
  refine wp_region_ch NoS (by kernel_rfl) (by kernel_rfl) (fun p _ => ?_)
  (repeat (first | (refine wpMix_skip rfl rfl ?_) | (refine wpMix_step (fun K hK => ?_); go_simp; (with_reducible (refine hK _ _ ?_)); clear hK K)))
  refine wpMix_look (K := key_law) (encV := slotV) (k := ⟨kd, ka, kb, ks⟩) (l := l) (c := false) rfl _ _ rfl Try.underlying56 z178 rfl rfl (fun w' ⟨q, hq⟩ => by rw [hq]; exact (hS1.ext q).mp) (v := .pointer (some ⟨z.x, 0, none⟩)) (by rw [hg]; rfl) ?_
  (repeat (first | (refine wpMix_skip rfl rfl ?_) | (refine wpMix_step (fun K hK => ?_); go_simp; (with_reducible (refine hK _ _ ?_)); clear hK K)))
  refine wpMix_nil ?_
  have hz := (hS1.ext p).slots _ (aget_mem hg)
  have z2 := cell_at 2 hz
  have v1 := cell_at 1 (p.blkE hvb1)
  have v2 := cell_at 2 (p.blkE hvb1)
  clear hg k0 k1 k2 k3 m1
  cases h1 : (stamp != stampZ stamp)
  · cases h2 : decide (stamp ≤ stampZ z.wd)
    · have h34 : (!vs.toList.isEmpty) = true ∧ has = false := by
        revert hb; unfold badB; rw [h1, h2]; cases has <;> simp
      obtain ⟨h3, rfl⟩ := h34
      clear hb
      go_wp2_with (go_at_call 119; go_must (refine (stamp_any _ _).mono ?_); rintro e w' ⟨rfl, rfl⟩)
      go_ret
      exact ⟨rfl, fin1 p⟩
    · clear hb
      go_wp2_with (go_at_call 119; go_must (refine (stamp_any _ _).mono ?_); rintro e w' ⟨rfl, rfl⟩)
      go_ret
      exact ⟨rfl, fin1 p⟩
  · clear hb
    go_wp2_with (go_at_call 119; go_must (refine (stamp_any _ _).mono ?_); rintro e w' ⟨rfl, rfl⟩)
    go_ret
    exact ⟨rfl, fin1 p⟩

set_option maxHeartbeats 1600000 in
theorem install_ok (I : Ids) (fv : Value) (A : ArenaSt) (l : List (Key × Slot)) (kd ka kb : Int) (ks : ByteArray) (who stamp vw : Int) (vs : ByteArray) (has : Bool) (w : World) (z : Slot) (h : StoreAt w I fv A l) (hh : holdsB l ⟨kd, ka, kb, ks⟩ who = true)
    (hg : aget l ⟨kd, ka, kb, ks⟩ = some z) (hb : badB stamp z vs has = false) :
    Calls Try.prog 26 #[.pointer (some ⟨I.s, 0, none⟩), .agg #[.int .i64 kd, .int .i64 ka, .int .i64 kb, .string ks], .int .i64 who, .int .u64 stamp, .agg #[.int .u64 vw, .string vs, .bool has]] w fun e w' =>
      e = .returned (.int .i64 0) ∧ ∃ p : Ch (fun b => b = z.x) w, w' = p.w ∧ StoreAt p.w I fv A (aput l ⟨kd, ka, kb, ks⟩ { z with wd := absentZ stamp (!has), text := vs }) := by
  have hS := (h.alloc (.cells (keyCells kd ka kb ks) 23)).alloc (.cells #[.int .u64 vw, .string vs, .bool has] 37)
  obtain ⟨W, hW⟩ : ∃ W, W = (w.alloc (.cells (keyCells kd ka kb ks) 23)).alloc (.cells #[.int .u64 vw, .string vs, .bool has] 37) := ⟨_, rfl⟩
  rw [← hW] at hS
  have hkb : W.heap[w.heap.size]? = some (.cells (keyCells kd ka kb ks) 23 (0, 0)) := by rw [hW]; exact heap_alloc_blk _ (heap_alloc_at _ _)
  have hvb : W.heap[w.heap.size + 1]? = some (.cells #[.int .u64 vw, .string vs, .bool has] 37 (0, 0)) := by rw [hW]; exact heap_alloc_eq _ (by simp)
  have fin : ∀ p : Ch (fun b => b = z.x) W, ∃ q : Ch (fun b => b = z.x) w, p.w = q.w := fun p => ⟨(((Ch.refl _ w).alloc _).alloc _).onto hW p (fun b hb h => h), rfl⟩
  have hne : w.heap.size + 1 ≠ z.x := blkNe hvb (hS.slots _ (aget_mem hg)) (by decide)
  go_enter Try.func26, Try.ntmps26
  clear h
  go_wp2_with fail
  rw [← hW]
  clear hW
  go_wp2_with (go_at_call 120; go_must (refine (holds_any _ _ _ _ _ _ _ _ _ _ hS).mono ?_); rintro e w' ⟨rfl, p, rfl⟩; rw [hh])
  have hS1 := hS.ext p; have hkb1 := p.blkE hkb; have hvb1 := p.blkE hvb
  have fin1 : ∀ q : Ch (fun b => b = z.x) p.w, ∃ r : Ch (fun b => b = z.x) w, q.w = r.w := fun q => fin ((p.up _).then q (fun _ _ h => h))
  clear fin hS hkb hvb
  generalize p.w = W1 at hS1 hkb1 hvb1 fin1 ⊢
  clear p
  have k0 : ∀ p : Ext W1, p.w.cell? ⟨w.heap.size, 0, none⟩ = some (.int .i64 kd) := fun p => cell_at 0 (p.blkE hkb1); have k1 : ∀ p : Ext W1, p.w.cell? ⟨w.heap.size, 1, none⟩ = some (.int .i64 ka) := fun p => cell_at 1 (p.blkE hkb1); have k2 : ∀ p : Ext W1, p.w.cell? ⟨w.heap.size, 2, none⟩ = some (.int .i64 kb) := fun p => cell_at 2 (p.blkE hkb1); have k3 : ∀ p : Ext W1, p.w.cell? ⟨w.heap.size, 3, none⟩ = some (.string ks) := fun p => cell_at 3 (p.blkE hkb1)
  have m1 : ∀ p : Ext W1, p.w.cell? ⟨I.s, 1, none⟩ = some (.map (some I.m)) := fun p => cell_at 1 (hS1.ext p).st
  refine wp_region_ch NoS (by kernel_rfl) (by kernel_rfl) (fun p _ => ?_)
  (repeat (first | (refine wpMix_skip rfl rfl ?_) | (refine wpMix_step (fun K hK => ?_); go_simp; (with_reducible (refine hK _ _ ?_)); clear hK K)))
  refine wpMix_look (K := key_law) (encV := slotV) (k := ⟨kd, ka, kb, ks⟩) (l := l) (c := false) rfl _ _ rfl Try.underlying56 z178 rfl rfl (fun w' ⟨q, hq⟩ => by rw [hq]; exact (hS1.ext q).mp) (v := .pointer (some ⟨z.x, 0, none⟩)) (by rw [hg]; rfl) ?_
  (repeat (first | (refine wpMix_skip rfl rfl ?_) | (refine wpMix_step (fun K hK => ?_); go_simp; (with_reducible (refine hK _ _ ?_)); clear hK K)))
  refine wpMix_nil ?_
  clear k0 k1 k2 k3 m1 hkb1
  have hS2 := hS1.ext p; have hvb2 := p.blkE hvb1
  have fin2 : ∀ q : Ch (fun b => b = z.x) p.w, ∃ r : Ch (fun b => b = z.x) w, q.w = r.w := fun q => fin1 ((p.up _).then q (fun _ _ h => h))
  clear fin1 hS1 hvb1
  generalize p.w = W2 at hS2 hvb2 fin2 ⊢
  have hz := hS2.slots _ (aget_mem hg)
  have z2 := cell_at 2 hz
  have v1 : ∀ q : Ch (fun b => b = z.x) W2, q.w.cell? ⟨w.heap.size + 1, 1, none⟩ = some (.string vs) := fun q => cell_at 1 (q.blk hvb2 hne)
  have v2 : ∀ q : Ch (fun b => b = z.x) W2, q.w.cell? ⟨w.heap.size + 1, 2, none⟩ = some (.bool has) := fun q => cell_at 2 (q.blk hvb2 hne)
  have v1' := cell_at 1 hvb2
  have v2' := cell_at 2 hvb2
  have Hg : Hid (aget l ⟨kd, ka, kb, ks⟩ = some z) := hg
  clear hg
  have hbits : (stamp != stampZ stamp) = false ∧ decide (stamp ≤ stampZ z.wd) = false ∧ (!vs.toList.isEmpty && !has) = false := by
    revert hb; unfold badB; cases (stamp != stampZ stamp) <;> cases decide (stamp ≤ stampZ z.wd) <;> simp
  obtain ⟨h1, h2, h3⟩ := hbits
  have fin3 : ∀ q : Ch (fun b => b = z.x) W2, q.w.heap[z.x]? = some (.cells (slotCells z.sl z.gen (absentZ stamp (!has)) vs z.who) 183 (0, 0)) →
      ∃ r : Ch (fun b => b = z.x) w, q.w = r.w ∧ StoreAt r.w I fv A (aput l ⟨kd, ka, kb, ks⟩ { z with wd := absentZ stamp (!has), text := vs }) := fun q hq => by
    obtain ⟨r, hr⟩ := fin2 q
    exact ⟨r, hr, hr ▸ hS2.setSlot (z' := { z with wd := absentZ stamp (!has), text := vs }) Hg.out rfl q hq⟩
  clear fin2 hb hS2
  have h3' : (!vs.toList.isEmpty) = false ∨ ((!vs.toList.isEmpty) = true ∧ has = true) := by revert h3; cases (!vs.toList.isEmpty) <;> cases has <;> simp
  rcases h3' with h4 | ⟨h4, rfl⟩
  all_goals
    go_wp2_with (go_at_call 119; go_must (refine (stamp_any _ _).mono ?_); rintro e w' ⟨rfl, rfl⟩)
    refine wp_region_ch (fun b => b = z.x) (by kernel_rfl) (by kernel_rfl) (fun q hq => ?_)
    have hzq : SlotIn q.w z := by show q.w.heap[z.x]? = _; rw [hq]; exact hz
    clear hq
    (repeat (first | (refine wpMix_skip rfl rfl ?_) | (refine wpMix_step (fun K hK => ?_); go_simp; (with_reducible (refine hK _ _ ?_)); clear hK K)))
    refine wpMix_step (fun K hK => ?_); go_simp; refine (absent_any _ _ _).mono ?_; rintro e w' ⟨rfl, rfl⟩; refine ⟨⟨q, rfl⟩, hK _ _ ?_⟩; clear hK K
    (repeat (first | (refine wpMix_skip rfl rfl ?_) | (refine wpMix_step (fun K hK => ?_); go_simp; (with_reducible (refine hK _ _ ?_)); clear hK K)))
    have y2 := cell_at 2 hzq
    have y3 := cell_at 3 hzq
    have f2 := frozen_at 2 hzq
    have f3 := frozen_at 3 hzq
    refine wpMix_step (fun K hK => ?_); go_simp
    refine ⟨⟨q.set z.x 2 _ (fun _ => rfl), rfl⟩, hK _ _ ?_⟩; clear hK K
    (repeat (first | (refine wpMix_skip rfl rfl ?_) | (refine wpMix_step (fun K hK => ?_); go_simp; (with_reducible (refine hK _ _ ?_)); clear hK K)))
    refine wpMix_step (fun K hK => ?_); go_simp
    refine ⟨⟨(q.set z.x 2 _ (fun _ => rfl)).set z.x 3 _ (fun _ => rfl), rfl⟩, hK _ _ ?_⟩; clear hK K
    refine wpMix_nil ?_
    go_wp2
    go_ret
    refine ⟨rfl, fin3 ((q.set z.x 2 _ (fun _ => rfl)).set z.x 3 _ (fun _ => rfl)) ?_⟩
    first
      | (have := heap_set_same (heap_set_same hzq 2 (.int .u64 (absentZ stamp (!has)))) 3 (.string vs)
         simpa using this)
      | (have := heap_set_same (heap_set_same hzq 2 (.int .u64 (absentZ stamp (!true)))) 3 (.string vs)
         simpa using this)
end Go.Proofs.Cob
