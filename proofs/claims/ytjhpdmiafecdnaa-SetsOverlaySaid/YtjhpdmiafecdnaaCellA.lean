/-
  The cells' store (layer 9), first part: what it is in memory; reading.
-/
import Derived.Test.YtjhpdmiafecdnaaArena
namespace Go.Proofs.Cob
open Go Go.RowKit Go.Cob
set_option linter.unusedSimpArgs false
set_option linter.unusedVariables false

structure Ids where
  s : Nat
  a : Nat
  m : Nat
  g : Nat
  t : Nat
structure Slot where
  x : Nat
  sl : Int
  gen : Int
  wd : Int
  text : ByteArray
  who : Int
abbrev slotV (z : Slot) : Value := .pointer (some ⟨z.x, 0, none⟩)
abbrev SlotIn (w : World) (z : Slot) : Prop := SlotAt w z.x z.sl z.gen z.wd z.text z.who

structure StoreAt (w : World) (I : Ids) (fv : Value) (A : ArenaSt) (l : List (Key × Slot)) : Prop where
  st : w.heap[I.s]? = some (.cells #[.pointer (some ⟨I.a, 0, none⟩), .map (some I.m)] 58 (0, 0))
  ar : ArenaAt w I.a I.g I.t fv A
  mp : MapAt keyV slotV w I.m l
  slots : ∀ p ∈ l, SlotIn w p.2
  nodup : (l.map (·.2.x)).Nodup
  mg : I.m ≠ I.g
  mt : I.m ≠ I.t

theorem aget_mem {α β : Type} [DecidableEq α] {l : List (α × β)} {k : α} {v : β} (h : aget l k = some v) : (k, v) ∈ l := by
  unfold aget at h
  obtain ⟨p, hp, rfl⟩ := Option.map_eq_some_iff.1 h
  have h1 := List.find?_some hp
  have h2 := List.mem_of_find?_eq_some hp
  simp at h1
  subst h1
  exact h2

theorem z178 (w : World) : (zeroValue 178).run Try.prog w = .ok (.pointer none) w := by kernel_rfl

/-- A callee's contract that lays blocks alone, met in a world of a class. -/
theorem _root_.Go.Cob.Calls.inCh {P : Program} {f : FuncId} {args : Array Value} {S : Nat → Prop} {w0 : World} {p : Ch S w0} {v : Value}
    (h : Calls P f args p.w fun e w' => e = .returned v ∧ ∃ q : Ext p.w, w' = q.w) : Calls P f args p.w fun e w' => e = .returned v ∧ ∃ p' : Ch S w0, w' = p'.w :=
  h.mono fun _ _ ⟨he, q, hq⟩ => ⟨he, p.thenE q, hq⟩

/-- The blocks that a store is made of. -/
def Foot (I : Ids) (fv : Value) (l : List (Key × Slot)) (b : Nat) : Prop :=
  b = I.s ∨ b = I.a ∨ b = I.m ∨ b = I.g ∨ b = I.t ∨ fv.ownBlock = some b ∨ ∃ p ∈ l, p.2.x = b

theorem ArenaAt.keep {w w' : World} {a g t : Nat} {fv : Value} {A : ArenaSt} (h : ArenaAt w a g t fv A) (ea : w'.heap[a]? = w.heap[a]?) (eg : w'.heap[g]? = w.heap[g]?) (et : w'.heap[t]? = w.heap[t]?)
    (ef : ∀ b, fv.ownBlock = some b → w'.heap[b]? = w.heap[b]?) : ArenaAt w' a g t fv A := by
  obtain ⟨h1, h2, h3, h4, h5⟩ := h
  exact ⟨ea.trans h1, h2.keep eg, h3.keep et, rowKeep h4 ef, h5⟩

theorem StoreAt.lt {w : World} {I : Ids} {fv : Value} {A : ArenaSt} {l : List (Key × Slot)} (h : StoreAt w I fv A l) {b : Nat} (hb : Foot I fv l b) : b < w.heap.size := by
  rcases hb with rfl | rfl | rfl | rfl | rfl | hb | ⟨p, hp, rfl⟩
  · exact lt_of_blk h.st
  · exact lt_of_blk h.ar.1
  · exact h.mp.lt
  · exact h.ar.2.1.lt
  · exact h.ar.2.2.1.lt
  · obtain ⟨_, hc⟩ := rowBlk h.ar.2.2.2.1 hb; exact lt_of_blk hc
  · exact lt_of_blk (h.slots p hp)

theorem StoreAt.keep {w w' : World} {I : Ids} {fv : Value} {A : ArenaSt} {l : List (Key × Slot)} (h : StoreAt w I fv A l) (he : ∀ b, Foot I fv l b → w'.heap[b]? = w.heap[b]?) : StoreAt w' I fv A l where
  st := (he _ (.inl rfl)).trans h.st
  ar := h.ar.keep (he _ (.inr (.inl rfl))) (he _ (.inr (.inr (.inr (.inl rfl))))) (he _ (.inr (.inr (.inr (.inr (.inl rfl)))))) fun b hb => he b (.inr (.inr (.inr (.inr (.inr (.inl hb))))))
  mp := h.mp.keep (he _ (.inr (.inr (.inl rfl))))
  slots := fun p hp => (he _ (.inr (.inr (.inr (.inr (.inr (.inr ⟨p, hp, rfl⟩))))))).trans (h.slots p hp)
  nodup := h.nodup
  mg := h.mg
  mt := h.mt

theorem StoreAt.ext {w : World} {I : Ids} {fv : Value} {A : ArenaSt} {l : List (Key × Slot)} (h : StoreAt w I fv A l) (p : Ext w) : StoreAt p.w I fv A l :=
  h.keep fun b hb => p.same b (h.lt hb) id
theorem StoreAt.alloc {w : World} {I : Ids} {fv : Value} {A : ArenaSt} {l : List (Key × Slot)} (h : StoreAt w I fv A l) (o : Obj) : StoreAt (w.alloc o) I fv A l :=
  h.keep fun b hb => heap_alloc_lt o (h.lt hb)

def holdsB (l : List (Key × Slot)) (k : Key) (who : Int) : Bool := match aget l k with | none => false | some z => !freeB z.wd && (z.who == who)

abbrev keyCells (kd ka kb : Int) (ks : ByteArray) : Array Value := #[.int .i64 kd, .int .i64 ka, .int .i64 kb, .string ks]

set_option maxHeartbeats 400000 in
theorem holds_any (I : Ids) (fv : Value) (A : ArenaSt) (l : List (Key × Slot)) (kd ka kb : Int) (ks : ByteArray) (who : Int) (w : World) (h : StoreAt w I fv A l) :
    Calls Try.prog 120 #[.pointer (some ⟨I.s, 0, none⟩), .agg #[.int .i64 kd, .int .i64 ka, .int .i64 kb, .string ks], .int .i64 who] w fun e w' =>
      e = .returned (.bool (holdsB l ⟨kd, ka, kb, ks⟩ who)) ∧ ∃ p : Ext w, w' = p.w := by
  obtain ⟨W, hW⟩ : ∃ W, W = w.alloc (.cells (keyCells kd ka kb ks) 23) := ⟨_, rfl⟩
  have hkb : W.heap[w.heap.size]? = some (.cells (keyCells kd ka kb ks) 23 (0, 0)) := by rw [hW]; exact heap_alloc_at _ _
  have hS : StoreAt W I fv A l := by rw [hW]; exact h.alloc _
  have fin : ∀ p : Ext W, ∃ q : Ext w, p.w = q.w := fun p => ⟨((Ch.refl NoS w).alloc _).onto hW p (fun _ _ h => h), rfl⟩
  have k0 : ∀ p : Ext W, p.w.cell? ⟨w.heap.size, 0, none⟩ = some (.int .i64 kd) := fun p => cell_at 0 (p.blkE hkb); have k1 : ∀ p : Ext W, p.w.cell? ⟨w.heap.size, 1, none⟩ = some (.int .i64 ka) := fun p => cell_at 1 (p.blkE hkb); have k2 : ∀ p : Ext W, p.w.cell? ⟨w.heap.size, 2, none⟩ = some (.int .i64 kb) := fun p => cell_at 2 (p.blkE hkb); have k3 : ∀ p : Ext W, p.w.cell? ⟨w.heap.size, 3, none⟩ = some (.string ks) := fun p => cell_at 3 (p.blkE hkb)
  have m1 : ∀ p : Ext W, p.w.cell? ⟨I.s, 1, none⟩ = some (.map (some I.m)) := fun p => cell_at 1 (hS.ext p).st
  go_enter Try.func120, Try.ntmps120
  clear h
  cases hg : aget l ⟨kd, ka, kb, ks⟩ with
  | none =>
    have hv : holdsB l ⟨kd, ka, kb, ks⟩ who = false := by simp [holdsB, hg]
    rw [hv]
    clear hv
    go_wp2_with fail
    rw [← hW]
    clear hW
    refine wp_region_ch NoS (by kernel_rfl) (by kernel_rfl) (fun p _ => ?_)
    (repeat (first | (refine wpMix_skip rfl rfl ?_) | (refine wpMix_step (fun K hK => ?_); go_simp; (with_reducible (refine hK _ _ ?_)); clear hK K)))
    refine wpMix_look (K := key_law) (encV := slotV) (k := ⟨kd, ka, kb, ks⟩) (l := l) (c := false) rfl _ _ rfl Try.underlying56 z178 rfl rfl (fun w' ⟨q, hq⟩ => by rw [hq]; exact (hS.ext q).mp) (v := .pointer none) (by rw [hg]; rfl) ?_
    clear hg
    (repeat (first | (refine wpMix_skip rfl rfl ?_) | (refine wpMix_step (fun K hK => ?_); go_simp; (with_reducible (refine hK _ _ ?_)); clear hK K)))
    refine wpMix_nil ?_
    go_wp2
    go_ret
    exact ⟨rfl, fin p⟩
  | some z =>
    have hz : ∀ p : Ext W, SlotIn p.w z := fun p => (hS.ext p).slots _ (aget_mem hg)
    have z4 : ∀ p : Ext W, p.w.cell? ⟨z.x, 4, none⟩ = some (.int .i64 z.who) := fun p => cell_at 4 (hz p)
    cases hf : freeB z.wd with
    | true =>
      have hv : holdsB l ⟨kd, ka, kb, ks⟩ who = false := by simp [holdsB, hg, hf]
      rw [hv]
      clear hv
      go_wp2_with fail
      rw [← hW]
      clear hW
      refine wp_region_ch NoS (by kernel_rfl) (by kernel_rfl) (fun p _ => ?_)
      (repeat (first | (refine wpMix_skip rfl rfl ?_) | (refine wpMix_step (fun K hK => ?_); go_simp; (with_reducible (refine hK _ _ ?_)); clear hK K)))
      refine wpMix_look (K := key_law) (encV := slotV) (k := ⟨kd, ka, kb, ks⟩) (l := l) (c := false) rfl _ _ rfl Try.underlying56 z178 rfl rfl (fun w' ⟨q, hq⟩ => by rw [hq]; exact (hS.ext q).mp) (v := .pointer (some ⟨z.x, 0, none⟩)) (by rw [hg]; rfl) ?_
      clear hg
      (repeat (first | (refine wpMix_skip rfl rfl ?_) | (refine wpMix_step (fun K hK => ?_); go_simp; (with_reducible (refine hK _ _ ?_)); clear hK K)))
      refine wpMix_nil ?_
      go_wp2_with (go_at_call 121; go_must (refine (locked_any _ _ _ _ _ _ _ (hz p)).mono ?_); rintro e w' ⟨rfl, rfl⟩; rw [hf])
      go_ret
      exact ⟨rfl, fin p⟩
    | false =>
      have hv : holdsB l ⟨kd, ka, kb, ks⟩ who = (z.who == who) := by simp [holdsB, hg, hf]
      rw [hv]
      clear hv
      go_wp2_with fail
      rw [← hW]
      clear hW
      refine wp_region_ch NoS (by kernel_rfl) (by kernel_rfl) (fun p _ => ?_)
      (repeat (first | (refine wpMix_skip rfl rfl ?_) | (refine wpMix_step (fun K hK => ?_); go_simp; (with_reducible (refine hK _ _ ?_)); clear hK K)))
      refine wpMix_look (K := key_law) (encV := slotV) (k := ⟨kd, ka, kb, ks⟩) (l := l) (c := false) rfl _ _ rfl Try.underlying56 z178 rfl rfl (fun w' ⟨q, hq⟩ => by rw [hq]; exact (hS.ext q).mp) (v := .pointer (some ⟨z.x, 0, none⟩)) (by rw [hg]; rfl) ?_
      clear hg
      (repeat (first | (refine wpMix_skip rfl rfl ?_) | (refine wpMix_step (fun K hK => ?_); go_simp; (with_reducible (refine hK _ _ ?_)); clear hK K)))
      refine wpMix_nil ?_
      go_wp2_with (go_at_call 121; go_must (refine (locked_any _ _ _ _ _ _ _ (hz p)).mono ?_); rintro e w' ⟨rfl, rfl⟩; rw [hf])
      go_ret
      exact ⟨rfl, fin p⟩

/-! ### slots that are read -/
theorem has_any (x : Nat) (sl gen wd : Int) (text : ByteArray) (who : Int) (w : World) (hb : SlotAt w x sl gen wd text who) :
    Calls Try.prog 169 #[.pointer (some ⟨x, 0, none⟩)] w fun e w' => e = .returned (.bool (!goneB wd)) ∧ ∃ p : Ext w, w' = p.w := by
  go_enter Try.func169, Try.ntmps169
  go_wp2_with (go_at_call 129; go_must (refine (slotAbsent_any _ _ _ _ _ _ _ hb).mono ?_); rintro e w' ⟨rfl, p, rfl⟩)
  go_ret
  exact ⟨rfl, p, rfl⟩

abbrev seenV (wd : Int) (text : ByteArray) (has : Bool) : Value := .agg #[.int .u64 wd, .string text, .bool has]

set_option maxHeartbeats 400000 in
theorem slotSeen_any (x : Nat) (sl gen wd : Int) (text : ByteArray) (who : Int) (w : World) (hb : SlotAt w x sl gen wd text who) :
    Calls Try.prog 122 #[.pointer (some ⟨x, 0, none⟩)] w fun e w' => e = .returned (seenV (stampZ wd) text (!goneB wd)) ∧ ∃ p : Ext w, w' = p.w := by
  obtain ⟨n, hn⟩ : ∃ n, n = w.heap.size := ⟨_, rfl⟩
  obtain ⟨W, hW⟩ : ∃ W, W = w.alloc (.cells #[.int .u64 0, .string ⟨#[]⟩, .bool false] 37) := ⟨_, rfl⟩
  have hnb : W.heap[n]? = some (.cells #[.int .u64 0, .string ⟨#[]⟩, .bool false] 37 (0, 0)) := by rw [hW, hn]; exact heap_alloc_at _ _
  have hx : SlotAt W x sl gen wd text who := by rw [hW]; exact heap_alloc_blk _ hb
  have hxn : x ≠ n := by have := lt_of_blk hb; omega
  have hx' : ∀ p : Ch (fun b => b = n) W, SlotAt p.w x sl gen wd text who := fun p => p.blk hx hxn
  have s2 : ∀ p : Ch (fun b => b = n) W, p.w.cell? ⟨x, 2, none⟩ = some (.int .u64 wd) := fun p => cell_at 2 (hx' p)
  have s3 : ∀ p : Ch (fun b => b = n) W, p.w.cell? ⟨x, 3, none⟩ = some (.string text) := fun p => cell_at 3 (hx' p)
  have fin : ∀ p : Ch (fun b => b = n) W, ∃ q : Ext w, p.w = q.w := fun p => ⟨((Ch.refl NoS w).alloc _).onto hW p (fun b hb h => by omega), rfl⟩
  go_enter Try.func122, Try.ntmps122
  clear hb
  go_wp2_with fail
  rw [← hn, ← hW]
  clear hW hx hn
  refine wp_region_ch (fun b => b = n) (by kernel_rfl) (by kernel_rfl) (fun p hp => ?_)
  have hnp : p.w.heap[n]? = some (.cells #[.int .u64 0, .string ⟨#[]⟩, .bool false] 37 (0, 0)) := by rw [hp]; exact hnb
  clear hp
  (repeat (first | (refine wpMix_skip rfl rfl ?_) | (refine wpMix_step (fun K hK => ?_); go_simp; (with_reducible (refine hK _ _ ?_)); clear hK K)))
  refine wpMix_step (fun K hK => ?_); go_simp; refine (stamp_any _ _).mono ?_; rintro e w' ⟨rfl, rfl⟩; refine ⟨⟨p, rfl⟩, hK _ _ ?_⟩; clear hK K
  (repeat (first | (refine wpMix_skip rfl rfl ?_) | (refine wpMix_step (fun K hK => ?_); go_simp; (with_reducible (refine hK _ _ ?_)); clear hK K)))
  refine wpMix_step (fun K hK => ?_); go_simp
  refine (has_any _ _ _ _ _ _ _ (hx' p)).mono ?_
  rintro e w' ⟨rfl, q, rfl⟩
  refine ⟨⟨p.thenE q, rfl⟩, hK _ _ ?_⟩; clear hK K
  have hnq := q.blkE hnp
  obtain ⟨p2, hp2⟩ : ∃ p2 : Ch (fun b => b = n) W, q.w = p2.w := ⟨p.thenE q, rfl⟩
  rw [hp2] at hnq ⊢
  clear hp2 q hnp
  (repeat (first | (refine wpMix_skip rfl rfl ?_) | (refine wpMix_step (fun K hK => ?_); go_simp; (with_reducible (refine hK _ _ ?_)); clear hK K)))
  have n0 := cell_at 0 hnq
  have n1 := cell_at 1 hnq
  have n2 := cell_at 2 hnq
  have nf0 := frozen_at 0 hnq
  have nf1 := frozen_at 1 hnq
  have nf2 := frozen_at 2 hnq
  refine wpMix_step (fun K hK => ?_); go_simp
  refine ⟨⟨((p2.set n 0 (.int .u64 (stampZ wd)) (fun _ => rfl)).set n 1 (.string text) (fun _ => rfl)).set n 2 (.bool (!goneB wd)) (fun _ => rfl), rfl⟩, hK _ _ ?_⟩; clear hK K
  refine wpMix_nil ?_
  go_wp2
  refine bodyPost_ret (v := seenV (stampZ wd) text (!goneB wd)) (by simp [results, Try.results122, go_sem, n0, n1, n2, nf0, nf1, nf2]) rfl ⟨rfl, ?_⟩
  exact fin (((p2.set n 0 (.int .u64 (stampZ wd)) (fun _ => rfl)).set n 1 (.string text) (fun _ => rfl)).set n 2 (.bool (!goneB wd)) (fun _ => rfl))
end Go.Proofs.Cob
