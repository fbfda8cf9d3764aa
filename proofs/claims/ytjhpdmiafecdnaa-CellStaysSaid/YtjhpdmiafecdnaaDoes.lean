/-
  One act on both stores: they answer alike.
-/
import Derived.Test.YtjhpdmiafecdnaaDuo
import Derived.Test.YtjhpdmiafecdnaaSmall
namespace Go.Proofs.Cob
open Go Go.RowKit Go.Cob
set_option linter.unusedSimpArgs false
set_option linter.unusedVariables false

theorem run_eq_seen (a : Int) (b : ByteArray) (c : Bool) (w : World) : (Op.equalIn 10000 37 (seenV a b c) (seenV a b c)).run Try.prog w = .ok true w := by
  have hs : (b.toList == b.toList) = true := by simp
  simp [go_sem, Try.underlying37, Try.underlying32, Try.underlying9, Try.underlying4, hs]

/-- Both stores, alike. -/
structure Run (w : World) (I : Ids) (r : Nat) (A : ArenaSt) (L : List (Key × Cl)) (B : Nat → Prop) : Prop where
  duo : Duo w I r A L A.room (L.map conv) B
  wo : WordsOk L
  iv : InvA A L
theorem Run.ext {w : World} {I : Ids} {r : Nat} {A : ArenaSt} {L : List (Key × Cl)} {B : Nat → Prop} (h : Run w I r A L B) (p : Ext w) : Run p.w I r A L B := ⟨h.duo.ext p, h.wo, h.iv⟩
theorem Run.few {w : World} {I : Ids} {r : Nat} {A : ArenaSt} {L : List (Key × Cl)} {B : Nat → Prop} (h : Run w I r A L B) : L.length ≤ 1048576 ∧ A.fresh ≤ A.room := by
  obtain ⟨F, G, h1, -⟩ := h.duo
  have := h1.fl; have := h1.st.hi; have := h1.st.top; have := h.iv.len
  exact ⟨by omega, h1.st.hi⟩
theorem Run.box {w : World} {I : Ids} {r : Nat} {A : ArenaSt} {L : List (Key × Cl)} {B : Nat → Prop} (h : Run w I r A L B) (o : Obj) : Run (w.alloc o) I r A L (fun b => B b ∧ b ≠ w.heap.size) := by
  obtain ⟨F, G, h1, h2, h3, h4, h5⟩ := (h.ext ((Ch.refl NoS w).alloc o)).duo
  obtain ⟨F0, G0, g1, g2, g3, g4, g5⟩ := h.duo
  exact ⟨⟨F0, G0, g1.ext ((Ch.refl NoS w).alloc o), g2.ext ((Ch.refl NoS w).alloc o), fun b hb => ⟨⟨(g3 b hb).1, Nat.ne_of_lt (g3 b hb).2⟩, by have := (g3 b hb).2; simp; omega⟩, fun b hb => ⟨⟨(g4 b hb).1, Nat.ne_of_lt (g4 b hb).2⟩, by have := (g4 b hb).2; simp; omega⟩, g5⟩, h.wo, h.iv⟩
theorem Run.mono {w : World} {I : Ids} {r : Nat} {A : ArenaSt} {L : List (Key × Cl)} {B B' : Nat → Prop} (h : Run w I r A L B) (hB : ∀ b, B b → B' b) : Run w I r A L B' := by
  obtain ⟨F, G, h1, h2, h3, h4, h5⟩ := h.duo
  exact ⟨⟨F, G, h1, h2, fun b hb => ⟨hB b (h3 b hb).1, (h3 b hb).2⟩, fun b hb => ⟨hB b (h4 b hb).1, (h4 b hb).2⟩, h5⟩, h.wo, h.iv⟩
theorem Run.read {w : World} {I : Ids} {r : Nat} {A : ArenaSt} {L : List (Key × Cl)} {B : Nat → Prop} (h : Run w I r A L B) (k : Key) :
    Calls Try.prog 28 #[.pointer (some ⟨I.s, 0, none⟩), keyV k] w fun e w' => e = .returned (.tuple #[(readM L k).1, .int .i64 (readM L k).2]) ∧ ∃ p : Ext w, w' = p.w := by
  obtain ⟨F, G, h1, -⟩ := h.duo
  exact read_m I A L F k w h1.st
theorem Run.rread {w : World} {I : Ids} {r : Nat} {A : ArenaSt} {L : List (Key × Cl)} {B : Nat → Prop} (h : Run w I r A L B) (k : Key) :
    Calls Try.prog 123 #[.pointer (some ⟨r, 0, none⟩), keyV k] w fun e w' => e = .returned (.tuple #[(readM L k).1, .int .i64 (readM L k).2]) ∧ ∃ p : Ext w, w' = p.w := by
  have hf := h.few.1
  obtain ⟨F, G, h1, h2, -⟩ := h.duo
  obtain ⟨⟨v, g1, -⟩, -⟩ := h2
  have := refRead_any r v A.room (L.map conv) k w g1 (by simp; omega)
  rw [read_conv] at this
  exact this
theorem readM_form (L : List (Key × Cl)) (k : Key) : ∃ a b c n, readM L k = (seenV a b c, n) := by
  unfold readM
  cases aget L k with
  | none => exact ⟨_, _, _, _, rfl⟩
  | some z => simp only; split <;> exact ⟨_, _, _, _, rfl⟩

set_option maxRecDepth 4000 in
set_option maxHeartbeats 1600000 in
theorem does_read (I : Ids) (r : Nat) (A : ArenaSt) (L : List (Key × Cl)) (B : Nat → Prop) (a : Act) (w : World) (h : Run w I r A L B) (hB : ∀ b, w.heap.size ≤ b → B b) (hk : a.kind = 0) :
    Calls Try.prog 30 #[.pointer (some ⟨I.s, 0, none⟩), .pointer (some ⟨r, 0, none⟩), actV a] w fun e w' => e = .returned (.bool true) ∧ ∃ p : Ext w, w' = p.w := by
  obtain ⟨kind, who, ⟨kd, ka, kb, ks⟩, kfa, kcap, keys, stamp, sw, stx, sh⟩ := a
  simp only at hk
  subst hk
  obtain ⟨x, y, z, n, hr⟩ := readM_form L ⟨kd, ka, kb, ks⟩
  obtain ⟨W, hW⟩ : ∃ W, W = w.alloc (.cells (actCells ⟨0, who, ⟨kd, ka, kb, ks⟩, kfa, kcap, keys, stamp, sw, stx, sh⟩) 43) := ⟨_, rfl⟩
  have hb : W.heap[w.heap.size]? = some (.cells (actCells ⟨0, who, ⟨kd, ka, kb, ks⟩, kfa, kcap, keys, stamp, sw, stx, sh⟩) 43 (0, 0)) := by rw [hW]; exact heap_alloc_at _ _
  have hR : Run W I r A L B := by rw [hW]; exact h.ext ((Ch.refl NoS w).alloc _)
  have fin : ∀ p : Ext W, ∃ q : Ext w, p.w = q.w := fun p => ⟨((Ch.refl NoS w).alloc _).onto hW p (fun b hb h => h), rfl⟩
  have hE := run_eq_seen x y z
  clear h
  go_enter Try.func30, Try.ntmps30
  go_wp2_with fail
  rw [← hW]
  clear hW
  go_at_call 28
  have hcc := hR.read ⟨kd, ka, kb, ks⟩
  rw [hr] at hcc
  refine hcc.mono ?_
  clear hcc
  rintro e w' ⟨rfl, p, rfl⟩
  have hb1 := p.blkE hb
  have hR1 := hR.ext p
  have fin1 : ∀ q : Ext p.w, ∃ q' : Ext w, q.w = q'.w := fun q => fin (p.thenE q)
  have hlt := lt_of_blk hb1
  clear hR hb fin hB
  generalize p.w = W1 at *
  clear p W
  obtain ⟨bk, hbk⟩ : ∃ bk, bk = w.heap.size := ⟨_, rfl⟩
  rw [← hbk] at hb1 hlt ⊢
  have k2 : W1.cell? ⟨bk, 2, none⟩ = some (.int .i64 kd) := cell_at 2 hb1
  have k3 : W1.cell? ⟨bk, 3, none⟩ = some (.int .i64 ka) := cell_at 3 hb1
  have k4 : W1.cell? ⟨bk, 4, none⟩ = some (.int .i64 kb) := cell_at 4 hb1
  have k5 : W1.cell? ⟨bk, 5, none⟩ = some (.string ks) := cell_at 5 hb1
  clear hbk
  have hne : bk ≠ W1.heap.size := Nat.ne_of_lt hlt
  go_wp2_with fail
  go_at_call 123
  have hcc := (hR1.ext ((Ch.refl NoS W1).alloc (.cells #[.int .u64 x, .string y, .bool z] 37))).rread ⟨kd, ka, kb, ks⟩
  rw [hr] at hcc
  refine hcc.mono ?_
  clear hcc
  rintro e w' ⟨rfl, q, rfl⟩
  have hb2 := q.blkE (heap_alloc_at W1 (.cells #[.int .u64 x, .string y, .bool z] 37))
  have fin2 : ∀ s : Ext q.w, ∃ q' : Ext w, s.w = q'.w := fun s => fin1 ((((Ch.refl NoS W1).alloc _).thenE q).thenE s)
  have hlt2 := lt_of_blk hb2
  have o0 := cell_at 0 hb2
  have o1 := cell_at 1 hb2
  have o2 := cell_at 2 hb2
  generalize q.w = W2 at *
  go_wp2_with fail
  go_ret
  exact ⟨rfl, fin2 ((Ch.refl NoS W2).alloc _)⟩

theorem Duo.lock {w : World} {I : Ids} {r : Nat} {A : ArenaSt} {L : List (Key × Cl)} {room : Int} {cs : List RC} {B : Nat → Prop} (h : Duo w I r A L room cs B) (hB : ∀ b, w.heap.size ≤ b → B b) (k : Key) (who : Int) :
    Calls Try.prog 25 #[.pointer (some ⟨I.s, 0, none⟩), keyV k, .int .i64 who] w fun e w' => e = .returned (.tuple #[.int .u64 (lockM A L k who).1.1, .int .i64 (lockM A L k who).1.2]) ∧ ∃ p : Ch B w, w' = p.w ∧ Duo p.w I r (lockM A L k who).2.1 (lockM A L k who).2.2 room cs B := by
  refine h.prog hB (fun F hS hF => ?_)
  refine (lock_m I A L F k who w hS.st hF).mono ?_
  rintro e w' ⟨rfl, p, rfl, hS'⟩
  refine ⟨rfl, p, rfl, hS', ?_⟩
  unfold lockM
  cases aget L k with
  | some z => simp only; split <;> exact hS.fl
  | none =>
    simp only
    cases ht : takeA A with
    | none => exact hS.fl
    | some sa => exact take_fl (s := sa.1) (A' := sa.2) ht hS.fl
theorem Duo.rlock {w : World} {I : Ids} {r : Nat} {A : ArenaSt} {L : List (Key × Cl)} {room : Int} {cs : List RC} {B : Nat → Prop} (h : Duo w I r A L room cs B) (hB : ∀ b, w.heap.size ≤ b → B b) (hb : cs.length < 1000000000000) (k : Key) (who : Int) :
    Calls Try.prog 124 #[.pointer (some ⟨r, 0, none⟩), keyV k, .int .i64 who] w fun e w' => e = .returned (.tuple #[.int .u64 (refLock room cs k who).1.1, .int .i64 (refLock room cs k who).1.2]) ∧ ∃ p : Ch B w, w' = p.w ∧ Duo p.w I r A L room (refLock room cs k who).2 B :=
  h.ref hB (fun G hR hG => refLock_any r room cs G k who w hR hG hb)
theorem Duo.install {w : World} {I : Ids} {r : Nat} {A : ArenaSt} {L : List (Key × Cl)} {room : Int} {cs : List RC} {B : Nat → Prop} (h : Duo w I r A L room cs B) (hB : ∀ b, w.heap.size ≤ b → B b) (k : Key) (who stamp vw : Int) (vs : ByteArray) (has : Bool) :
    Calls Try.prog 26 #[.pointer (some ⟨I.s, 0, none⟩), keyV k, .int .i64 who, .int .u64 stamp, seenV vw vs has] w fun e w' => e = .returned (.int .i64 (installM L k who stamp vs has).1) ∧ ∃ p : Ch B w, w' = p.w ∧ Duo p.w I r A (installM L k who stamp vs has).2 room cs B := by
  refine h.prog hB (fun F hS hF => ?_)
  refine (install_m I A L F k who stamp vw vs has w hS.st).mono ?_
  rintro e w' ⟨rfl, p, rfl, hS'⟩
  exact ⟨rfl, p, rfl, hS', hS.fl⟩
theorem Duo.rinstall {w : World} {I : Ids} {r : Nat} {A : ArenaSt} {L : List (Key × Cl)} {room : Int} {cs : List RC} {B : Nat → Prop} (h : Duo w I r A L room cs B) (hB : ∀ b, w.heap.size ≤ b → B b) (hb : cs.length < 1000000000000) (k : Key) (who stamp vw : Int) (vs : ByteArray) (has : Bool) :
    Calls Try.prog 126 #[.pointer (some ⟨r, 0, none⟩), keyV k, .int .i64 who, .int .u64 stamp, seenV vw vs has] w fun e w' => e = .returned (.int .i64 (refInstall cs k who stamp vs has).1) ∧ ∃ p : Ch B w, w' = p.w ∧ Duo p.w I r A L room (refInstall cs k who stamp vs has).2 B :=
  h.ref hB (fun G hR hG => refInstall_any r room cs G k who stamp vw vs has w hR (by omega))
theorem Duo.still {w : World} {I : Ids} {r : Nat} {A : ArenaSt} {L : List (Key × Cl)} {room : Int} {cs : List RC} {B : Nat → Prop} (h : Duo w I r A L room cs B) (k : Key) (who vw : Int) (vs : ByteArray) (has : Bool) :
    Calls Try.prog 33 #[.pointer (some ⟨I.s, 0, none⟩), keyV k, .int .i64 who, seenV vw vs has] w fun e w' => e = .returned (.bool (stillM L k who vw has)) ∧ ∃ p : Ext w, w' = p.w := by
  obtain ⟨F, G, h1, -⟩ := h
  exact still_m I A L F k who vw vs has w h1.st
theorem Duo.rstill {w : World} {I : Ids} {r : Nat} {A : ArenaSt} {L : List (Key × Cl)} {room : Int} {cs : List RC} {B : Nat → Prop} (h : Duo w I r A L room cs B) (hb : cs.length < 1000000000000) (k : Key) (who vw : Int) (vs : ByteArray) (has : Bool) :
    Calls Try.prog 127 #[.pointer (some ⟨r, 0, none⟩), keyV k, .int .i64 who, seenV vw vs has] w fun e w' => e = .returned (.bool (refStill cs k who vw has)) ∧ ∃ p : Ext w, w' = p.w := by
  obtain ⟨F, G, h1, h2, -⟩ := h
  obtain ⟨⟨v, g1, -⟩, -⟩ := h2
  exact refStill_any r v room cs k who vw vs has w g1 (by omega)

theorem Duo.mono {w : World} {I : Ids} {r : Nat} {A : ArenaSt} {L : List (Key × Cl)} {room : Int} {cs : List RC} {B B' : Nat → Prop} (h : Duo w I r A L room cs B) (hB : ∀ b, B b → B' b) : Duo w I r A L room cs B' := by
  obtain ⟨F, G, h1, h2, h3, h4, h5⟩ := h
  exact ⟨F, G, h1, h2, fun b hb => ⟨hB b (h3 b hb).1, (h3 b hb).2⟩, fun b hb => ⟨hB b (h4 b hb).1, (h4 b hb).2⟩, h5⟩

set_option maxRecDepth 4000 in
set_option maxHeartbeats 1600000 in
theorem does_lock (I : Ids) (r : Nat) (A : ArenaSt) (L : List (Key × Cl)) (B : Nat → Prop) (a : Act) (w : World) (h : Run w I r A L B) (hB : ∀ b, w.heap.size ≤ b → B b) (hk : a.kind = 1) :
    Calls Try.prog 30 #[.pointer (some ⟨I.s, 0, none⟩), .pointer (some ⟨r, 0, none⟩), actV a] w fun e w' => e = .returned (.bool true) ∧ ∃ p : Ch B w, w' = p.w ∧ Run p.w I r (lockM A L a.key a.who).2.1 (lockM A L a.key a.who).2.2 B := by
  obtain ⟨kind, who, ⟨kd, ka, kb, ks⟩, kfa, kcap, keys, stamp, sw, stx, sh⟩ := a
  simp only at hk
  subst hk
  obtain ⟨bk, hbk⟩ : ∃ bk, bk = w.heap.size := ⟨_, rfl⟩
  obtain ⟨W, hW⟩ : ∃ W, W = w.alloc (.cells (actCells ⟨1, who, ⟨kd, ka, kb, ks⟩, kfa, kcap, keys, stamp, sw, stx, sh⟩) 43) := ⟨_, rfl⟩
  have hb : W.heap[bk]? = some (.cells (actCells ⟨1, who, ⟨kd, ka, kb, ks⟩, kfa, kcap, keys, stamp, sw, stx, sh⟩) 43 (0, 0)) := by rw [hW, hbk]; exact heap_alloc_at _ _
  have hR : Run W I r A L (fun b => B b ∧ b ≠ bk) := by rw [hW, hbk]; exact h.box _
  have hB' : ∀ b, W.heap.size ≤ b → B b ∧ b ≠ bk := fun b hb => by
    rw [hW] at hb; simp at hb
    exact ⟨hB b (by omega), by omega⟩
  have fin : ∀ p : Ch (fun b => B b ∧ b ≠ bk) W, ∃ q : Ch B w, p.w = q.w := fun p => ⟨((Ch.refl B w).alloc _).onto hW p (fun b hb h => h.1), rfl⟩
  have hfew := h.few
  obtain ⟨c1, c2, c3, c4, c5⟩ := lock_conv A L ⟨kd, ka, kb, ks⟩ who h.wo h.iv hfew.2
  obtain ⟨⟨x, y⟩, hxy⟩ : ∃ xy, xy = (lockM A L ⟨kd, ka, kb, ks⟩ who).1 := ⟨_, rfl⟩
  have Hfin : Hid _ := fin
  have HC : Hid _ := And.intro c2 (And.intro c3 (And.intro c4 c5))
  have c1' : (refLock A.room (L.map conv) ⟨kd, ka, kb, ks⟩ who).1 = (x, y) := c1.trans hxy.symm
  clear h c1 c2 c3 c4 c5
  go_enter Try.func30, Try.ntmps30
  go_wp2_with fail
  rw [← hbk, ← hW]
  clear hW hbk
  go_at_call 25
  have hcc := hR.duo.lock hB' ⟨kd, ka, kb, ks⟩ who
  rw [← hxy] at hcc
  refine hcc.mono ?_
  clear hcc
  rintro e w' ⟨rfl, p, rfl, hD⟩
  have hb1 := p.blk hb (fun h => h.2 rfl)
  have k1 : p.w.cell? ⟨bk, 1, none⟩ = some (.int .i64 who) := cell_at 1 hb1; have k2 : p.w.cell? ⟨bk, 2, none⟩ = some (.int .i64 kd) := cell_at 2 hb1; have k3 : p.w.cell? ⟨bk, 3, none⟩ = some (.int .i64 ka) := cell_at 3 hb1; have k4 : p.w.cell? ⟨bk, 4, none⟩ = some (.int .i64 kb) := cell_at 4 hb1; have k5 : p.w.cell? ⟨bk, 5, none⟩ = some (.string ks) := cell_at 5 hb1
  have HD : Hid _ := hD
  have hB1 : ∀ b, p.w.heap.size ≤ b → B b ∧ b ≠ bk := fun b hb => hB' b (by have := p.size; omega)
  have HB1 : Hid _ := hB1
  clear hD hB1 hb1 hB' hR hxy hb
  go_wp2_with fail
  go_at_call 124
  have hcc := Duo.rlock HD.out HB1.out (by simp; omega) ⟨kd, ka, kb, ks⟩ who
  rw [c1'] at hcc
  refine hcc.mono ?_
  clear hcc
  rintro e w' ⟨rfl, q, rfl, hD2⟩
  have HD2 : Hid _ := hD2
  clear hD2 c1'
  go_wp2_with fail
  go_ret
  obtain ⟨s, hs⟩ := Hfin.out (p.then q (fun _ _ h => h))
  obtain ⟨d2, d3, d4, d5⟩ := HC.out
  refine ⟨rfl, s, hs, hs ▸ ⟨?_, d3, d4⟩⟩
  have := HD2.out
  rw [d2] at this
  rw [d5]
  exact Duo.mono this (fun b h => h.1)

/-- Nothing has turned yet. -/
def Ch.still {S : Nat → Prop} {w0 : World} (p : Ch S w0) (h : p.w.heap = w0.heap) : Ext w0 := ⟨p.w, p.os, p.tape, p.output, by rw [h]; exact Nat.le_refl _, fun b _ _ => by rw [h]⟩
theorem ch_still_w {S : Nat → Prop} {w0 : World} (p : Ch S w0) (h : p.w.heap = w0.heap) : (Ch.still p h).w = p.w := rfl
set_option maxRecDepth 4000 in
set_option maxHeartbeats 1600000 in
theorem does_install (I : Ids) (r : Nat) (A : ArenaSt) (L : List (Key × Cl)) (B : Nat → Prop) (a : Act) (w : World) (h : Run w I r A L B) (hB : ∀ b, w.heap.size ≤ b → B b) (hk : a.kind = 3) (hs0 : 0 ≤ a.stamp) (hs1 : a.stamp < 18446744073709551616) :
    Calls Try.prog 30 #[.pointer (some ⟨I.s, 0, none⟩), .pointer (some ⟨r, 0, none⟩), actV a] w fun e w' => e = .returned (.bool true) ∧ ∃ p : Ch B w, w' = p.w ∧ Run p.w I r A (installM L a.key a.who a.stamp a.stx a.sh).2 B := by
  obtain ⟨kind, who, ⟨kd, ka, kb, ks⟩, kfa, kcap, keys, stamp, sw, stx, sh⟩ := a
  simp only at hk
  subst hk
  obtain ⟨bk, hbk⟩ : ∃ bk, bk = w.heap.size := ⟨_, rfl⟩
  obtain ⟨W, hW⟩ : ∃ W, W = w.alloc (.cells (actCells ⟨3, who, ⟨kd, ka, kb, ks⟩, kfa, kcap, keys, stamp, sw, stx, sh⟩) 43) := ⟨_, rfl⟩
  have hb : W.heap[bk]? = some (.cells (actCells ⟨3, who, ⟨kd, ka, kb, ks⟩, kfa, kcap, keys, stamp, sw, stx, sh⟩) 43 (0, 0)) := by rw [hW, hbk]; exact heap_alloc_at _ _
  have hR : Run W I r A L (fun b => B b ∧ b ≠ bk) := by rw [hW, hbk]; exact h.box _
  have hB' : ∀ b, W.heap.size ≤ b → B b ∧ b ≠ bk := fun b hb => by
    rw [hW] at hb; simp at hb
    exact ⟨hB b (by omega), by omega⟩
  have fin : ∀ p : Ch (fun b => B b ∧ b ≠ bk) W, ∃ q : Ch B w, p.w = q.w := fun p => ⟨((Ch.refl B w).alloc _).onto hW p (fun b hb h => h.1), rfl⟩
  have hfew := h.few
  obtain ⟨c1, c2, c3⟩ := install_conv L ⟨kd, ka, kb, ks⟩ who stamp stx sh h.wo hs0 hs1
  have HI := h.iv
  obtain ⟨x, hx⟩ : ∃ x, x = (installM L ⟨kd, ka, kb, ks⟩ who stamp stx sh).1 := ⟨_, rfl⟩
  have Hfin : Hid _ := fin
  have HC : Hid _ := And.intro c2 c3
  have hInv : InvA A (installM L ⟨kd, ka, kb, ks⟩ who stamp stx sh).2 := by
    unfold installM
    split
    · cases hg : aget L ⟨kd, ka, kb, ks⟩ with
      | none => exact h.iv
      | some z =>
        simp only
        split
        · exact h.iv
        · exact h.iv.turn hg rfl rfl
    · exact h.iv
  have c1' : (refInstall (L.map conv) ⟨kd, ka, kb, ks⟩ who stamp stx sh).1 = x := c1.trans hx.symm
  have b1 : ∀ p : Ch (fun b => B b ∧ b ≠ bk) W, p.w.cell? ⟨bk, 1, none⟩ = some (.int .i64 who) := (fun p => cell_at 1 (p.blk hb (fun h => h.2 rfl))); have b2 : ∀ p : Ch (fun b => B b ∧ b ≠ bk) W, p.w.cell? ⟨bk, 2, none⟩ = some (.int .i64 kd) := (fun p => cell_at 2 (p.blk hb (fun h => h.2 rfl))); have b3 : ∀ p : Ch (fun b => B b ∧ b ≠ bk) W, p.w.cell? ⟨bk, 3, none⟩ = some (.int .i64 ka) := (fun p => cell_at 3 (p.blk hb (fun h => h.2 rfl))); have b4 : ∀ p : Ch (fun b => B b ∧ b ≠ bk) W, p.w.cell? ⟨bk, 4, none⟩ = some (.int .i64 kb) := (fun p => cell_at 4 (p.blk hb (fun h => h.2 rfl))); have b5 : ∀ p : Ch (fun b => B b ∧ b ≠ bk) W, p.w.cell? ⟨bk, 5, none⟩ = some (.string ks) := (fun p => cell_at 5 (p.blk hb (fun h => h.2 rfl))); have b7 : ∀ p : Ch (fun b => B b ∧ b ≠ bk) W, p.w.cell? ⟨bk, 7, none⟩ = some (.int .u64 stamp) := (fun p => cell_at 7 (p.blk hb (fun h => h.2 rfl))); have b8 : ∀ p : Ch (fun b => B b ∧ b ≠ bk) W, p.w.cell? ⟨bk, 8, none⟩ = some (.int .u64 sw) := (fun p => cell_at 8 (p.blk hb (fun h => h.2 rfl))); have b9 : ∀ p : Ch (fun b => B b ∧ b ≠ bk) W, p.w.cell? ⟨bk, 9, none⟩ = some (.string stx) := (fun p => cell_at 9 (p.blk hb (fun h => h.2 rfl))); have b10 : ∀ p : Ch (fun b => B b ∧ b ≠ bk) W, p.w.cell? ⟨bk, 10, none⟩ = some (.bool sh) := (fun p => cell_at 10 (p.blk hb (fun h => h.2 rfl)))
  have HD : Hid _ := hR.duo
  have HB : Hid _ := hB'
  have HX : Hid _ := hx
  have HC1 : Hid _ := c1'
  have HInv : Hid _ := hInv
  have Hb : Hid _ := hb
  clear h c1 c2 c3 hB' hR hx hb c1' hInv HI fin
  go_enter Try.func30, Try.ntmps30
  go_wp2_with fail
  rw [← hbk, ← hW]
  clear hW hbk
  refine wp_region_ch (fun b => B b ∧ b ≠ bk) (by kernel_rfl) (by kernel_rfl) (fun p hp => ?_)
  have HDp : Hid (Duo p.w I r A L A.room (L.map conv) (fun b => B b ∧ b ≠ bk)) := Duo.ext HD.out (Ch.still p hp)
  clear hp
  (repeat (first | (refine wpMix_skip rfl rfl ?_) | (refine wpMix_step (fun K hK => ?_); go_simp; (with_reducible (refine hK _ _ ?_)); clear hK K)))
  refine wpMix_step (fun K hK => ?_); go_simp
  have hcc := Duo.install HDp.out (fun b hb => HB.out b (by have := p.size; omega)) ⟨kd, ka, kb, ks⟩ who stamp sw stx sh
  rw [← HX.out] at hcc
  refine hcc.mono ?_
  clear hcc
  rintro e w' ⟨rfl, q, rfl, hD⟩
  obtain ⟨q2, hq2⟩ : ∃ q2 : Ch (fun b => B b ∧ b ≠ bk) W, q.w = q2.w := ⟨p.then q (fun _ _ h => h), rfl⟩
  rw [hq2] at hD ⊢
  have HD2 : Hid _ := hD
  clear hD hq2
  refine ⟨⟨q2, rfl⟩, hK _ _ ?_⟩; clear hK K
  (repeat (first | (refine wpMix_skip rfl rfl ?_) | (refine wpMix_step (fun K hK => ?_); go_simp; (with_reducible (refine hK _ _ ?_)); clear hK K)))
  refine wpMix_step (fun K hK => ?_); go_simp
  have hcc := Duo.rinstall HD2.out (fun b hb => HB.out b (by have := q2.size; omega)) (by simp; omega) ⟨kd, ka, kb, ks⟩ who stamp sw stx sh
  rw [HC1.out] at hcc
  refine hcc.mono ?_
  clear hcc
  rintro e w' ⟨rfl, q3, rfl, hD⟩
  obtain ⟨q4, hq4⟩ : ∃ q4 : Ch (fun b => B b ∧ b ≠ bk) W, q3.w = q4.w := ⟨q2.then q3 (fun _ _ h => h), rfl⟩
  rw [hq4] at hD ⊢
  have HD4 : Hid _ := hD
  clear hD hq4
  refine ⟨⟨q4, rfl⟩, hK _ _ ?_⟩; clear hK K
  (repeat (first | (refine wpMix_skip rfl rfl ?_) | (refine wpMix_step (fun K hK => ?_); go_simp; (with_reducible (refine hK _ _ ?_)); clear hK K)))
  refine wpMix_nil ?_
  go_wp2_with fail
  go_ret
  obtain ⟨s, hs⟩ := Hfin.out q4
  obtain ⟨d2, d3⟩ := HC.out
  refine ⟨rfl, s, hs, hs ▸ ⟨?_, d3, HInv.out⟩⟩
  have := HD4.out
  rw [d2] at this
  exact Duo.mono this (fun b h => h.1)

set_option maxRecDepth 4000 in
set_option maxHeartbeats 1600000 in
theorem does_still (I : Ids) (r : Nat) (A : ArenaSt) (L : List (Key × Cl)) (B : Nat → Prop) (a : Act) (w : World) (h : Run w I r A L B) (hk : a.kind = 4) :
    Calls Try.prog 30 #[.pointer (some ⟨I.s, 0, none⟩), .pointer (some ⟨r, 0, none⟩), actV a] w fun e w' => e = .returned (.bool true) ∧ ∃ p : Ext w, w' = p.w := by
  obtain ⟨kind, who, ⟨kd, ka, kb, ks⟩, kfa, kcap, keys, stamp, sw, stx, sh⟩ := a
  simp only at hk
  subst hk
  obtain ⟨bk, hbk⟩ : ∃ bk, bk = w.heap.size := ⟨_, rfl⟩
  obtain ⟨W, hW⟩ : ∃ W, W = w.alloc (.cells (actCells ⟨4, who, ⟨kd, ka, kb, ks⟩, kfa, kcap, keys, stamp, sw, stx, sh⟩) 43) := ⟨_, rfl⟩
  have hb : W.heap[bk]? = some (.cells (actCells ⟨4, who, ⟨kd, ka, kb, ks⟩, kfa, kcap, keys, stamp, sw, stx, sh⟩) 43 (0, 0)) := by rw [hW, hbk]; exact heap_alloc_at _ _
  have hR : Run W I r A L B := by rw [hW]; exact h.ext ((Ch.refl NoS w).alloc _)
  have fin : ∀ p : Ext W, ∃ q : Ext w, p.w = q.w := fun p => ⟨((Ch.refl NoS w).alloc _).onto hW p (fun b hb h => h), rfl⟩
  have hfew := h.few
  have hc := still_conv L ⟨kd, ka, kb, ks⟩ who sw sh
  obtain ⟨x, hx⟩ : ∃ x, x = stillM L ⟨kd, ka, kb, ks⟩ who sw sh := ⟨_, rfl⟩
  rw [← hx] at hc
  have b1 : ∀ p : Ext W, p.w.cell? ⟨bk, 1, none⟩ = some (.int .i64 who) := (fun p => cell_at 1 (p.blkE hb)); have b2 : ∀ p : Ext W, p.w.cell? ⟨bk, 2, none⟩ = some (.int .i64 kd) := (fun p => cell_at 2 (p.blkE hb)); have b3 : ∀ p : Ext W, p.w.cell? ⟨bk, 3, none⟩ = some (.int .i64 ka) := (fun p => cell_at 3 (p.blkE hb)); have b4 : ∀ p : Ext W, p.w.cell? ⟨bk, 4, none⟩ = some (.int .i64 kb) := (fun p => cell_at 4 (p.blkE hb)); have b5 : ∀ p : Ext W, p.w.cell? ⟨bk, 5, none⟩ = some (.string ks) := (fun p => cell_at 5 (p.blkE hb)); have b8 : ∀ p : Ext W, p.w.cell? ⟨bk, 8, none⟩ = some (.int .u64 sw) := (fun p => cell_at 8 (p.blkE hb)); have b9 : ∀ p : Ext W, p.w.cell? ⟨bk, 9, none⟩ = some (.string stx) := (fun p => cell_at 9 (p.blkE hb)); have b10 : ∀ p : Ext W, p.w.cell? ⟨bk, 10, none⟩ = some (.bool sh) := (fun p => cell_at 10 (p.blkE hb))
  have HD : Hid _ := hR.duo
  have HX : Hid _ := hx
  have HC1 : Hid _ := hc
  have Hfin : Hid _ := fin
  clear h hR hx hb hc fin
  go_enter Try.func30, Try.ntmps30
  go_wp2_with fail
  rw [← hbk, ← hW]
  clear hW hbk
  refine wp_region_ch NoS (by kernel_rfl) (by kernel_rfl) (fun p hp => ?_)
  clear hp
  (repeat (first | (refine wpMix_skip rfl rfl ?_) | (refine wpMix_step (fun K hK => ?_); go_simp; (with_reducible (refine hK _ _ ?_)); clear hK K)))
  refine wpMix_step (fun K hK => ?_); go_simp
  have hcc := Duo.still (Duo.ext HD.out p) ⟨kd, ka, kb, ks⟩ who sw stx sh
  rw [← HX.out] at hcc
  refine (Calls.inCh hcc).mono ?_
  clear hcc
  rintro e w' ⟨rfl, q, rfl⟩
  refine ⟨⟨q, rfl⟩, hK _ _ ?_⟩; clear hK K
  (repeat (first | (refine wpMix_skip rfl rfl ?_) | (refine wpMix_step (fun K hK => ?_); go_simp; (with_reducible (refine hK _ _ ?_)); clear hK K)))
  refine wpMix_step (fun K hK => ?_); go_simp
  have hcc := Duo.rstill (Duo.ext HD.out q) (by simp; omega) ⟨kd, ka, kb, ks⟩ who sw stx sh
  rw [HC1.out] at hcc
  refine (Calls.inCh hcc).mono ?_
  clear hcc
  rintro e w' ⟨rfl, q2, rfl⟩
  refine ⟨⟨q2, rfl⟩, hK _ _ ?_⟩; clear hK K
  (repeat (first | (refine wpMix_skip rfl rfl ?_) | (refine wpMix_step (fun K hK => ?_); go_simp; (with_reducible (refine hK _ _ ?_)); clear hK K)))
  refine wpMix_nil ?_
  go_wp2_with fail
  go_ret
  exact ⟨by simp, Hfin.out q2⟩

set_option maxRecDepth 4000 in
set_option maxHeartbeats 1600000 in
theorem does_other (I : Ids) (r : Nat) (a : Act) (w : World) (h0 : a.kind ≠ 0) (h1 : a.kind ≠ 1) (h2 : a.kind ≠ 2) (h3 : a.kind ≠ 3) (h4 : a.kind ≠ 4) (h5 : a.kind ≠ 5) :
    Calls Try.prog 30 #[.pointer (some ⟨I.s, 0, none⟩), .pointer (some ⟨r, 0, none⟩), actV a] w fun e w' => e = .returned (.bool true) ∧ ∃ p : Ext w, w' = p.w := by
  have g0 : (a.kind == 0) = false := by simpa using h0
  have g1 : (a.kind == 1) = false := by simpa using h1
  have g2 : (a.kind == 2) = false := by simpa using h2
  have g3 : (a.kind == 3) = false := by simpa using h3
  have g4 : (a.kind == 4) = false := by simpa using h4
  have g5 : (a.kind == 5) = false := by simpa using h5
  clear h0 h1 h2 h3 h4 h5
  go_enter Try.func30, Try.ntmps30
  go_wp2_with fail
  go_ret
  exact ⟨rfl, (Ch.refl NoS w).alloc _, rfl⟩
end Go.Proofs.Cob
