/-
  The law's own gate: awake answers true.
-/
import Derived.Test.YtjhpdmiafecdnaaScene
namespace Go.Proofs.Cob
open Go Go.RowKit Go.Cob
set_option linter.unusedSimpArgs false
set_option linter.unusedVariables false

abbrev key1 : Key := ⟨1, 1, 0, ⟨#[]⟩⟩
abbrev xS : ByteArray := ⟨#[120]⟩

abbrev L1 : List (Key × Cl) := [(key1, ⟨0, 0, lockZ (absentZ 0 true), ⟨#[]⟩, 7⟩)]
abbrev L2 : List (Key × Cl) := [(key1, ⟨0, 0, 5, xS, 7⟩)]
abbrev L3 : List (Key × Cl) := [(key1, ⟨0, 0, lockZ 5, xS, 1⟩)]
abbrev A1 : ArenaSt := ⟨4, 1, [], [(0, true)], []⟩
theorem aw1 : lockM ⟨4, 0, [], [], []⟩ [] key1 7 = ((0, 0), A1, L1) := by kernel_rfl
theorem aw2 : installM L1 key1 7 5 xS true = (0, L2) := by kernel_rfl
theorem aw3 : readM L2 key1 = (seenV 5 xS true, 0) := by kernel_rfl
theorem aw4 : lockM A1 L2 key1 1 = ((5, 0), A1, L3) := by kernel_rfl
theorem aw5 : lockM A1 L3 key1 2 = ((0, 60), A1, L3) := by kernel_rfl
theorem aw6 : readM L3 key1 = (seenV 0 ⟨#[]⟩ false, 60) := by kernel_rfl
theorem aw7 : stillM L3 key1 1 5 true = true := by kernel_rfl
theorem aw8 : stillM L3 key1 2 5 true = false := by kernel_rfl

set_option maxHeartbeats 3200000 in
theorem awake_any (w : World) : Calls Try.prog 21 #[] w fun e w' => e = .returned (.bool true) ∧ ∃ p : Ext w, w' = p.w := by
  go_enter Try.func21, Try.ntmps21
  go_wp2_with (first
    | (go_at_call 24; go_must (refine (cellNew_m 4 _ (by decide) (by decide)).mono ?_); rintro e w' ⟨I, rfl, p, rfl, hS⟩; have HS : Hid (StM p.w I ⟨4, 0, [], [], []⟩ [] (Wide w [])) := hS.mono (fun b _ h => ⟨h, by simp⟩); have HC : Hid (Scene w p.w []) := (Scene.refl w).ext p; clear hS; generalize p.w = W at HS HC ⊢; clear p)
    | (go_at_call 88; go_must (refine (key_any _ _).mono ?_); rintro e w' ⟨rfl, q, rfl⟩; replace HS : Hid _ := HS.out.ext q; replace HC : Hid _ := HC.out.ext q; generalize q.w = W' at HS HC ⊢; clear q)
    | (go_at_call 27; go_must (refine (seen_any _ _).mono ?_); rintro e w' ⟨rfl, q, rfl⟩; replace HS : Hid _ := HS.out.ext q; replace HC : Hid _ := HC.out.ext q; generalize q.w = W' at HS HC ⊢; clear q)
    | (go_at_call 25; go_must (have := lock_m I _ _ _ key1 7 _ HS.out HC.out.wide; rw [aw1] at this; refine this.mono ?_); clear this; rintro e w' ⟨rfl, q, rfl, hS⟩; replace HS : Hid _ := hS; replace HC : Hid _ := HC.out.ch q; clear hS; generalize q.w = W' at HS HC ⊢; clear q)
    | (go_at_call 26; go_must (have := install_m I _ _ _ key1 7 5 0 xS true _ HS.out; rw [aw2] at this; refine this.mono ?_); clear this; rintro e w' ⟨rfl, q, rfl, hS⟩; replace HS : Hid _ := hS; replace HC : Hid _ := HC.out.ch q; clear hS; generalize q.w = W' at HS HC ⊢; clear q)
    | (go_at_call 28; go_must (have := read_m I _ _ _ key1 _ HS.out; rw [aw3] at this; refine this.mono ?_); clear this; rintro e w' ⟨rfl, q, rfl⟩; replace HS : Hid _ := HS.out.ext q; replace HC : Hid _ := HC.out.ext q; generalize q.w = W' at HS HC ⊢; clear q))
  obtain ⟨b4, hb4⟩ : ∃ n, n = W'.heap.size := ⟨_, rfl⟩; replace HS : Hid _ := HS.out.box #[.int .u64 5, .string xS, .bool true] 37; replace HC : Hid _ := HC.out.alloc #[.int .u64 5, .string xS, .bool true] 37; rw [← hb4] at HS HC ⊢; clear hb4; generalize World.alloc W' _ = W4 at HS HC ⊢
  (go_at_call 88; go_must (refine (key_any _ _).mono ?_); rintro e w' ⟨rfl, q, rfl⟩; replace HS : Hid _ := HS.out.ext q; replace HC : Hid _ := HC.out.ext q; generalize q.w = W' at HS HC ⊢; clear q)
  go_wp2_with (first
    | (go_at_call 88; go_must (refine (key_any _ _).mono ?_); rintro e w' ⟨rfl, q, rfl⟩; replace HS : Hid _ := HS.out.ext q; replace HC : Hid _ := HC.out.ext q; generalize q.w = W' at HS HC ⊢; clear q)
    | (go_at_call 25; go_must (first | (have := lock_m I _ _ _ key1 1 _ HS.out HC.out.wide; rw [aw4] at this; refine this.mono ?_) | (have := lock_m I _ _ _ key1 2 _ HS.out HC.out.wide; rw [aw5] at this; refine this.mono ?_)); clear this; rintro e w' ⟨rfl, q, rfl, hS⟩; replace HS : Hid _ := hS; replace HC : Hid _ := HC.out.ch q; clear hS; generalize q.w = W' at HS HC ⊢; clear q)
    | (go_at_call 28; go_must (have := read_m I _ _ _ key1 _ HS.out; rw [aw6] at this; refine this.mono ?_); clear this; rintro e w' ⟨rfl, q, rfl⟩; replace HS : Hid _ := HS.out.ext q; replace HC : Hid _ := HC.out.ext q; generalize q.w = W' at HS HC ⊢; clear q))
  obtain ⟨b8, hb8⟩ : ∃ n, n = W'.heap.size := ⟨_, rfl⟩; replace HS : Hid _ := HS.out.box #[.int .u64 0, .string ⟨#[]⟩, .bool false] 37; replace HC : Hid _ := HC.out.alloc #[.int .u64 0, .string ⟨#[]⟩, .bool false] 37; rw [← hb8] at HS HC ⊢; clear hb8; generalize World.alloc W' _ = W8 at HS HC ⊢
  have e0 : ∀ p : Ext W8, p.w.cell? ⟨b4, 0, none⟩ = some (.int .u64 5) := fun p => cell_at 0 (p.blkE (HC.out.cell (.tail _ (.head _))))
  have e1 : ∀ p : Ext W8, p.w.cell? ⟨b4, 1, none⟩ = some (.string xS) := fun p => cell_at 1 (p.blkE (HC.out.cell (.tail _ (.head _))))
  have e2 : ∀ p : Ext W8, p.w.cell? ⟨b4, 2, none⟩ = some (.bool true) := fun p => cell_at 2 (p.blkE (HC.out.cell (.tail _ (.head _))))
  have s1 : ∀ p : Ext W8, Calls Try.prog 33 #[.pointer (some ⟨I.s, 0, none⟩), keyV key1, .int .i64 1, seenV 5 xS true] p.w fun e w' => e = .returned (.bool true) ∧ ∃ q : Ext p.w, w' = q.w := fun p => by
    have := still_m I _ _ _ key1 1 5 xS true _ (HS.out.ext p)
    rw [aw7] at this
    exact this
  have s2 : ∀ p : Ext W8, Calls Try.prog 33 #[.pointer (some ⟨I.s, 0, none⟩), keyV key1, .int .i64 2, seenV 5 xS true] p.w fun e w' => e = .returned (.bool false) ∧ ∃ q : Ext p.w, w' = q.w := fun p => by
    have := still_m I _ _ _ key1 2 5 xS true _ (HS.out.ext p)
    rw [aw8] at this
    exact this
  refine wp_region_ch NoS (by kernel_rfl) (by kernel_rfl) (fun p hp => ?_)
  clear hp
  (repeat (first | (refine wpMix_skip rfl rfl ?_) | (refine wpMix_step (fun K hK => ?_); go_simp; (with_reducible (refine hK _ _ ?_)); clear hK K)))
  refine wpMix_step (fun K hK => ?_); go_simp; refine (Calls.inCh (key_any _ _)).mono ?_; rintro e w' ⟨rfl, p, rfl⟩; refine ⟨⟨p, rfl⟩, hK _ _ ?_⟩; clear hK K
  (repeat (first | (refine wpMix_skip rfl rfl ?_) | (refine wpMix_step (fun K hK => ?_); go_simp; (with_reducible (refine hK _ _ ?_)); clear hK K)))
  refine wpMix_step (fun K hK => ?_); go_simp; refine (Calls.inCh (s1 _)).mono ?_; rintro e w' ⟨rfl, p, rfl⟩; refine ⟨⟨p, rfl⟩, hK _ _ ?_⟩; clear hK K
  (repeat (first | (refine wpMix_skip rfl rfl ?_) | (refine wpMix_step (fun K hK => ?_); go_simp; (with_reducible (refine hK _ _ ?_)); clear hK K)))
  refine wpMix_step (fun K hK => ?_); go_simp; refine (Calls.inCh (key_any _ _)).mono ?_; rintro e w' ⟨rfl, p, rfl⟩; refine ⟨⟨p, rfl⟩, hK _ _ ?_⟩; clear hK K
  (repeat (first | (refine wpMix_skip rfl rfl ?_) | (refine wpMix_step (fun K hK => ?_); go_simp; (with_reducible (refine hK _ _ ?_)); clear hK K)))
  refine wpMix_step (fun K hK => ?_); go_simp; refine (Calls.inCh (s2 _)).mono ?_; rintro e w' ⟨rfl, p, rfl⟩; refine ⟨⟨p, rfl⟩, hK _ _ ?_⟩; clear hK K
  (repeat (first | (refine wpMix_skip rfl rfl ?_) | (refine wpMix_step (fun K hK => ?_); go_simp; (with_reducible (refine hK _ _ ?_)); clear hK K)))
  refine wpMix_nil ?_
  go_wp2
  obtain ⟨q, hq⟩ := (HC.out.ext p).fin
  go_ret
  exact ⟨rfl, q, hq⟩
end Go.Proofs.Cob
