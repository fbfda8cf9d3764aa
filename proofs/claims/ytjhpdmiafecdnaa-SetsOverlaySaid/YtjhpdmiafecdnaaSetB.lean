/-
  Layer 13: New, Seen, Get, Put, Mark, Back on sets in memory.
-/
import Derived.Test.YtjhpdmiafecdnaaSetA
namespace Go.Proofs.Cob
open Go Go.RowKit Go.Cob
set_option linter.unusedSimpArgs false
set_option linter.unusedVariables false
def putM (S : List (Key × Sn)) (W : List (Key × Tx)) (k : Key) (tx : ByteArray) : Int × List (Key × Tx) := if unseenM S k then (101, W) else (0, aput W k ⟨tx, true⟩)
theorem new_s (w : World) : Calls Try.prog 51 #[] w fun e w' => ∃ s : Nat, e = .returned (.pointer (some ⟨s, 0, none⟩)) ∧ ∃ p : Ext w, w' = p.w ∧ SetM p.w s [] [] [] (fun b => w.heap.size ≤ b) := by
  have hmm := @run_makeMap Try.prog
  go_enter Try.func51, Try.ntmps51
  go_wp2_with fail
  go_ret
  refine ⟨w.heap.size + 1 + 1 + 1, rfl, ((((Ch.refl NoS w).alloc _).alloc _).alloc _).alloc _, rfl, ⟨w.heap.size, w.heap.size + 1, w.heap.size + 1 + 1, ?_, ?_, ?_, ?_, ⟨by omega, by omega, by omega⟩, Nat.le_refl _, (show w.heap.size ≤ w.heap.size + 1 by omega), (show w.heap.size ≤ w.heap.size + 1 + 1 by omega)⟩, (show w.heap.size ≤ w.heap.size + 1 + 1 + 1 by omega)⟩
  · exact heap_alloc_eq _ (by simp)
  · refine (MapAt.made (encK := keyV) (encV := snV) w).keep ?_
    show (World.alloc (World.alloc (World.alloc _ _) _) _).heap[_]? = _
    rw [heap_alloc_lt _ (by simp; omega), heap_alloc_lt _ (by simp; omega), heap_alloc_lt _ (by simp)]
    rfl
  · refine (MapAt.made' (encK := keyV) (encV := txV) (w := w.alloc (.map #[] 0)) (n := w.heap.size + 1) (by simp)).keep ?_
    show (World.alloc (World.alloc _ _) _).heap[_]? = _
    rw [heap_alloc_lt _ (by simp), heap_alloc_lt _ (by simp)]
    rfl
  · refine (MapAt.made' (encK := keyV) (encV := txV) (w := (w.alloc (.map #[] 0)).alloc (.map #[] 0)) (n := w.heap.size + 1 + 1) (by simp)).keep ?_
    show (World.alloc _ _).heap[_]? = _
    rw [heap_alloc_lt _ (by simp)]
    rfl
set_option maxRecDepth 4000 in
theorem mark_s (s : Nat) (S : List (Key × Sn)) (W M : List (Key × Tx)) (F : Nat → Prop) (w : World) (h : SetM w s S W M F) (hF : ∀ b, w.heap.size ≤ b → F b) :
    Calls Try.prog 58 #[.pointer (some ⟨s, 0, none⟩)] w fun e w' => e = .returned (.tuple #[]) ∧ ∃ p : Ch F w, w' = p.w ∧ SetM p.w s S W W F := by
  obtain ⟨⟨a, b, c, h1, h2, h3, h4, h5, fa, fb, fc⟩, fs⟩ := h
  have s1 : w.cell? ⟨s, 1, none⟩ = some (.map (some b)) := cell_at 1 h1
  have H3 : Hid (MapAt keyV txV w b W) := h3
  obtain ⟨bs, cl, m1, m2⟩ := h3
  have hcc := clone_run b _ cl w m1
  go_enter Try.func58, Try.ntmps58
  go_wp2_with fail
  go_at_call 159
  refine hcc.mono ?_
  clear hcc
  rintro e w' ⟨rfl, rfl⟩
  have hn : MapAt keyV txV (w.alloc (.map (ents keyV txV W bs).toArray cl)) w.heap.size W := ⟨bs, cl, heap_alloc_at _ _, m2⟩
  obtain ⟨n, hn0⟩ : ∃ n, n = w.heap.size := ⟨_, rfl⟩
  obtain ⟨p, hp⟩ : ∃ p : Ch F w, w.alloc (.map (ents keyV txV W bs).toArray cl) = p.w := ⟨(Ch.refl F w).alloc _, rfl⟩
  have g1 : p.w.heap[s]? = some (stObj3 a b c) := by rw [← hp]; exact heap_alloc_blk _ h1
  have g2 : MapAt keyV snV p.w a S := by rw [← hp]; exact h2.ext ((Ch.refl NoS w).alloc _)
  have g3 : MapAt keyV txV p.w b W := by rw [← hp]; exact H3.out.ext ((Ch.refl NoS w).alloc _)
  have ha := h2.lt
  have hb := H3.out.lt
  have hs := lt_of_blk h1
  rw [hp, ← hn0] at hn
  rw [hp, ← hn0]
  have HFn : Hid (F n) := hF n (by omega)
  have Hne : Hid (a ≠ n ∧ b ≠ n ∧ s ≠ n) := ⟨by omega, by omega, by omega⟩
  have HFs : Hid _ := fs
  have HF2 : Hid (F a ∧ F b) := ⟨fa, fb⟩
  have H5 : Hid (a ≠ b) := h5.1
  have l : s < p.w.heap.size := lt_of_blk g1
  have c2 : p.w.cell? ⟨s, 2, none⟩ = some (.map (some c)) := cell_at 2 g1
  have z2 : p.w.frozen? ⟨s, 2, none⟩ = false := frozen_at 2 g1
  clear h1 h2 h4 h5 fa fb fc fs hF s1 m1 m2 hp hn0 ha hb hs H3
  go_wp2_with fail
  go_end0
  refine ⟨rfl, p.set s 2 _ (fun _ => HFs.out), rfl, ⟨a, b, n, ?_, ?_, ?_, ?_, ⟨H5.out, Hne.out.1, Hne.out.2.1⟩, HF2.out.1, HF2.out.2, HFn.out⟩, HFs.out⟩
  · exact heap_set_same g1 2 _
  · exact g2.keep (heap_set_other (fun e => g2.ne_cells g1 e) _)
  · exact g3.keep (heap_set_other (fun e => g3.ne_cells g1 e) _)
  · exact hn.keep (heap_set_other (Ne.symm Hne.out.2.2) _)
set_option maxRecDepth 4000 in
theorem back_s (s : Nat) (S : List (Key × Sn)) (W M : List (Key × Tx)) (F : Nat → Prop) (w : World) (h : SetM w s S W M F) (hF : ∀ b, w.heap.size ≤ b → F b) :
    Calls Try.prog 60 #[.pointer (some ⟨s, 0, none⟩)] w fun e w' => e = .returned (.tuple #[]) ∧ ∃ p : Ch F w, w' = p.w ∧ SetM p.w s S M M F := by
  obtain ⟨⟨a, b, c, h1, h2, h3, h4, h5, fa, fb, fc⟩, fs⟩ := h
  have s2 : w.cell? ⟨s, 2, none⟩ = some (.map (some c)) := cell_at 2 h1
  have H4 : Hid (MapAt keyV txV w c M) := h4
  obtain ⟨bs, cl, m1, m2⟩ := h4
  have hcc := clone_run c _ cl w m1
  go_enter Try.func60, Try.ntmps60
  go_wp2_with fail
  go_at_call 159
  refine hcc.mono ?_
  clear hcc
  rintro e w' ⟨rfl, rfl⟩
  have hn : MapAt keyV txV (w.alloc (.map (ents keyV txV M bs).toArray cl)) w.heap.size M := ⟨bs, cl, heap_alloc_at _ _, m2⟩
  obtain ⟨n, hn0⟩ : ∃ n, n = w.heap.size := ⟨_, rfl⟩
  obtain ⟨p, hp⟩ : ∃ p : Ch F w, w.alloc (.map (ents keyV txV M bs).toArray cl) = p.w := ⟨(Ch.refl F w).alloc _, rfl⟩
  have g1 : p.w.heap[s]? = some (stObj3 a b c) := by rw [← hp]; exact heap_alloc_blk _ h1
  have g2 : MapAt keyV snV p.w a S := by rw [← hp]; exact h2.ext ((Ch.refl NoS w).alloc _)
  have g3 : MapAt keyV txV p.w c M := by rw [← hp]; exact H4.out.ext ((Ch.refl NoS w).alloc _)
  have ha := h2.lt
  have hb := H4.out.lt
  have hs := lt_of_blk h1
  rw [hp, ← hn0] at hn
  rw [hp, ← hn0]
  have HFn : Hid (F n) := hF n (by omega)
  have Hne : Hid (a ≠ n ∧ c ≠ n ∧ s ≠ n) := ⟨by omega, by omega, by omega⟩
  have HFs : Hid _ := fs
  have HF2 : Hid (F a ∧ F c) := ⟨fa, fc⟩
  have H5 : Hid (a ≠ c) := h5.2.1
  have l : s < p.w.heap.size := lt_of_blk g1
  have c2 : p.w.cell? ⟨s, 1, none⟩ = some (.map (some b)) := cell_at 1 g1
  have z2 : p.w.frozen? ⟨s, 1, none⟩ = false := frozen_at 1 g1
  clear h1 h2 h3 h5 fa fb fc fs hF s2 m1 m2 hp hn0 ha hb hs H4
  go_wp2_with fail
  go_end0
  refine ⟨rfl, p.set s 1 _ (fun _ => HFs.out), rfl, ⟨a, n, c, ?_, ?_, ?_, ?_, ⟨Hne.out.1, H5.out, Ne.symm Hne.out.2.1⟩, HF2.out.1, HFn.out, HF2.out.2⟩, HFs.out⟩
  · exact heap_set_same g1 1 _
  · exact g2.keep (heap_set_other (fun e => g2.ne_cells g1 e) _)
  · exact hn.keep (heap_set_other (Ne.symm Hne.out.2.2) _)
  · exact g3.keep (heap_set_other (fun e => g3.ne_cells g1 e) _)
set_option maxRecDepth 4000 in
set_option maxHeartbeats 800000 in
theorem seen_s (s : Nat) (S : List (Key × Sn)) (W M : List (Key × Tx)) (F : Nat → Prop) (k : Key) (w : World) (h : SetM w s S W M F) :
    Calls Try.prog 63 #[.pointer (some ⟨s, 0, none⟩), keyV k] w fun e w' => e = .returned (.tuple #[snV (seenM S k).1, .bool (seenM S k).2]) ∧ ∃ p : Ext w, w' = p.w := by
  obtain ⟨⟨a, b, c, h1, h2, h3, h4, h5, -⟩, -⟩ := h
  obtain ⟨kd, ka, kb, ks⟩ := k
  obtain ⟨W', hW⟩ : ∃ W', W' = (w.alloc (.cells (keyCells kd ka kb ks) 23)).alloc (.cells #[.int .u64 0, .string ⟨#[]⟩, .bool false] 37) := ⟨_, rfl⟩
  obtain ⟨bk, hbk⟩ : ∃ n, n = w.heap.size := ⟨_, rfl⟩
  have hkb : W'.heap[bk]? = some (.cells (keyCells kd ka kb ks) 23 (0, 0)) := by rw [hW, hbk]; exact heap_alloc_blk _ (heap_alloc_at _ _)
  have hvb : W'.heap[bk + 1]? = some (.cells #[.int .u64 0, .string ⟨#[]⟩, .bool false] 37 (0, 0)) := by rw [hW, hbk]; exact heap_alloc_eq _ (by simp)
  replace h1 : W'.heap[s]? = some (stObj3 a b c) := by rw [hW]; exact heap_alloc_blk _ (heap_alloc_blk _ h1)
  replace h2 : MapAt keyV snV W' a S := by rw [hW]; exact h2.ext (((Ch.refl NoS w).alloc _).alloc _)
  have hsz : W'.heap.size = bk + 2 := by rw [hW, hbk]; simp
  have fin : ∀ p : Ch (fun b => b = bk + 1) W', ∃ q : Ext w, p.w = q.w := fun p => ⟨(((Ch.refl NoS w).alloc _).alloc _).onto hW p (fun b hb h => by rw [h, hbk] at hb; omega), rfl⟩
  have s0 : ∀ p : Ext W', p.w.cell? ⟨s, 0, none⟩ = some (.map (some a)) := (fun p => cell_at 0 (p.blkE h1)); have s1 : ∀ p : Ext W', p.w.cell? ⟨s, 1, none⟩ = some (.map (some b)) := (fun p => cell_at 1 (p.blkE h1)); have s2 : ∀ p : Ext W', p.w.cell? ⟨s, 2, none⟩ = some (.map (some c)) := (fun p => cell_at 2 (p.blkE h1)); have k0 : ∀ p : Ext W', p.w.cell? ⟨bk, 0, none⟩ = some (.int .i64 kd) := (fun p => cell_at 0 (p.blkE hkb)); have k1 : ∀ p : Ext W', p.w.cell? ⟨bk, 1, none⟩ = some (.int .i64 ka) := (fun p => cell_at 1 (p.blkE hkb)); have k2 : ∀ p : Ext W', p.w.cell? ⟨bk, 2, none⟩ = some (.int .i64 kb) := (fun p => cell_at 2 (p.blkE hkb)); have k3 : ∀ p : Ext W', p.w.cell? ⟨bk, 3, none⟩ = some (.string ks) := (fun p => cell_at 3 (p.blkE hkb))
  clear h1 h3 h4 hkb s1 s2
  unfold seenM
  cases hg : aget S ⟨kd, ka, kb, ks⟩ with
  | none =>
    go_enter Try.func63, Try.ntmps63
    go_wp2_with fail
    rw [← hbk, ← hW]
    clear hW hbk
    refine wp_region_ch NoS (by kernel_rfl) (by kernel_rfl) (fun p hp => ?_)
    clear hp
    (repeat (first | (refine wpMix_skip rfl rfl ?_) | (refine wpMix_step (fun K hK => ?_); go_simp; (with_reducible (refine hK _ _ ?_)); clear hK K)))
    refine wpMix_look (K := key_law) (encV := snV) (k := ⟨kd, ka, kb, ks⟩) (l := S) (c := true) rfl _ _ rfl Try.underlying229 z37 rfl rfl (fun w' ⟨q, hq⟩ => by rw [hq]; exact h2.ext q) (v := (.agg #[.int .u64 0, .string ⟨#[]⟩, .bool false])) (by rw [hg]; rfl) ?_; rw [hg]
    (repeat (first | (refine wpMix_skip rfl rfl ?_) | (refine wpMix_step (fun K hK => ?_); go_simp; (with_reducible (refine hK _ _ ?_)); clear hK K)))
    refine wpMix_step (fun K hK => ?_); go_simp; refine ⟨⟨p.alloc _, rfl⟩, hK _ _ ?_⟩; clear hK K; (repeat (first | (refine wpMix_skip rfl rfl ?_) | (refine wpMix_step (fun K hK => ?_); go_simp; (with_reducible (refine hK _ _ ?_)); clear hK K))); refine wpMix_step (fun K hK => ?_); go_simp; obtain ⟨b5, hb5⟩ : ∃ n, n = p.w.heap.size := ⟨_, rfl⟩; obtain ⟨p2, hp2⟩ : ∃ p2 : Ext W', p.w.alloc (.cells #[.int .u64 0, .string ⟨#[]⟩, .bool false] 37) = p2.w := ⟨p.alloc _, rfl⟩; have hv : p2.w.heap[b5]? = some (.cells #[.int .u64 0, .string ⟨#[]⟩, .bool false] 37 (0, 0)) := (by rw [← hp2, hb5]; exact heap_alloc_at _ _); rw [← hb5, hp2]; refine ⟨⟨p2, rfl⟩, hK _ _ ?_⟩; clear hK K hp2 hb5 p
    (repeat (first | (refine wpMix_skip rfl rfl ?_) | (refine wpMix_step (fun K hK => ?_); go_simp; (with_reducible (refine hK _ _ ?_)); clear hK K)))
    refine wpMix_nil ?_
    have x0 : p2.w.cell? ⟨b5, 0, none⟩ = _ := cell_at 0 hv; have x1 : p2.w.cell? ⟨b5, 1, none⟩ = _ := cell_at 1 hv; have x2 : p2.w.cell? ⟨b5, 2, none⟩ = _ := cell_at 2 hv; have hvq := p2.blkE hvb; have z0 := cell_at 0 hvq; have z1 := cell_at 1 hvq; have z2 := cell_at 2 hvq; have f0 := frozen_at 0 hvq; have f1 := frozen_at 1 hvq; have f2 := frozen_at 2 hvq; have l1 := lt_of_blk hvq; clear hv hvq hvb; go_wp2_with fail
    refine bodyPost_ret (v := .tuple #[snV ⟨0, ⟨#[]⟩, false⟩, .bool false]) (by simp [results, Try.results63, go_sem, x0, x1, x2, z0, z1, z2, f0, f1, f2]) rfl ⟨rfl, ?_⟩
    exact fin ((((p2.up (fun b => b = bk + 1)).set (bk + 1) 0 _ (fun _ => rfl)).set (bk + 1) 1 _ (fun _ => rfl)).set (bk + 1) 2 _ (fun _ => rfl))
  | some v =>
    obtain ⟨vd, vt, vh⟩ := v
    go_enter Try.func63, Try.ntmps63
    go_wp2_with fail
    rw [← hbk, ← hW]
    clear hW hbk
    refine wp_region_ch NoS (by kernel_rfl) (by kernel_rfl) (fun p hp => ?_)
    clear hp
    (repeat (first | (refine wpMix_skip rfl rfl ?_) | (refine wpMix_step (fun K hK => ?_); go_simp; (with_reducible (refine hK _ _ ?_)); clear hK K)))
    refine wpMix_look (K := key_law) (encV := snV) (k := ⟨kd, ka, kb, ks⟩) (l := S) (c := true) rfl _ _ rfl Try.underlying229 z37 rfl rfl (fun w' ⟨q, hq⟩ => by rw [hq]; exact h2.ext q) (v := (.agg #[.int .u64 vd, .string vt, .bool vh])) (by rw [hg]; rfl) ?_; rw [hg]
    (repeat (first | (refine wpMix_skip rfl rfl ?_) | (refine wpMix_step (fun K hK => ?_); go_simp; (with_reducible (refine hK _ _ ?_)); clear hK K)))
    refine wpMix_step (fun K hK => ?_); go_simp; refine ⟨⟨p.alloc _, rfl⟩, hK _ _ ?_⟩; clear hK K; (repeat (first | (refine wpMix_skip rfl rfl ?_) | (refine wpMix_step (fun K hK => ?_); go_simp; (with_reducible (refine hK _ _ ?_)); clear hK K))); refine wpMix_step (fun K hK => ?_); go_simp; obtain ⟨b5, hb5⟩ : ∃ n, n = p.w.heap.size := ⟨_, rfl⟩; obtain ⟨p2, hp2⟩ : ∃ p2 : Ext W', p.w.alloc (.cells #[.int .u64 vd, .string vt, .bool vh] 37) = p2.w := ⟨p.alloc _, rfl⟩; have hv : p2.w.heap[b5]? = some (.cells #[.int .u64 vd, .string vt, .bool vh] 37 (0, 0)) := (by rw [← hp2, hb5]; exact heap_alloc_at _ _); rw [← hb5, hp2]; refine ⟨⟨p2, rfl⟩, hK _ _ ?_⟩; clear hK K hp2 hb5 p
    (repeat (first | (refine wpMix_skip rfl rfl ?_) | (refine wpMix_step (fun K hK => ?_); go_simp; (with_reducible (refine hK _ _ ?_)); clear hK K)))
    refine wpMix_nil ?_
    have x0 : p2.w.cell? ⟨b5, 0, none⟩ = _ := cell_at 0 hv; have x1 : p2.w.cell? ⟨b5, 1, none⟩ = _ := cell_at 1 hv; have x2 : p2.w.cell? ⟨b5, 2, none⟩ = _ := cell_at 2 hv; have hvq := p2.blkE hvb; have z0 := cell_at 0 hvq; have z1 := cell_at 1 hvq; have z2 := cell_at 2 hvq; have f0 := frozen_at 0 hvq; have f1 := frozen_at 1 hvq; have f2 := frozen_at 2 hvq; have l1 := lt_of_blk hvq; clear hv hvq hvb; go_wp2_with fail
    refine bodyPost_ret (v := .tuple #[snV ⟨vd, vt, vh⟩, .bool true]) (by simp [results, Try.results63, go_sem, x0, x1, x2, z0, z1, z2, f0, f1, f2]) rfl ⟨rfl, ?_⟩
    exact fin ((((p2.up (fun b => b = bk + 1)).set (bk + 1) 0 _ (fun _ => rfl)).set (bk + 1) 1 _ (fun _ => rfl)).set (bk + 1) 2 _ (fun _ => rfl))
end Go.Proofs.Cob
