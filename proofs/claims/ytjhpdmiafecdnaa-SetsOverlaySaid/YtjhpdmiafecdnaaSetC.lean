/-
  Layer 13: Get, Put, Reads on sets in memory.
-/
import Derived.Test.YtjhpdmiafecdnaaSetB
namespace Go.Proofs.Cob
open Go Go.RowKit Go.Cob
set_option linter.unusedSimpArgs false
set_option linter.unusedVariables false
set_option maxRecDepth 4000 in
theorem put_s (s : Nat) (S : List (Key × Sn)) (W M : List (Key × Tx)) (F : Nat → Prop) (k : Key) (tx : ByteArray) (w : World) (h : SetM w s S W M F) :
    Calls Try.prog 55 #[.pointer (some ⟨s, 0, none⟩), keyV k, .string tx] w fun e w' => e = .returned (.int .i64 (putM S W k tx).1) ∧ ∃ p : Ch F w, w' = p.w ∧ SetM p.w s S (putM S W k tx).2 M F := by
  have HS : Hid _ := h
  obtain ⟨⟨a, b, c, h1, h2, h3, h4, h5, hF⟩, fs⟩ := h
  obtain ⟨kd, ka, kb, ks⟩ := k; obtain ⟨W', hW⟩ : ∃ W', W' = w.alloc (.cells (keyCells kd ka kb ks) 23) := ⟨_, rfl⟩; obtain ⟨bk, hbk⟩ : ∃ n, n = w.heap.size := ⟨_, rfl⟩; have hkb : W'.heap[bk]? = some (.cells (keyCells kd ka kb ks) 23 (0, 0)) := (by rw [hW, hbk]; exact heap_alloc_at _ _); replace h1 : W'.heap[s]? = some (stObj3 a b c) := (by rw [hW]; exact heap_alloc_blk _ h1); replace h2 : MapAt keyV snV W' a S := (by rw [hW]; exact h2.ext ((Ch.refl NoS w).alloc _)); replace h3 : MapAt keyV txV W' b W := (by rw [hW]; exact h3.ext ((Ch.refl NoS w).alloc _)); replace h4 : MapAt keyV txV W' c M := (by rw [hW]; exact h4.ext ((Ch.refl NoS w).alloc _)); have fin : ∀ p : Ext W', ∃ q : Ext w, p.w = q.w := (fun p => ⟨((Ch.refl NoS w).alloc _).onto hW p (fun b hb h => h), rfl⟩)
  have HW : Hid (SetM W' s S W M F) := (by rw [hW]; exact HS.out.ext ((Ch.refl NoS w).alloc _))
  have finF : ∀ p : Ch F W', ∃ q : Ch F w, p.w = q.w := fun p => ⟨((Ch.refl F w).alloc _).onto hW p (fun b hb h => h), rfl⟩
  have HF : Hid _ := hF
  have HFs : Hid _ := fs
  have H5 : Hid _ := h5
  have k0 : W'.cell? ⟨bk, 0, none⟩ = some (.int .i64 kd) := cell_at 0 hkb
  have k1 : W'.cell? ⟨bk, 1, none⟩ = some (.int .i64 ka) := cell_at 1 hkb
  have k2 : W'.cell? ⟨bk, 2, none⟩ = some (.int .i64 kb) := cell_at 2 hkb
  have k3 : W'.cell? ⟨bk, 3, none⟩ = some (.string ks) := cell_at 3 hkb
  clear hF fs h5
  have hcc := unseen_s s S W M F ⟨kd, ka, kb, ks⟩ W' HW.out
  unfold putM
  cases hu : unseenM S ⟨kd, ka, kb, ks⟩
  · rw [hu] at hcc
    go_enter Try.func55, Try.ntmps55
    go_wp2_with fail
    rw [← hbk, ← hW]
    clear hW hbk
    go_wp2_with fail
    go_at_call 157
    refine hcc.mono ?_
    clear hcc
    rintro e w' ⟨rfl, p0, rfl⟩
    have h1q := p0.blkE h1
    have h2q := h2.ext p0
    have h3q := h3.ext p0
    have h4q := h4.ext p0
    have hkq := p0.blkE hkb
    have HFin : Hid (∀ q : Ch F p0.w, ∃ r : Ch F w, q.w = r.w) := fun q => finF ((p0.up F).then q (fun _ _ h => h))
    clear k0 k1 k2 k3 h1 h2 h3 h4 hkb fin finF HW
    generalize p0.w = W2 at h1q h2q h3q h4q hkq HFin ⊢
    clear p0
    have s1 : ∀ p : Ext W2, p.w.cell? ⟨s, 1, none⟩ = some (.map (some b)) := fun p => cell_at 1 (p.blkE h1q)
    have k0 : ∀ p : Ext W2, p.w.cell? ⟨bk, 0, none⟩ = some (.int .i64 kd) := fun p => cell_at 0 (p.blkE hkq)
    have k1 : ∀ p : Ext W2, p.w.cell? ⟨bk, 1, none⟩ = some (.int .i64 ka) := fun p => cell_at 1 (p.blkE hkq)
    have k2 : ∀ p : Ext W2, p.w.cell? ⟨bk, 2, none⟩ = some (.int .i64 kb) := fun p => cell_at 2 (p.blkE hkq)
    have k3 : ∀ p : Ext W2, p.w.cell? ⟨bk, 3, none⟩ = some (.string ks) := fun p => cell_at 3 (p.blkE hkq)
    clear hkq hu
    go_wp2_with fail
    refine wp_region_lch NoS (by kernel_rfl) (by repeat constructor) (by kernel_rfl) (by kernel_rfl) (fun p hp => ?_)
    clear hp
    (repeat (first | (refine wpMix_skip rfl rfl ?_) | (refine wpMix_step (fun K hK => ?_); go_simp; (with_reducible (refine hK _ _ ?_)); clear hK K)))
    refine wpMix_nil ?_
    refine last_put (K := key_law) (encV := txV) (k := ⟨kd, ka, kb, ks⟩) (u := ⟨tx, true⟩) (l := W) rfl _ _ _ rfl Try.underlying230 rfl rfl rfl (h3q.ext p) ?_
    intro ob hM
    have hS := SetM.put (F := F) (p.blkE h1q) (h2q.ext p) (h3q.ext p) (h4q.ext p) H5.out ⟨HFs.out, HF.out⟩ hM
    obtain ⟨r, hr⟩ := HFin.out ((p.up F).putO b ob (fun _ => HF.out.2.1))
    have HR : Hid (putO p.w b ob = r.w) := hr
    have HSr : Hid _ := hS
    clear hS hM hr s1 k0 k1 k2 k3 h1q h2q h3q h4q
    rw [HR.out] at HSr ⊢
    clear HR
    go_wp2_with fail
    go_ret
    exact ⟨rfl, r, rfl, HSr.out⟩
  · rw [hu] at hcc
    go_enter Try.func55, Try.ntmps55
    go_wp2_with fail
    rw [← hbk, ← hW]
    clear hW hbk
    go_wp2_with fail
    go_at_call 157
    refine hcc.mono ?_
    clear hcc
    rintro e w' ⟨rfl, p0, rfl⟩
    clear k0 k1 k2 k3
    go_wp2_with fail
    obtain ⟨r, hr⟩ := fin p0
    rw [hr]
    go_ret
    exact ⟨rfl, r.up F, rfl, HS.out.ext r⟩

set_option maxRecDepth 4000 in
set_option maxHeartbeats 1600000 in
theorem get_s (s : Nat) (S : List (Key × Sn)) (W M : List (Key × Tx)) (F : Nat → Prop) (k : Key) (w : World) (h : SetM w s S W M F) :
    Calls Try.prog 61 #[.pointer (some ⟨s, 0, none⟩), keyV k] w fun e w' => e = .returned (.tuple #[.string (getM S W k).1.1, .bool (getM S W k).1.2, .bool (getM S W k).2]) ∧ ∃ p : Ext w, w' = p.w := by
  obtain ⟨⟨a, b, c, h1, h2, h3, h4, h5, -⟩, -⟩ := h
  obtain ⟨kd, ka, kb, ks⟩ := k; obtain ⟨W', hW⟩ : ∃ W', W' = w.alloc (.cells (keyCells kd ka kb ks) 23) := ⟨_, rfl⟩; obtain ⟨bk, hbk⟩ : ∃ n, n = w.heap.size := ⟨_, rfl⟩; have hkb : W'.heap[bk]? = some (.cells (keyCells kd ka kb ks) 23 (0, 0)) := (by rw [hW, hbk]; exact heap_alloc_at _ _); replace h1 : W'.heap[s]? = some (stObj3 a b c) := (by rw [hW]; exact heap_alloc_blk _ h1); replace h2 : MapAt keyV snV W' a S := (by rw [hW]; exact h2.ext ((Ch.refl NoS w).alloc _)); replace h3 : MapAt keyV txV W' b W := (by rw [hW]; exact h3.ext ((Ch.refl NoS w).alloc _)); replace h4 : MapAt keyV txV W' c M := (by rw [hW]; exact h4.ext ((Ch.refl NoS w).alloc _)); have fin : ∀ p : Ext W', ∃ q : Ext w, p.w = q.w := (fun p => ⟨((Ch.refl NoS w).alloc _).onto hW p (fun b hb h => h), rfl⟩)
  have s0 : ∀ p : Ext W', p.w.cell? ⟨s, 0, none⟩ = some (.map (some a)) := (fun p => cell_at 0 (p.blkE h1)); have s1 : ∀ p : Ext W', p.w.cell? ⟨s, 1, none⟩ = some (.map (some b)) := (fun p => cell_at 1 (p.blkE h1)); have s2 : ∀ p : Ext W', p.w.cell? ⟨s, 2, none⟩ = some (.map (some c)) := (fun p => cell_at 2 (p.blkE h1)); have k0 : ∀ p : Ext W', p.w.cell? ⟨bk, 0, none⟩ = some (.int .i64 kd) := (fun p => cell_at 0 (p.blkE hkb)); have k1 : ∀ p : Ext W', p.w.cell? ⟨bk, 1, none⟩ = some (.int .i64 ka) := (fun p => cell_at 1 (p.blkE hkb)); have k2 : ∀ p : Ext W', p.w.cell? ⟨bk, 2, none⟩ = some (.int .i64 kb) := (fun p => cell_at 2 (p.blkE hkb)); have k3 : ∀ p : Ext W', p.w.cell? ⟨bk, 3, none⟩ = some (.string ks) := (fun p => cell_at 3 (p.blkE hkb))
  cases hg : aget W ⟨kd, ka, kb, ks⟩ with
  | some t =>
    obtain ⟨tt, th⟩ := t
    have e : getM S W ⟨kd, ka, kb, ks⟩ = ((tt, th), true) := by unfold getM; rw [hg]
    rw [e]
    clear e
    go_enter Try.func61, Try.ntmps61; go_wp2_with fail; rw [← hbk, ← hW]; clear hW hbk; refine wp_region_ch NoS (by kernel_rfl) (by kernel_rfl) (fun p hp => ?_); clear hp; (repeat (first | (refine wpMix_skip rfl rfl ?_) | (refine wpMix_step (fun K hK => ?_); go_simp; (with_reducible (refine hK _ _ ?_)); clear hK K)))
    refine wpMix_look (K := key_law) (encV := txV) (k := ⟨kd, ka, kb, ks⟩) (l := W) (c := true) rfl _ _ rfl Try.underlying230 z235 rfl rfl (fun w' ⟨q, hq⟩ => by rw [hq]; exact h3.ext q) (v := (.agg #[.string tt, .bool th])) (by rw [hg]; rfl) ?_; rw [hg]
    (repeat (first | (refine wpMix_skip rfl rfl ?_) | (refine wpMix_step (fun K hK => ?_); go_simp; (with_reducible (refine hK _ _ ?_)); clear hK K)))
    refine wpMix_step (fun K hK => ?_); go_simp; refine ⟨⟨p.alloc _, rfl⟩, hK _ _ ?_⟩; clear hK K; (repeat (first | (refine wpMix_skip rfl rfl ?_) | (refine wpMix_step (fun K hK => ?_); go_simp; (with_reducible (refine hK _ _ ?_)); clear hK K))); refine wpMix_step (fun K hK => ?_); go_simp; obtain ⟨b7, hb5⟩ : ∃ n, n = p.w.heap.size := ⟨_, rfl⟩; obtain ⟨p2, hp2⟩ : ∃ p2 : Ext W', p.w.alloc (.cells #[.string tt, .bool th] 235) = p2.w := ⟨p.alloc _, rfl⟩; have hv : p2.w.heap[b7]? = some (.cells #[.string tt, .bool th] 235 (0, 0)) := (by rw [← hp2, hb5]; exact heap_alloc_at _ _); rw [← hb5, hp2]; refine ⟨⟨p2, rfl⟩, hK _ _ ?_⟩; clear hK K hp2 hb5 p
    (repeat (first | (refine wpMix_skip rfl rfl ?_) | (refine wpMix_step (fun K hK => ?_); go_simp; (with_reducible (refine hK _ _ ?_)); clear hK K)))
    refine wpMix_nil ?_
    go_wp2_with fail
    have x0 : ∀ p : Ext p2.w, p.w.cell? ⟨b7, 0, none⟩ = some (.string tt) := fun p => cell_at 0 (p.blkE hv)
    have x1 : ∀ p : Ext p2.w, p.w.cell? ⟨b7, 1, none⟩ = some (.bool th) := fun p => cell_at 1 (p.blkE hv)
    clear hv s0 s1 s2 k0 k1 k2 k3 h1 h2 h3 h4 hkb
    have HFin : Hid (∀ q : Ext p2.w, ∃ r : Ext w, q.w = r.w) := fun q => fin (p2.thenE q)
    clear fin
    generalize p2.w = W2 at x0 x1 HFin ⊢
    clear p2
    refine wp_region_ch NoS (by kernel_rfl) (by kernel_rfl) (fun p hp => ?_)
    clear hp
    (repeat (first | (refine wpMix_skip rfl rfl ?_) | (refine wpMix_step (fun K hK => ?_); go_simp; (with_reducible (refine hK _ _ ?_)); clear hK K)))
    refine wpMix_nil ?_
    go_wp2_with fail
    refine bodyPost_ret (v := .tuple #[.string tt, .bool th, .bool true]) (by simp [results, Try.results61, go_sem]) rfl ⟨rfl, ?_⟩
    exact HFin.out p
  | none =>
    have e : getM S W ⟨kd, ka, kb, ks⟩ = (((seenM S ⟨kd, ka, kb, ks⟩).1.tx, (seenM S ⟨kd, ka, kb, ks⟩).1.has), (seenM S ⟨kd, ka, kb, ks⟩).2) := by unfold getM; rw [hg]
    rw [e]
    clear e
    go_enter Try.func61, Try.ntmps61; go_wp2_with fail; rw [← hbk, ← hW]; clear hW hbk; refine wp_region_ch NoS (by kernel_rfl) (by kernel_rfl) (fun p hp => ?_); clear hp; (repeat (first | (refine wpMix_skip rfl rfl ?_) | (refine wpMix_step (fun K hK => ?_); go_simp; (with_reducible (refine hK _ _ ?_)); clear hK K)))
    refine wpMix_look (K := key_law) (encV := txV) (k := ⟨kd, ka, kb, ks⟩) (l := W) (c := true) rfl _ _ rfl Try.underlying230 z235 rfl rfl (fun w' ⟨q, hq⟩ => by rw [hq]; exact h3.ext q) (v := (.agg #[.string ⟨#[]⟩, .bool false])) (by rw [hg]; rfl) ?_; rw [hg]; (repeat (first | (refine wpMix_skip rfl rfl ?_) | (refine wpMix_step (fun K hK => ?_); go_simp; (with_reducible (refine hK _ _ ?_)); clear hK K))); refine wpMix_step (fun K hK => ?_); go_simp; refine ⟨⟨p.alloc _, rfl⟩, hK _ _ ?_⟩; clear hK K; (repeat (first | (refine wpMix_skip rfl rfl ?_) | (refine wpMix_step (fun K hK => ?_); go_simp; (with_reducible (refine hK _ _ ?_)); clear hK K))); refine wpMix_step (fun K hK => ?_); go_simp; obtain ⟨b7, hb5⟩ : ∃ n, n = p.w.heap.size := ⟨_, rfl⟩; obtain ⟨p2, hp2⟩ : ∃ p2 : Ext W', p.w.alloc (.cells #[.string ⟨#[]⟩, .bool false] 235) = p2.w := ⟨p.alloc _, rfl⟩; have hv : p2.w.heap[b7]? = some (.cells #[.string ⟨#[]⟩, .bool false] 235 (0, 0)) := (by rw [← hp2, hb5]; exact heap_alloc_at _ _); rw [← hb5, hp2]; refine ⟨⟨p2, rfl⟩, hK _ _ ?_⟩; clear hK K hp2 hb5 p; (repeat (first | (refine wpMix_skip rfl rfl ?_) | (refine wpMix_step (fun K hK => ?_); go_simp; (with_reducible (refine hK _ _ ?_)); clear hK K))); refine wpMix_nil ?_; clear hv; go_wp2_with fail; have h1q := p2.blkE h1; have h2q := h2.ext p2; have hkq := p2.blkE hkb; have HFin : Hid (∀ q : Ext p2.w, ∃ r : Ext w, q.w = r.w) := (fun q => fin (p2.thenE q)); clear s0 s1 s2 k0 k1 k2 k3 h1 h2 h3 h4 hkb fin; generalize p2.w = W2 at h1q h2q hkq HFin ⊢; clear p2; have s0 : ∀ p : Ext W2, p.w.cell? ⟨s, 0, none⟩ = some (.map (some a)) := (fun p => cell_at 0 (p.blkE h1q)); have k0 : ∀ p : Ext W2, p.w.cell? ⟨bk, 0, none⟩ = some (.int .i64 kd) := (fun p => cell_at 0 (p.blkE hkq)); have k1 : ∀ p : Ext W2, p.w.cell? ⟨bk, 1, none⟩ = some (.int .i64 ka) := (fun p => cell_at 1 (p.blkE hkq)); have k2 : ∀ p : Ext W2, p.w.cell? ⟨bk, 2, none⟩ = some (.int .i64 kb) := (fun p => cell_at 2 (p.blkE hkq)); have k3 : ∀ p : Ext W2, p.w.cell? ⟨bk, 3, none⟩ = some (.string ks) := (fun p => cell_at 3 (p.blkE hkq)); clear h1q hkq; refine wp_region_ch NoS (by kernel_rfl) (by kernel_rfl) (fun p hp => ?_); clear hp; (repeat (first | (refine wpMix_skip rfl rfl ?_) | (refine wpMix_step (fun K hK => ?_); go_simp; (with_reducible (refine hK _ _ ?_)); clear hK K)))
    cases hs : aget S ⟨kd, ka, kb, ks⟩ with
    | none =>
      have e : seenM S ⟨kd, ka, kb, ks⟩ = (⟨0, ⟨#[]⟩, false⟩, false) := by unfold seenM; rw [hs]
      refine wpMix_look (K := key_law) (encV := snV) (k := ⟨kd, ka, kb, ks⟩) (l := S) (c := true) rfl _ _ rfl Try.underlying229 z37 rfl rfl (fun w' ⟨q, hq⟩ => by rw [hq]; exact h2q.ext q) (v := (.agg #[.int .u64 0, .string ⟨#[]⟩, .bool false])) (by rw [hs]; rfl) ?_; rw [hs]
      (repeat (first | (refine wpMix_skip rfl rfl ?_) | (refine wpMix_step (fun K hK => ?_); go_simp; (with_reducible (refine hK _ _ ?_)); clear hK K)))
      refine wpMix_step (fun K hK => ?_); go_simp; refine ⟨⟨p.alloc _, rfl⟩, hK _ _ ?_⟩; clear hK K; (repeat (first | (refine wpMix_skip rfl rfl ?_) | (refine wpMix_step (fun K hK => ?_); go_simp; (with_reducible (refine hK _ _ ?_)); clear hK K))); refine wpMix_step (fun K hK => ?_); go_simp; obtain ⟨b9, hb5⟩ : ∃ n, n = p.w.heap.size := ⟨_, rfl⟩; obtain ⟨p2, hp2⟩ : ∃ p2 : Ext W2, p.w.alloc (.cells #[.int .u64 0, .string ⟨#[]⟩, .bool false] 37) = p2.w := ⟨p.alloc _, rfl⟩; have hv : p2.w.heap[b9]? = some (.cells #[.int .u64 0, .string ⟨#[]⟩, .bool false] 37 (0, 0)) := (by rw [← hp2, hb5]; exact heap_alloc_at _ _); rw [← hb5, hp2]; refine ⟨⟨p2, rfl⟩, hK _ _ ?_⟩; clear hK K hp2 hb5 p
      (repeat (first | (refine wpMix_skip rfl rfl ?_) | (refine wpMix_step (fun K hK => ?_); go_simp; (with_reducible (refine hK _ _ ?_)); clear hK K)))
      refine wpMix_nil ?_
      have E : Hid _ := e; have HFi : Hid (∀ q : Ext p2.w, ∃ r : Ext w, q.w = r.w) := (fun q => HFin.out (p2.thenE q)); have x1 : ∀ p : Ext p2.w, p.w.cell? ⟨b9, 1, none⟩ = some (.string ⟨#[]⟩) := (fun p => cell_at 1 (p.blkE hv)); have x2 : ∀ p : Ext p2.w, p.w.cell? ⟨b9, 2, none⟩ = some (.bool false) := (fun p => cell_at 2 (p.blkE hv)); clear e hv s0 k0 k1 k2 k3 h2q HFin; generalize p2.w = W3 at x1 x2 HFi ⊢; clear p2; go_wp2_with fail; refine wp_region_ch NoS (by kernel_rfl) (by kernel_rfl) (fun p hp => ?_); clear hp; (repeat (first | (refine wpMix_skip rfl rfl ?_) | (refine wpMix_step (fun K hK => ?_); go_simp; (with_reducible (refine hK _ _ ?_)); clear hK K))); refine wpMix_nil ?_; go_wp2_with fail; rw [E.out]; refine bodyPost_ret (v := .tuple #[.string ⟨#[]⟩, .bool false, .bool false]) (by simp [results, Try.results61, go_sem]) rfl ⟨rfl, ?_⟩; exact HFi.out p
    | some u =>
      obtain ⟨ud, ut, uh⟩ := u
      have e : seenM S ⟨kd, ka, kb, ks⟩ = (⟨ud, ut, uh⟩, true) := by unfold seenM; rw [hs]
      refine wpMix_look (K := key_law) (encV := snV) (k := ⟨kd, ka, kb, ks⟩) (l := S) (c := true) rfl _ _ rfl Try.underlying229 z37 rfl rfl (fun w' ⟨q, hq⟩ => by rw [hq]; exact h2q.ext q) (v := (.agg #[.int .u64 ud, .string ut, .bool uh])) (by rw [hs]; rfl) ?_; rw [hs]
      (repeat (first | (refine wpMix_skip rfl rfl ?_) | (refine wpMix_step (fun K hK => ?_); go_simp; (with_reducible (refine hK _ _ ?_)); clear hK K)))
      refine wpMix_step (fun K hK => ?_); go_simp; refine ⟨⟨p.alloc _, rfl⟩, hK _ _ ?_⟩; clear hK K; (repeat (first | (refine wpMix_skip rfl rfl ?_) | (refine wpMix_step (fun K hK => ?_); go_simp; (with_reducible (refine hK _ _ ?_)); clear hK K))); refine wpMix_step (fun K hK => ?_); go_simp; obtain ⟨b9, hb5⟩ : ∃ n, n = p.w.heap.size := ⟨_, rfl⟩; obtain ⟨p2, hp2⟩ : ∃ p2 : Ext W2, p.w.alloc (.cells #[.int .u64 ud, .string ut, .bool uh] 37) = p2.w := ⟨p.alloc _, rfl⟩; have hv : p2.w.heap[b9]? = some (.cells #[.int .u64 ud, .string ut, .bool uh] 37 (0, 0)) := (by rw [← hp2, hb5]; exact heap_alloc_at _ _); rw [← hb5, hp2]; refine ⟨⟨p2, rfl⟩, hK _ _ ?_⟩; clear hK K hp2 hb5 p
      (repeat (first | (refine wpMix_skip rfl rfl ?_) | (refine wpMix_step (fun K hK => ?_); go_simp; (with_reducible (refine hK _ _ ?_)); clear hK K)))
      refine wpMix_nil ?_
      have E : Hid _ := e; have HFi : Hid (∀ q : Ext p2.w, ∃ r : Ext w, q.w = r.w) := (fun q => HFin.out (p2.thenE q)); have x1 : ∀ p : Ext p2.w, p.w.cell? ⟨b9, 1, none⟩ = some (.string ut) := (fun p => cell_at 1 (p.blkE hv)); have x2 : ∀ p : Ext p2.w, p.w.cell? ⟨b9, 2, none⟩ = some (.bool uh) := (fun p => cell_at 2 (p.blkE hv)); clear e hv s0 k0 k1 k2 k3 h2q HFin; generalize p2.w = W3 at x1 x2 HFi ⊢; clear p2; go_wp2_with fail; refine wp_region_ch NoS (by kernel_rfl) (by kernel_rfl) (fun p hp => ?_); clear hp; (repeat (first | (refine wpMix_skip rfl rfl ?_) | (refine wpMix_step (fun K hK => ?_); go_simp; (with_reducible (refine hK _ _ ?_)); clear hK K))); refine wpMix_nil ?_; go_wp2_with fail; rw [E.out]; refine bodyPost_ret (v := .tuple #[.string ut, .bool uh, .bool true]) (by simp [results, Try.results61, go_sem]) rfl ⟨rfl, ?_⟩; exact HFi.out p
end Go.Proofs.Cob
