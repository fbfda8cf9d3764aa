/-
  Slices of keys: where they lie; Contains.
-/
import Derived.Test.YtjhpdmiafecdnaaCellI
import Derived.WalkKit
namespace Go.Proofs.Cob
open Go Go.RowKit Go.Cob
set_option linter.unusedSimpArgs false
set_option linter.unusedVariables false

structure KeyCell (w : World) (b o : Nat) (k : Key) : Prop where
  c0 : w.cell? ⟨b, o, none⟩ = some (.int .i64 k.kind)
  c1 : w.cell? ⟨b, o + 1, none⟩ = some (.int .i64 k.a)
  c2 : w.cell? ⟨b, o + 2, none⟩ = some (.int .i64 k.b)
  c3 : w.cell? ⟨b, o + 3, none⟩ = some (.string k.s)
/-- A slice whose elements are these keys. -/
def KeysIn (w : World) (fa : Option Addr) (ks : List Key) : Prop :=
  ks = [] ∨ ∃ b off, fa = some ⟨b, off, none⟩ ∧ ∀ i k, ks[i]? = some k → KeyCell w b (off + i * 4) k
theorem KeyCell.keep {w w' : World} {b o : Nat} {k : Key} (h : KeyCell w b o k) (e : w'.heap[b]? = w.heap[b]?) : KeyCell w' b o k := by
  have hc : ∀ i, w'.cell? ⟨b, i, none⟩ = w.cell? ⟨b, i, none⟩ := fun i => World.cell?_of_block (a := ⟨b, i, none⟩) e
  exact ⟨(hc _).trans h.c0, (hc _).trans h.c1, (hc _).trans h.c2, (hc _).trans h.c3⟩
theorem KeyCell.lt {w : World} {b o : Nat} {k : Key} (h : KeyCell w b o k) : b < w.heap.size := by
  have := World.block_lt_of_cell? w _ h.c0
  exact this
theorem KeysIn.keep {w w' : World} {fa : Option Addr} {ks : List Key} (h : KeysIn w fa ks) (e : ∀ a, fa = some a → a.block < w.heap.size → w'.heap[a.block]? = w.heap[a.block]?) : KeysIn w' fa ks := by
  rcases h with h | ⟨b, off, rfl, h⟩
  · exact .inl h
  · exact .inr ⟨b, off, rfl, fun i k hk => (h i k hk).keep (e _ rfl (h i k hk).lt)⟩
theorem KeysIn.ext {w : World} {fa : Option Addr} {ks : List Key} (h : KeysIn w fa ks) (p : Ext w) : KeysIn p.w fa ks := h.keep fun a _ hl => p.same _ hl id
theorem KeysIn.ch {w : World} {fa : Option Addr} {ks : List Key} {T : Nat → Prop} (h : KeysIn w fa ks) (p : Ch T w) (hT : ∀ a, fa = some a → ¬ T a.block) : KeysIn p.w fa ks := h.keep fun a ha hl => p.same _ hl (hT a ha)
theorem KeysIn.take {w : World} {fa : Option Addr} {ks : List Key} (h : KeysIn w fa ks) (n : Nat) : KeysIn w fa (ks.take n) := by
  rcases h with rfl | ⟨b, off, rfl, h⟩
  · exact .inl (by simp)
  · refine .inr ⟨b, off, rfl, fun i k hk => h i k ?_⟩
    rw [List.getElem?_take] at hk
    split at hk
    · exact hk
    · cases hk
/-- One element. -/
theorem KeysIn.get {w : World} {fa : Option Addr} {ks : List Key} (h : KeysIn w fa ks) {i : Nat} (hi : i < ks.length) : ∃ x, ks[i]? = some x ∧ ∃ b off, fa = some ⟨b, off, none⟩ ∧ KeyCell w b (off + i * 4) x := by
  rcases h with rfl | ⟨b, off, rfl, h⟩
  · simp at hi
  · exact ⟨ks[i], List.getElem?_eq_getElem hi, b, off, rfl, h i _ (List.getElem?_eq_getElem hi)⟩
/-- A slice that was just built of one key. -/
theorem KeysIn.built (w : World) (k : Key) : KeysIn (w.alloc (.cells (keyCells k.kind k.a k.b k.s) 23)) (some ⟨w.heap.size, 0, none⟩) [k] := by
  refine .inr ⟨w.heap.size, 0, rfl, fun i k' hk => ?_⟩
  have hb := heap_alloc_at w (.cells (keyCells k.kind k.a k.b k.s) 23)
  match i, hk with
  | 0, hk =>
    have : k = k' := by simpa using hk
    subst this
    exact ⟨cell_at 0 hb, cell_at 1 hb, cell_at 2 hb, cell_at 3 hb⟩

set_option maxHeartbeats 800000 in
theorem index_any (fa : Option Addr) (n cap : Nat) (ks : List Key) (k : Key) (w : World) (h : KeysIn w fa ks) (hn : n = ks.length) (hb : n < 4611686018427387904) :
    Calls Try.prog 197 #[.slice fa n cap, keyV k] w fun e w' => ∃ r : Int, e = .returned (.int .i64 r) ∧ (0 ≤ r ↔ k ∈ ks) ∧ ∃ p : Ext w, w' = p.w := by
  obtain ⟨kd, ka, kb, ks'⟩ := k
  obtain ⟨W, hW⟩ : ∃ W, W = w.alloc (.cells (keyCells kd ka kb ks') 23) := ⟨_, rfl⟩
  have hkb : W.heap[w.heap.size]? = some (.cells (keyCells kd ka kb ks') 23 (0, 0)) := by rw [hW]; exact heap_alloc_at _ _
  have hk' : KeysIn W fa ks := by rw [hW]; exact h.ext ((Ch.refl NoS w).alloc _)
  have fin : ∀ p : Ext W, ∃ q : Ext w, p.w = q.w := fun p => ⟨((Ch.refl NoS w).alloc _).onto hW p (fun b hb h => h), rfl⟩
  have hEq := run_eq_key
  have HN : Hid (n = ks.length) := hn
  clear h hn
  go_enter Try.func197, Try.ntmps197
  go_wp2_with fail
  rw [← hW]
  clear hW
  go_loopw [8] (fun v w' => (∃ p : Ext W, w' = p.w) ∧ ∃ i : Nat, v = .int .i64 i ∧ i ≤ n ∧ ∀ k' ∈ ks.take i, k' ≠ ⟨kd, ka, kb, ks'⟩) (fun v _ => n - (intOf v).toNat)
  case atStart => exact ⟨⟨Ch.refl NoS _, rfl⟩, 0, rfl, by omega, by simp⟩
  case round =>
    obtain ⟨⟨p, rfl⟩, i, rfl, hi, hne⟩ := hrel
    have Hne : Hid (∀ k' ∈ ks.take i, k' ≠ (⟨kd, ka, kb, ks'⟩ : Key)) := hne
    clear hne
    by_cases h1 : i < n
    · have h1' : i < ks.length := by have := HN.out; omega
      obtain ⟨⟨xd, xa, xb, xs⟩, hx, b, off, rfl, hc⟩ := (hk'.ext p).get h1'
      have hkb' := p.blkE hkb
      have finp : ∀ q : Ext p.w, ∃ q' : Ext W, q.w = q'.w := fun q => ⟨p.thenE q, rfl⟩
      have hfin : ∀ q : Ext p.w, ∃ q' : Ext w, q.w = q'.w := fun q => fin (p.thenE q)
      have Hx : Hid (ks[i]? = some ⟨xd, xa, xb, xs⟩) := hx
      clear h1' hx hk' hkb fin
      generalize p.w = W1 at *
      clear p
      have k0 : ∀ q : Ext W1, q.w.cell? ⟨w.heap.size, 0, none⟩ = some (.int .i64 kd) := fun q => cell_at 0 (q.blkE hkb')
      have k1 : ∀ q : Ext W1, q.w.cell? ⟨w.heap.size, 1, none⟩ = some (.int .i64 ka) := fun q => cell_at 1 (q.blkE hkb')
      have k2 : ∀ q : Ext W1, q.w.cell? ⟨w.heap.size, 2, none⟩ = some (.int .i64 kb) := fun q => cell_at 2 (q.blkE hkb')
      have k3 : ∀ q : Ext W1, q.w.cell? ⟨w.heap.size, 3, none⟩ = some (.string ks') := fun q => cell_at 3 (q.blkE hkb')
      have x0 : ∀ q : Ext W1, q.w.cell? ⟨b, off + i * 4, none⟩ = some (.int .i64 xd) := fun q => (hc.keep (q.same _ hc.lt id)).c0
      have x1 : ∀ q : Ext W1, q.w.cell? ⟨b, off + i * 4 + 1, none⟩ = some (.int .i64 xa) := fun q => (hc.keep (q.same _ hc.lt id)).c1
      have x2 : ∀ q : Ext W1, q.w.cell? ⟨b, off + i * 4 + 2, none⟩ = some (.int .i64 xb) := fun q => (hc.keep (q.same _ hc.lt id)).c2
      have x3 : ∀ q : Ext W1, q.w.cell? ⟨b, off + i * 4 + 3, none⟩ = some (.string xs) := fun q => (hc.keep (q.same _ hc.lt id)).c3
      clear hkb'
      have hE : ∀ w, (Op.equalIn 10000 23 (.agg #[.int .i64 kd, .int .i64 ka, .int .i64 kb, .string ks']) (.agg #[.int .i64 xd, .int .i64 xa, .int .i64 xb, .string xs])).run Try.prog w = .ok (decide ((⟨kd, ka, kb, ks'⟩ : Key) = ⟨xd, xa, xb, xs⟩)) w := hEq ⟨kd, ka, kb, ks'⟩ ⟨xd, xa, xb, xs⟩
      clear hEq
      by_cases hk : (⟨kd, ka, kb, ks'⟩ : Key) = ⟨xd, xa, xb, xs⟩
      · rw [decide_eq_true hk] at hE
        have Hk : Hid ((⟨kd, ka, kb, ks'⟩ : Key) = ⟨xd, xa, xb, xs⟩) := hk
        clear hk
        go_wp2_with fail
        refine wp_region_ch NoS (by kernel_rfl) (by kernel_rfl) (fun q hq => ?_)
        clear hq
        (repeat (first | (refine wpMix_skip rfl rfl ?_) | (refine wpMix_step (fun K hK => ?_); go_simp; (with_reducible (refine hK _ _ ?_)); clear hK K)))
        refine wpMix_nil ?_
        go_wp2_with fail
        go_ret
        refine ⟨i, rfl, ?_, hfin q⟩
        have : (⟨kd, ka, kb, ks'⟩ : Key) ∈ ks := by rw [Hk.out]; exact List.mem_of_getElem? Hx.out
        simp [this]
      · rw [decide_eq_false hk] at hE
        have Hk : Hid (¬ (⟨kd, ka, kb, ks'⟩ : Key) = ⟨xd, xa, xb, xs⟩) := hk
        clear hk
        go_wp2_with fail
        refine wp_region_ch NoS (by kernel_rfl) (by kernel_rfl) (fun q hq => ?_)
        clear hq
        (repeat (first | (refine wpMix_skip rfl rfl ?_) | (refine wpMix_step (fun K hK => ?_); go_simp; (with_reducible (refine hK _ _ ?_)); clear hK K)))
        refine wpMix_nil ?_
        go_wp2_with fail
        go_roundw
        case rel =>
          refine ⟨finp q, i + 1, by go_num, by omega, ?_⟩
          have h2 : i < ks.length := by have := HN.out; omega
          rw [List.take_add_one, Hx.out]
          intro k' hk'
          rcases List.mem_append.1 hk' with h | h
          · exact Hne.out k' h
          · have : k' = ⟨xd, xa, xb, xs⟩ := by simpa using h
            rw [this]
            exact fun e => Hk.out e.symm
        case measure => simp [intOf]; omega
    · go_wp2_with fail
      go_ret
      refine ⟨-1, rfl, ?_, fin p⟩
      have h2 : ks.take i = ks := List.take_of_length_le (by have := HN.out; omega)
      have h3 := Hne.out
      rw [h2] at h3
      have : (⟨kd, ka, kb, ks'⟩ : Key) ∉ ks := fun h => h3 _ h rfl
      simp [this]

set_option maxRecDepth 4000 in
theorem contains_any (fa : Option Addr) (n cap : Nat) (ks : List Key) (k : Key) (w : World) (h : KeysIn w fa ks) (hn : n = ks.length) (hb : n < 4611686018427387904) :
    Calls Try.prog 131 #[.slice fa n cap, keyV k] w fun e w' => e = .returned (.bool (decide (k ∈ ks))) ∧ ∃ p : Ext w, w' = p.w := by
  obtain ⟨kd, ka, kb, ks'⟩ := k
  have h1 : KeysIn (w.alloc (.cells (keyCells kd ka kb ks') 23)) fa ks := h.ext ((Ch.refl NoS w).alloc _)
  have HN : Hid (n = ks.length) := hn
  clear hn
  go_enter Try.func131, Try.ntmps131
  go_wp2_with (go_at_call 197; go_must (refine (index_any fa n cap ks ⟨kd, ka, kb, ks'⟩ (w.alloc (.cells (keyCells kd ka kb ks') 23)) h1 HN.out hb).mono ?_); rintro e w' ⟨r, rfl, hr, p, rfl⟩)
  go_ret
  refine ⟨?_, ((Ch.refl NoS w).alloc _).thenE p, rfl⟩
  by_cases hk : (⟨kd, ka, kb, ks'⟩ : Key) ∈ ks
  · have := hr.2 hk
    simp [hk, this]
  · have : ¬ 0 ≤ r := fun e => hk (hr.1 e)
    simp [hk, this]
end Go.Proofs.Cob
