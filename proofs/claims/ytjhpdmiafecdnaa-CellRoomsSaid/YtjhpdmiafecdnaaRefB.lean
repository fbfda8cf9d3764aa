/-
  The reference's store (layer 9): Find, walked.
-/
import Derived.Test.YtjhpdmiafecdnaaRefA
namespace Go.Proofs.Cob
open Go Go.RowKit Go.Cob
set_option linter.unusedSimpArgs false
set_option linter.unusedVariables false

theorem RCell.keep {w w' : World} {b o : Nat} {c : RC} (h : RCell w b o c) (e : w'.heap[b]? = w.heap[b]?) : RCell w' b o c := by
  have hc : ∀ i, w'.cell? ⟨b, i, none⟩ = w.cell? ⟨b, i, none⟩ := fun i => World.cell?_of_block (a := ⟨b, i, none⟩) e
  exact ⟨(hc _).trans h.c0, (hc _).trans h.c1, (hc _).trans h.c2, (hc _).trans h.c3, (hc _).trans h.c4, (hc _).trans h.c5, (hc _).trans h.c6, (hc _).trans h.c7, (hc _).trans h.c8⟩
theorem RCell.lt {w : World} {b o : Nat} {c : RC} (h : RCell w b o c) : b < w.heap.size := by
  have := World.block_lt_of_cell? w _ h.c0
  exact this

set_option maxRecDepth 4000 in
set_option maxHeartbeats 1600000 in
theorem find_any (r : Nat) (v : Value) (room : Int) (cs : List RC) (k : Key) (w : World) (h : RefAt w r v room cs) (hb : cs.length < 4611686018427387904) :
    Calls Try.prog 98 #[.pointer (some ⟨r, 0, none⟩), keyV k] w fun e w' => e = .returned (.int .i64 (idxR cs k)) ∧ ∃ p : Ext w, w' = p.w := by
  obtain ⟨kd, ka, kb, ks'⟩ := k
  obtain ⟨W, hW⟩ : ∃ W, W = w.alloc (.cells (keyCells kd ka kb ks') 23) := ⟨_, rfl⟩
  obtain ⟨bk, hbk⟩ : ∃ bk, bk = w.heap.size := ⟨_, rfl⟩
  have hkb : W.heap[bk]? = some (.cells (keyCells kd ka kb ks') 23 (0, 0)) := by rw [hW, hbk]; exact heap_alloc_at _ _
  have hR : RefAt W r v room cs := by rw [hW]; exact h.ext ((Ch.refl NoS w).alloc _)
  have fin : ∀ p : Ext W, ∃ q : Ext w, p.w = q.w := fun p => ⟨((Ch.refl NoS w).alloc _).onto hW p (fun b hb h => h), rfl⟩
  obtain ⟨fa, cap, hfv, hcap, hfa⟩ := row_form h.row
  obtain ⟨n, hn⟩ : ∃ n, n = cs.length := ⟨_, rfl⟩
  rw [← hn] at hfv hcap hfa hb
  have HN : Hid (n = cs.length) := hn
  have HV : Hid (v = .slice fa n cap) := hfv
  clear h hn
  have hEq := run_eq_key
  go_enter Try.func98, Try.ntmps98
  go_wp2_with fail
  rw [← hbk, ← hW]
  clear hW hbk
  go_loopw [5] (fun u w' => (∃ p : Ext W, w' = p.w) ∧ ∃ i : Nat, u = .int .i64 i ∧ i ≤ n ∧ ∀ c ∈ cs.take i, c.k ≠ ⟨kd, ka, kb, ks'⟩) (fun u _ => n - (intOf u).toNat)
  case atStart => exact ⟨⟨Ch.refl NoS _, rfl⟩, 0, rfl, by omega, by simp⟩
  case round =>
    obtain ⟨⟨p, rfl⟩, i, rfl, hi, hne⟩ := hrel
    have Hne : Hid (∀ c ∈ cs.take i, c.k ≠ (⟨kd, ka, kb, ks'⟩ : Key)) := hne
    clear hne
    have hRp := hR.ext p
    have hst := hRp.st
    rw [hfv] at hst
    have s1 := cell_at 1 hst
    by_cases h1 : i < n
    · have h1' : i < cs.length := by have := HN.out; omega
      obtain ⟨x, hx⟩ : ∃ x, cs[i]? = some x := ⟨_, List.getElem?_eq_getElem h1'⟩
      obtain ⟨g, cap', hv', hc, -⟩ := hRp.get hx
      have hcap' : fa = some ⟨g, 0, none⟩ := by
        rw [HV.out] at hv'
        simp only [Value.slice.injEq] at hv'
        exact hv'.1
      subst hcap'
      have hkb' := p.blkE hkb
      have finp : ∀ q : Ext p.w, ∃ q' : Ext W, q.w = q'.w := fun q => ⟨p.thenE q, rfl⟩
      have hfin : ∀ q : Ext p.w, ∃ q' : Ext w, q.w = q'.w := fun q => fin (p.thenE q)
      have Hx : Hid (cs[i]? = some x) := hx
      obtain ⟨⟨xd, xa, xb, xs⟩, xw, xh, xt, xl, xo⟩ := x
      have HV2 : Hid _ := hv'
      clear h1' hx hkb fin hR hRp hv' hfv hfa
      generalize p.w = W1 at *
      clear p
      have k0 : ∀ q : Ext W1, q.w.cell? ⟨bk, 0, none⟩ = some (.int .i64 kd) := fun q => cell_at 0 (q.blkE hkb')
      have k1 : ∀ q : Ext W1, q.w.cell? ⟨bk, 1, none⟩ = some (.int .i64 ka) := fun q => cell_at 1 (q.blkE hkb')
      have k2 : ∀ q : Ext W1, q.w.cell? ⟨bk, 2, none⟩ = some (.int .i64 kb) := fun q => cell_at 2 (q.blkE hkb')
      have k3 : ∀ q : Ext W1, q.w.cell? ⟨bk, 3, none⟩ = some (.string ks') := fun q => cell_at 3 (q.blkE hkb')
      have s1' : ∀ q : Ext W1, q.w.cell? ⟨r, 1, none⟩ = some (.slice (some ⟨g, 0, none⟩) n cap) := fun q => cell_at 1 (q.blkE hst)
      have x0 : ∀ q : Ext W1, q.w.cell? ⟨g, i * 9, none⟩ = some (.int .i64 xd) := fun q => (hc.keep (q.same _ hc.lt id)).c0
      have x1 : ∀ q : Ext W1, q.w.cell? ⟨g, i * 9 + 1, none⟩ = some (.int .i64 xa) := fun q => (hc.keep (q.same _ hc.lt id)).c1
      have x2 : ∀ q : Ext W1, q.w.cell? ⟨g, i * 9 + 2, none⟩ = some (.int .i64 xb) := fun q => (hc.keep (q.same _ hc.lt id)).c2
      have x3 : ∀ q : Ext W1, q.w.cell? ⟨g, i * 9 + 3, none⟩ = some (.string xs) := fun q => (hc.keep (q.same _ hc.lt id)).c3
      clear hkb' hst
      have hE : ∀ w, (Op.equalIn 10000 23 (.agg #[.int .i64 xd, .int .i64 xa, .int .i64 xb, .string xs]) (.agg #[.int .i64 kd, .int .i64 ka, .int .i64 kb, .string ks'])).run Try.prog w = .ok (decide ((⟨xd, xa, xb, xs⟩ : Key) = ⟨kd, ka, kb, ks'⟩)) w := hEq ⟨xd, xa, xb, xs⟩ ⟨kd, ka, kb, ks'⟩
      clear hEq
      by_cases hk : (⟨xd, xa, xb, xs⟩ : Key) = ⟨kd, ka, kb, ks'⟩
      · rw [decide_eq_true hk] at hE
        have Hk : Hid _ := hk
        clear hk
        go_wp2_with fail
        refine wp_region_ch NoS (by kernel_rfl) (by kernel_rfl) (fun q hq => ?_)
        clear hq
        (repeat (first | (refine wpMix_skip rfl rfl ?_) | (refine wpMix_step (fun K hK => ?_); go_simp; (with_reducible (refine hK _ _ ?_)); clear hK K)))
        refine wpMix_nil ?_
        go_wp2_with fail
        go_ret
        refine ⟨?_, hfin q⟩
        have e : idxR cs ⟨kd, ka, kb, ks'⟩ = i := by unfold idxR; rw [findR_at Hx.out Hk.out Hne.out]
        rw [e]; rfl
      · rw [decide_eq_false hk] at hE
        have Hk : Hid _ := hk
        clear hk
        go_wp2_with fail
        refine wp_region_ch NoS (by kernel_rfl) (by kernel_rfl) (fun q hq => ?_)
        clear hq
        (repeat (first | (refine wpMix_skip rfl rfl ?_) | (refine wpMix_step (fun K hK => ?_); go_simp; (with_reducible (refine hK _ _ ?_)); clear hK K)))
        refine wpMix_nil ?_
        go_wp2_with fail
        go_roundw
        case rel =>
          refine ⟨finp q, i + 1, by go_num, by omega, ?_⟩
          rw [take_snoc Hx.out]
          intro c' hc'
          rcases List.mem_append.1 hc' with h | h
          · exact Hne.out c' h
          · have : c' = ⟨⟨xd, xa, xb, xs⟩, xw, xh, xt, xl, xo⟩ := by simpa using h
            rw [this]
            exact Hk.out
        case measure => simp [intOf]; omega
    · go_wp2_with fail
      go_ret
      refine ⟨?_, fin p⟩
      have h2 : cs.take i = cs := List.take_of_length_le (by have := HN.out; omega)
      have h3 := Hne.out
      rw [h2] at h3
      have e : idxR cs ⟨kd, ka, kb, ks'⟩ = -1 := by unfold idxR; rw [findR_none h3]
      rw [e]; rfl
end Go.Proofs.Cob
