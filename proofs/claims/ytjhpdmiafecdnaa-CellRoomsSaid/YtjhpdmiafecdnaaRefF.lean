/-
  The reference's store (layer 9): Lock.
-/
import Derived.Test.YtjhpdmiafecdnaaRefE
namespace Go.Proofs.Cob
open Go Go.RowKit Go.Cob
set_option linter.unusedSimpArgs false
set_option linter.unusedVariables false

def refLock (room : Int) (cs : List RC) (k : Key) (who : Int) : (Int × Int) × List RC :=
  match getR cs k with
  | some (i, c) => if c.locked then ((0, 60), cs) else ((c.wd, 0), cs.set i { c with locked := true, who := who })
  | none => if room ≤ cs.length then ((0, 50), cs) else ((0, 0), cs ++ [⟨k, 0, false, ⟨#[]⟩, true, who⟩])

theorem info46 : ∃ i z, Try.prog.info? 46 = some i ∧ i.zero = some z ∧ i.size = 9 ∧ i.bytes = 88 ∧ z.cells.size = 9 :=
  ⟨(Try.prog.info? 46).get (by kernel_rfl), ((Try.prog.info? 46).get (by kernel_rfl)).zero.get (by kernel_rfl), (Option.some_get _).symm, (Option.some_get _).symm, by kernel_rfl, by kernel_rfl, by kernel_rfl⟩

set_option maxRecDepth 4000 in
set_option maxHeartbeats 3200000 in
theorem refLock_some (r : Nat) (room : Int) (cs : List RC) (G : Nat → Prop) (k : Key) (who : Int) (w : World) (h : RefM w r room cs G) (hb : cs.length < 4611686018427387904) (i : Nat) (c : RC) (hg : getR cs k = some (i, c)) :
    Calls Try.prog 124 #[.pointer (some ⟨r, 0, none⟩), keyV k, .int .i64 who] w fun e w' => e = .returned (.tuple #[.int .u64 (refLock room cs k who).1.1, .int .i64 (refLock room cs k who).1.2]) ∧ ∃ p : Ch G w, w' = p.w ∧ RefM p.w r room (refLock room cs k who).2 G := by
  obtain ⟨kd, ka, kb, ks'⟩ := k
  obtain ⟨⟨v, h1, h2⟩, h3⟩ := h
  have hR' : RefAt (w.alloc (.cells (keyCells kd ka kb ks') 23)) r v room cs := h1.ext ((Ch.refl NoS w).alloc _)
  have fin : ∀ p : Ch G (w.alloc (.cells (keyCells kd ka kb ks') 23)), ∃ q : Ch G w, p.w = q.w := fun p => ⟨((Ch.refl _ w).alloc _).then p (fun b hb h => h), rfl⟩
  obtain ⟨hix, hx, hck⟩ := getR_some hg
  have e : refLock room cs ⟨kd, ka, kb, ks'⟩ who = if c.locked then ((0, 60), cs) else ((c.wd, 0), cs.set i { c with locked := true, who := who }) := by unfold refLock; rw [hg]
  rw [e]
  have hi : i < cs.length := (List.getElem?_eq_some_iff.1 hx).1
  obtain ⟨⟨xd, xa, xb, xs⟩, xw, xh, xt, xl, xo⟩ := c
  have Hx : Hid _ := hx
  clear e hg hck hx h1
  cases xl
  · simp only [Bool.false_eq_true, if_false]
    go_enter Try.func124, Try.ntmps124
    go_wp2_with fail
    go_at_call 98
    have hcc := find_any r v room cs ⟨kd, ka, kb, ks'⟩ _ hR' hb
    rw [hix] at hcc
    refine hcc.mono ?_
    clear hcc
    rintro e w' ⟨rfl, p, rfl⟩
    have hR2 := hR'.ext p
    have fin2 : ∀ s : Ch G p.w, ∃ s' : Ch G w, s.w = s'.w := fun s => fin ((p.up G).then s (fun _ _ h => h))
    clear hR' fin
    generalize p.w = W2 at *
    clear p
    obtain ⟨g, cap, hv, hc, hfz⟩ := hR2.get Hx.out
    rw [hv] at hR2
    have hg2 : G g := h2 g (by rw [hv]; rfl)
    have hrg : r ≠ g := by
      obtain ⟨cur, hgb⟩ := rowBlk hR2.row rfl
      exact blkNe hR2.st hgb (by decide)
    have s1 := cell_at 1 hR2.st
    have x4 := hc.c4
    have x7 := hc.c7
    have x8 := hc.c8
    have f7 := hfz (i * 9 + 7)
    have f8 := hfz (i * 9 + 8)
    have HR2 : Hid _ := hR2
    clear hR2 hc hv
    go_wp2_with fail
    go_ret2
    have hRa := RefAt.put (c' := ⟨⟨xd, xa, xb, xs⟩, xw, xh, xt, true, xo⟩) (j := 7) (u := .bool true) HR2.out Hx.out (by decide) rfl
    have hRb := RefAt.put (c := ⟨⟨xd, xa, xb, xs⟩, xw, xh, xt, true, xo⟩) (c' := ⟨⟨xd, xa, xb, xs⟩, xw, xh, xt, true, who⟩) (i := i) (j := 8) (u := .int .i64 who) hRa (by simp [hi]) (by decide) rfl
    rw [List.set_set] at hRb
    obtain ⟨s, hs⟩ := fin2 (((Ch.refl G W2).set g (i * 9 + 7) (.bool true) (fun _ => hg2)).set g (i * 9 + 8) (.int .i64 who) (fun _ => hg2))
    refine ⟨rfl, s, hs, hs ▸ ⟨⟨_, hRb, fun b hb => ?_⟩, h3⟩⟩
    have : g = b := by simpa [Value.ownBlock] using hb
    exact this ▸ hg2
  · simp only [if_true]
    go_enter Try.func124, Try.ntmps124
    go_wp2_with fail
    go_at_call 98
    have hcc := find_any r v room cs ⟨kd, ka, kb, ks'⟩ _ hR' hb
    rw [hix] at hcc
    refine hcc.mono ?_
    clear hcc
    rintro e w' ⟨rfl, p, rfl⟩
    have hR2 := hR'.ext p
    have fin2 : ∀ s : Ch G p.w, ∃ s' : Ch G w, s.w = s'.w := fun s => fin ((p.up G).then s (fun _ _ h => h))
    clear hR' fin
    generalize p.w = W2 at *
    clear p
    obtain ⟨g, cap, hv, hc, hfz⟩ := hR2.get Hx.out
    have HR3 : Hid _ := hR2
    rw [hv] at hR2
    have s1 := cell_at 1 hR2.st
    have x7 := hc.c7
    clear hR2 hc hv
    go_wp2_with fail
    go_ret2
    obtain ⟨s, hs⟩ := fin2 (Ch.refl G W2)
    exact ⟨rfl, s, hs, hs ▸ ⟨⟨v, HR3.out, h2⟩, h3⟩⟩

theorem news_of (w : World) (cs : Array Value) (t : TypeId) : ∀ j u, cs.toList[j]? = some u → (w.alloc (.cells cs t)).cell? ((⟨w.heap.size, 0, none⟩ : Addr).add j) = some u := by
  intro j u hj
  have := cell_at j (heap_alloc_at w (.cells cs t))
  have e : ((⟨w.heap.size, 0, none⟩ : Addr).add j) = ⟨w.heap.size, j, none⟩ := by cases j <;> simp [Addr.add]
  rw [e, this]
  simpa using hj
theorem rowRC_snoc (cs : List RC) (c : RC) : rowRC (cs ++ [c]) = rowRC cs ++ encRC c := by simp [rowRC]

set_option maxRecDepth 4000 in
set_option maxHeartbeats 3200000 in
theorem refLock_none (r : Nat) (room : Int) (cs : List RC) (G : Nat → Prop) (k : Key) (who : Int) (w : World) (h : RefM w r room cs G) (hG : ∀ b, w.heap.size ≤ b → G b) (hb : cs.length < 1000000000000) (hg : getR cs k = none) :
    Calls Try.prog 124 #[.pointer (some ⟨r, 0, none⟩), keyV k, .int .i64 who] w fun e w' => e = .returned (.tuple #[.int .u64 (refLock room cs k who).1.1, .int .i64 (refLock room cs k who).1.2]) ∧ ∃ p : Ch G w, w' = p.w ∧ RefM p.w r room (refLock room cs k who).2 G := by
  obtain ⟨kd, ka, kb, ks'⟩ := k
  obtain ⟨⟨v, h1, h2⟩, h3⟩ := h
  have hR' : RefAt (w.alloc (.cells (keyCells kd ka kb ks') 23)) r v room cs := h1.ext ((Ch.refl NoS w).alloc _)
  have hkb : (w.alloc (.cells (keyCells kd ka kb ks') 23)).heap[w.heap.size]? = some (.cells (keyCells kd ka kb ks') 23 (0, 0)) := heap_alloc_at _ _
  have fin : ∀ p : Ch G (w.alloc (.cells (keyCells kd ka kb ks') 23)), ∃ q : Ch G w, p.w = q.w := fun p => ⟨((Ch.refl _ w).alloc _).then p (fun b hb h => h), rfl⟩
  have hix := getR_none hg
  have e : refLock room cs ⟨kd, ka, kb, ks'⟩ who = if room ≤ cs.length then ((0, 50), cs) else ((0, 0), cs ++ [⟨⟨kd, ka, kb, ks'⟩, 0, false, ⟨#[]⟩, true, who⟩]) := by unfold refLock; rw [hg]
  rw [e]
  obtain ⟨res, hres⟩ : ∃ res, res = (if room ≤ cs.length then (((0 : Int), (50 : Int)), cs) else ((0, 0), cs ++ [⟨⟨kd, ka, kb, ks'⟩, 0, false, ⟨#[]⟩, true, who⟩])) := ⟨_, rfl⟩
  rw [← hres]
  have HRes : Hid _ := hres
  clear e hg h1 hres
  obtain ⟨fa, cap, hfv, hcap, hfa⟩ := row_form hR'.row
  go_enter Try.func124, Try.ntmps124
  go_wp2_with fail
  go_at_call 98
  have hcc := find_any r v room cs ⟨kd, ka, kb, ks'⟩ _ hR' (by omega)
  rw [hix] at hcc
  refine hcc.mono ?_
  clear hcc
  rintro e w' ⟨rfl, p, rfl⟩
  have hR2 := hR'.ext p
  have hkb2 := p.blkE hkb
  have fin2 : ∀ s : Ch G p.w, ∃ s' : Ch G w, s.w = s'.w := fun s => fin ((p.up G).then s (fun _ _ h => h))
  have hsz2 : w.heap.size < p.w.heap.size := lt_of_blk hkb2
  have hG2 : ∀ b, p.w.heap.size ≤ b → G b := fun b hb => hG b (by omega)
  clear hR' fin hkb
  generalize p.w = W2 at *
  clear p
  obtain ⟨bk, hbk⟩ : ∃ bk, bk = w.heap.size := ⟨_, rfl⟩
  rw [← hbk] at hkb2 hsz2 ⊢
  obtain ⟨n, hn⟩ : ∃ n, n = cs.length := ⟨_, rfl⟩
  rw [← hn] at hfv hcap hfa hb
  have HN : Hid _ := hn
  have HV : Hid _ := hfv
  clear hbk hn hG hfa
  have hrow := hR2.row
  have hst := hR2.st
  have hrb : ∀ b, v.ownBlock = some b → r ≠ b := fun b hb => by obtain ⟨cur, hc⟩ := rowBlk hrow hb; exact blkNe hst hc (by decide)
  have hkbn : ∀ b, v.ownBlock = some b → bk ≠ b := fun b hb => by obtain ⟨cur, hc⟩ := rowBlk hrow hb; exact blkNe hkb2 hc (by decide)
  have hrk : r ≠ bk := blkNe hst hkb2 (by decide)
  by_cases hroom : room ≤ (n : Int)
  · have hres2 := HRes.out
    rw [← HN.out, if_pos hroom] at hres2
    have HRes2 : Hid _ := hres2
    clear hres2
    have s1 : ∀ p : Ext W2, p.w.cell? ⟨r, 1, none⟩ = some (.slice fa n cap) := fun p => by rw [← hfv]; exact cell_at 1 (p.blkE hst)
    have s0 : ∀ p : Ext W2, p.w.cell? ⟨r, 0, none⟩ = some (.int .i64 room) := fun p => cell_at 0 (p.blkE hst)
    clear hfv hst hkb2 hrow
    go_wp2_with fail
    refine wp_region_ch NoS (by kernel_rfl) (by kernel_rfl) (fun p hp => ?_)
    clear hp
    (repeat (first | (refine wpMix_skip rfl rfl ?_) | (refine wpMix_step (fun K hK => ?_); go_simp; (with_reducible (refine hK _ _ ?_)); clear hK K)))
    refine wpMix_nil ?_
    go_wp2_with fail
    go_ret2
    obtain ⟨s, hs⟩ := fin2 (p.up G)
    rw [HRes2.out]
    exact ⟨rfl, s, hs, by rw [← show p.w = s.w from hs]; exact ⟨⟨v, hR2.ext p, h2⟩, h3⟩⟩
  · have hres2 := HRes.out
    rw [← HN.out, if_neg hroom] at hres2
    have HRes2 : Hid _ := hres2
    clear hres2
    have s1 : ∀ p : Ext W2, p.w.cell? ⟨r, 1, none⟩ = some (.slice fa n cap) := fun p => by rw [← hfv]; exact cell_at 1 (p.blkE hst)
    have s0 : ∀ p : Ext W2, p.w.cell? ⟨r, 0, none⟩ = some (.int .i64 room) := fun p => cell_at 0 (p.blkE hst)
    clear hfv
    go_wp2_with fail
    refine wp_region_ch NoS (by kernel_rfl) (by kernel_rfl) (fun p hp => ?_)
    clear hp
    (repeat (first | (refine wpMix_skip rfl rfl ?_) | (refine wpMix_step (fun K hK => ?_); go_simp; (with_reducible (refine hK _ _ ?_)); clear hK K)))
    refine wpMix_nil ?_
    have hR3 := hR2.ext p
    have hst3 := p.blkE hst
    have hkb3 := p.blkE hkb2
    have fin3 : ∀ s : Ch G p.w, ∃ s' : Ch G w, s.w = s'.w := fun s => fin2 ((p.up G).then s (fun _ _ h => h))
    have hG3 : ∀ b, p.w.heap.size ≤ b → G b := fun b hb => hG2 b (by have := p.size; omega)
    clear s0 s1 hst hkb2 fin2 hG2 hR2 hrow hsz2
    generalize p.w = W3 at *
    clear p W2
    go_wp2_with fail
    obtain ⟨i0, z0, hi, hz0, hz1, hz2, hz3⟩ := info46
    have k0 : ∀ p : Ch (fun b => v.ownBlock = some b) W3, p.w.cell? ⟨bk, 0, none⟩ = some (.int .i64 kd) := fun p => cell_at 0 (p.blk hkb3 (fun e => hkbn _ e rfl))
    have k1 : ∀ p : Ch (fun b => v.ownBlock = some b) W3, p.w.cell? ⟨bk, 1, none⟩ = some (.int .i64 ka) := fun p => cell_at 1 (p.blk hkb3 (fun e => hkbn _ e rfl))
    have k2 : ∀ p : Ch (fun b => v.ownBlock = some b) W3, p.w.cell? ⟨bk, 2, none⟩ = some (.int .i64 kb) := fun p => cell_at 2 (p.blk hkb3 (fun e => hkbn _ e rfl))
    have k3 : ∀ p : Ch (fun b => v.ownBlock = some b) W3, p.w.cell? ⟨bk, 3, none⟩ = some (.string ks') := fun p => cell_at 3 (p.blk hkb3 (fun e => hkbn _ e rfl))
    have s1 : ∀ p : Ch (fun b => v.ownBlock = some b) W3, p.w.cell? ⟨r, 1, none⟩ = some v := fun p => cell_at 1 (p.blk hst3 (fun e => hrb _ e rfl))
    have f1 : ∀ p : Ch (fun b => v.ownBlock = some b) W3, p.w.frozen? ⟨r, 1, none⟩ = false := fun p => frozen_at 1 (p.blk hst3 (fun e => hrb _ e rfl))
    refine wp_region_lch (fun b => v.ownBlock = some b) (by kernel_rfl) (by repeat constructor) (by kernel_rfl) (by kernel_rfl) (fun p hp => ?_)
    have hrp : p.w.ownsRow 0 46 9 v n (rowRC cs) := by rw [HN.out]; exact rowKeep hR3.row (fun k hk => by rw [hp])
    clear hp
    (repeat (first | (refine wpMix_skip rfl rfl ?_) | (refine wpMix_step (fun K hK => ?_); go_simp; (with_reducible (refine hK _ _ ?_)); clear hK K)))
    refine wpMix_step (fun K hK => ?_); go_simp
    refine ⟨⟨p.alloc _, rfl⟩, hK _ _ ?_⟩; clear hK K
    refine wpMix_append rfl _ _ 47 rfl 46 i0 z0 9 88 Try.underlying47 hi hz0 hz1 hz2 hz3 (by decide) v n (rowRC cs) rfl (hrp.alloc _) ⟨p.w.heap.size, 0, none⟩ 1 1 (encRC ⟨⟨kd, ka, kb, ks'⟩, 0, false, ⟨#[]⟩, false, 0⟩) rfl rfl (news_of _ _ _) (by simp [Value.oneCell']) (by decide) (by unfold maxLen; omega) (by omega) ?_
    intro g cap2 w' hown hgrow hat hlt
    obtain ⟨q, hq⟩ : ∃ q : Ch (fun b => v.ownBlock = some b) W3, w' = q.w := ⟨(p.alloc _).grown hgrow (fun b _ e => e), rfl⟩
    have Hps : Hid (W3.heap.size ≤ p.w.heap.size) := p.size
    subst hq
    refine ⟨⟨q, rfl⟩, ?_⟩
    have hgG : G g := by
      rcases hat with h | h
      · exact h2 g h
      · refine hG3 g ?_
        have h4 := Hps.out
        rw [h]; simp; omega
    have hgr : g ≠ r := by
      rcases hat with h | h
      · exact fun e => hrb g h e.symm
      · have h4 := Hps.out
        have h5 := lt_of_blk hst3
        intro e; rw [e] at h; simp at h; omega
    have Hown : Hid _ := hown
    clear hgrow hrp hlt hat hown
    (repeat (first | (refine wpMix_skip rfl rfl ?_) | (refine wpMix_step (fun K hK => ?_); go_simp; (with_reducible (refine hK _ _ ?_)); clear hK K)))
    refine wpMix_nil ?_
    refine last_step (fun K hK => ?_); go_simp; (with_reducible (refine hK _ _ ?_)); clear hK K
    have hst4 : (q.w.setCell ⟨r, 1, none⟩ (.slice (some ⟨g, 0, none⟩) (n + 1) cap2)).heap[r]? = some (.cells #[.int .i64 room, .slice (some ⟨g, 0, none⟩) (n + 1) cap2] 49 (0, 0)) := by
      have := heap_set_same (q.blk hst3 (fun e => hrb _ e rfl)) 1 (.slice (some ⟨g, 0, none⟩) (n + 1) cap2)
      simpa using this
    have hlen : (cs ++ [(⟨⟨kd, ka, kb, ks'⟩, 0, false, ⟨#[]⟩, false, 0⟩ : RC)]).length = n + 1 := by simp [HN.out]
    have hRA : RefAt (q.w.setCell ⟨r, 1, none⟩ (.slice (some ⟨g, 0, none⟩) (n + 1) cap2)) r (.slice (some ⟨g, 0, none⟩) (n + 1) cap2) room (cs ++ [⟨⟨kd, ka, kb, ks'⟩, 0, false, ⟨#[]⟩, false, 0⟩]) := by
      refine ⟨hst4, ?_⟩
      rw [hlen, rowRC_snoc]
      refine rowKeep Hown.out (fun b hb => ?_)
      have : g = b := by simpa [Value.ownBlock] using hb
      subst this
      rw [heap_set_other hgr]
    have fin4 : ∀ s : Ch G (q.w.setCell ⟨r, 1, none⟩ (.slice (some ⟨g, 0, none⟩) (n + 1) cap2)), ∃ s' : Ch G w, s.w = s'.w := fun s =>
      fin3 (((q.mono (T := G) (fun b _ e => h2 b e)).set r 1 _ (fun _ => h3)).then s (fun _ _ h => h))
    have HRA : Hid _ := hRA
    have Hfin4 : Hid _ := fin4
    clear hRA fin4 hst4 fin3 k0 k1 k2 k3 s1 f1 hst3 hkb3 hR3 hG3 hkbn hrb
    generalize World.setCell q.w _ _ = W4 at HRA Hfin4 ⊢
    have hxl : (cs ++ [(⟨⟨kd, ka, kb, ks'⟩, 0, false, ⟨#[]⟩, false, 0⟩ : RC)])[n]? = some ⟨⟨kd, ka, kb, ks'⟩, 0, false, ⟨#[]⟩, false, 0⟩ := by rw [HN.out]; simp
    have s1 : W4.cell? ⟨r, 1, none⟩ = some (.slice (some ⟨g, 0, none⟩) (n + 1) cap2) := cell_at 1 HRA.out.st
    have y4 : W4.cell? ⟨g, n * 9 + 4, none⟩ = some (.int .u64 0) := HRA.out.cellj hxl 4 (by decide)
    have y7 : W4.cell? ⟨g, n * 9 + 7, none⟩ = some (.bool false) := HRA.out.cellj hxl 7 (by decide)
    have y8 : W4.cell? ⟨g, n * 9 + 8, none⟩ = some (.int .i64 0) := HRA.out.cellj hxl 8 (by decide)
    have f7 : W4.frozen? ⟨g, n * 9 + 7, none⟩ = false := HRA.out.frozj _
    have f8 : W4.frozen? ⟨g, n * 9 + 8, none⟩ = false := HRA.out.frozj _
    have Hxl : Hid _ := hxl
    have Hlen : Hid _ := hlen
    clear hxl hlen
    go_wp2_with fail
    go_ret2
    rw [HRes2.out]
    have hRA := HRA.out
    have hl2 : (cs ++ [(⟨⟨kd, ka, kb, ks'⟩, 0, false, ⟨#[]⟩, false, 0⟩ : RC)]).length = n + 1 := Hlen.out
    rw [← hl2] at hRA
    have hRB := RefAt.put (c' := ⟨⟨kd, ka, kb, ks'⟩, 0, false, ⟨#[]⟩, true, 0⟩) (j := 7) (u := .bool true) hRA Hxl.out (by decide) rfl
    have hRC := RefAt.put (c := ⟨⟨kd, ka, kb, ks'⟩, 0, false, ⟨#[]⟩, true, 0⟩) (c' := ⟨⟨kd, ka, kb, ks'⟩, 0, false, ⟨#[]⟩, true, who⟩) (i := n) (j := 8) (u := .int .i64 who) hRB (by rw [List.getElem?_set_self (by rw [hl2]; omega)]) (by decide) rfl
    rw [List.set_set] at hRC
    have hset : (cs ++ [(⟨⟨kd, ka, kb, ks'⟩, 0, false, ⟨#[]⟩, false, 0⟩ : RC)]).set n ⟨⟨kd, ka, kb, ks'⟩, 0, false, ⟨#[]⟩, true, who⟩ = cs ++ [⟨⟨kd, ka, kb, ks'⟩, 0, false, ⟨#[]⟩, true, who⟩] := by
      rw [HN.out, List.set_append_right _ _ (Nat.le_refl _)]; simp
    rw [hset] at hRC
    obtain ⟨s, hs⟩ := Hfin4.out (((Ch.refl G W4).set g (n * 9 + 7) (.bool true) (fun _ => hgG)).set g (n * 9 + 8) (.int .i64 who) (fun _ => hgG))
    refine ⟨rfl, s, hs, hs ▸ ⟨⟨_, hRC, fun b hb => ?_⟩, h3⟩⟩
    have : g = b := by simpa [Value.ownBlock] using hb
    exact this ▸ hgG

theorem refLock_any (r : Nat) (room : Int) (cs : List RC) (G : Nat → Prop) (k : Key) (who : Int) (w : World) (h : RefM w r room cs G) (hG : ∀ b, w.heap.size ≤ b → G b) (hb : cs.length < 1000000000000) :
    Calls Try.prog 124 #[.pointer (some ⟨r, 0, none⟩), keyV k, .int .i64 who] w fun e w' => e = .returned (.tuple #[.int .u64 (refLock room cs k who).1.1, .int .i64 (refLock room cs k who).1.2]) ∧ ∃ p : Ch G w, w' = p.w ∧ RefM p.w r room (refLock room cs k who).2 G := by
  cases hg : getR cs k with
  | none => exact refLock_none r room cs G k who w h hG hb hg
  | some ic => exact refLock_some r room cs G k who w h (by omega) ic.1 ic.2 hg
end Go.Proofs.Cob
