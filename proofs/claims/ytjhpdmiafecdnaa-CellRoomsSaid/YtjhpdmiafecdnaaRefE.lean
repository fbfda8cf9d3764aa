/-
  The reference's store (layer 9): Install.
-/
import Derived.Test.YtjhpdmiafecdnaaRefD
namespace Go.Proofs.Cob
open Go Go.RowKit Go.Cob
set_option linter.unusedSimpArgs false
set_option linter.unusedVariables false

theorem rowRC_set : ∀ {cs : List RC} {i : Nat} {c c' : RC} {j : Nat} {u : Value}, cs[i]? = some c → j < 9 → encRC c' = (encRC c).set j u → (rowRC cs).set (i * 9 + j) u = rowRC (cs.set i c')
  | [], i, c, c', j, u, h, hj, e => by simp at h
  | c0 :: cs, 0, c, c', j, u, h, hj, e => by
    have : c0 = c := by simpa using h
    subst this
    show (encRC c0 ++ rowRC cs).set (0 * 9 + j) u = encRC c' ++ rowRC cs
    rw [e, List.set_append_left _ _ (by simp; omega)]
    simp
  | c0 :: cs, i + 1, c, c', j, u, h, hj, e => by
    show (encRC c0 ++ rowRC cs).set ((i + 1) * 9 + j) u = encRC c0 ++ rowRC (cs.set i c')
    have hn : (i + 1) * 9 + j - (encRC c0).length = i * 9 + j := by simp; omega
    rw [List.set_append_right _ _ (by simp; omega), hn, rowRC_set (by simpa using h) hj e]

theorem RefAt.put {w : World} {r g cap : Nat} {room : Int} {cs : List RC} {i j : Nat} {c c' : RC} {u : Value} (h : RefAt w r (.slice (some ⟨g, 0, none⟩) cs.length cap) room cs) (hx : cs[i]? = some c) (hj : j < 9) (he : encRC c' = (encRC c).set j u) :
    RefAt (w.setCell ⟨g, i * 9 + j, none⟩ u) r (.slice (some ⟨g, 0, none⟩) (cs.set i c').length cap) room (cs.set i c') := by
  obtain ⟨cur, hg⟩ := rowBlk h.row rfl
  have hne : r ≠ g := blkNe h.st hg (by decide)
  refine ⟨?_, ?_⟩
  · rw [heap_set_other hne, List.length_set]; exact h.st
  · have := (h.row.stored (i * 9 + j) u).1
    rw [rowRC_set hx hj he] at this
    rw [List.length_set]; exact this

theorem RefAt.cellj {w : World} {r g cap n : Nat} {room : Int} {cs : List RC} {i : Nat} {c : RC} (h : RefAt w r (.slice (some ⟨g, 0, none⟩) n cap) room cs) (hx : cs[i]? = some c) (j : Nat) (hj : j < 9) : w.cell? ⟨g, i * 9 + j, none⟩ = (encRC c)[j]? := by
  have hi : i < cs.length := (List.getElem?_eq_some_iff.1 hx).1
  have hr := h.row
  have hn : n = cs.length := by
    rcases hr.2 with ⟨h', _⟩ | ⟨g', cap', cur, h', _⟩
    · simp at h'
    · simp only [Value.slice.injEq] at h'; exact h'.2.1
  subst hn
  rw [hr.cellAt (i * 9 + j) (by omega)]
  exact rowRC_get hx j hj
theorem RefAt.frozj {w : World} {r g cap n : Nat} {room : Int} {cs : List RC} (h : RefAt w r (.slice (some ⟨g, 0, none⟩) n cap) room cs) (o : Nat) : w.frozen? ⟨g, o, none⟩ = false := by
  have hr := h.row
  rcases hr.2 with ⟨h', _⟩ | ⟨g', cap', cur, h', _, hg, _⟩
  · simp at h'
  · simp only [Value.slice.injEq, Option.some.injEq, Addr.mk.injEq, and_true, true_and] at h'
    obtain ⟨rfl, -, -⟩ := h'
    exact frozen_at o hg

def refInstall (cs : List RC) (k : Key) (who stamp : Int) (vs : ByteArray) (has : Bool) : Int × List RC :=
  if refHolds cs k who then
    match getR cs k with
    | none => (51, cs)
    | some (i, c) => if decide (4611686018427387904 ≤ stamp) || decide (stamp ≤ c.wd) || (!vs.toList.isEmpty && !has) then (2, cs) else (0, cs.set i { c with wd := stamp, has := has, text := vs, locked := false })
  else (51, cs)

set_option maxRecDepth 4000 in
set_option maxHeartbeats 3200000 in
theorem refInstall_any (r : Nat) (room : Int) (cs : List RC) (G : Nat → Prop) (k : Key) (who stamp vw : Int) (vs : ByteArray) (has : Bool) (w : World) (h : RefM w r room cs G) (hb : cs.length < 4611686018427387904) :
    Calls Try.prog 126 #[.pointer (some ⟨r, 0, none⟩), keyV k, .int .i64 who, .int .u64 stamp, seenV vw vs has] w fun e w' => e = .returned (.int .i64 (refInstall cs k who stamp vs has).1) ∧ ∃ p : Ch G w, w' = p.w ∧ RefM p.w r room (refInstall cs k who stamp vs has).2 G := by
  obtain ⟨kd, ka, kb, ks'⟩ := k
  have h0 := h
  obtain ⟨⟨v, h1, h2⟩, h3⟩ := h
  obtain ⟨W, hW⟩ : ∃ W, W = (w.alloc (.cells (keyCells kd ka kb ks') 23)).alloc (.cells #[.int .u64 vw, .string vs, .bool has] 37) := ⟨_, rfl⟩
  have hR' : RefAt W r v room cs := by rw [hW]; exact (h1.ext ((Ch.refl NoS w).alloc (.cells (keyCells kd ka kb ks') 23))).ext ((Ch.refl NoS _).alloc _)
  have hM' : RefM W r room cs G := ⟨⟨v, hR', h2⟩, h3⟩
  have hob : W.heap[w.heap.size + 1]? = some (.cells #[.int .u64 vw, .string vs, .bool has] 37 (0, 0)) := by rw [hW]; exact heap_alloc_eq _ (by simp)
  have hkb : W.heap[w.heap.size]? = some (.cells (keyCells kd ka kb ks') 23 (0, 0)) := by rw [hW]; exact heap_alloc_blk _ (heap_alloc_at _ _)
  have fin : ∀ p : Ch G W, ∃ q : Ch G w, p.w = q.w := fun p => ⟨(((Ch.refl _ w).alloc _).alloc _).onto hW p (fun b hb h => h), rfl⟩
  have k0 := cell_at 0 hkb
  have k1 := cell_at 1 hkb
  have k2 := cell_at 2 hkb
  have k3 := cell_at 3 hkb
  clear h1
  cases hh : refHolds cs ⟨kd, ka, kb, ks'⟩ who with
  | false =>
    have e : refInstall cs ⟨kd, ka, kb, ks'⟩ who stamp vs has = (51, cs) := by unfold refInstall; rw [hh]; rfl
    rw [e]
    clear e
    go_enter Try.func126, Try.ntmps126
    go_wp2_with fail
    rw [← hW]
    clear hW
    go_wp2_with (go_at_call 194; go_must (have hcc := refHolds_any r v room cs ⟨kd, ka, kb, ks'⟩ who _ hR' hb; rw [hh] at hcc; refine hcc.mono ?_); clear hcc; rintro e w' ⟨rfl, p, rfl⟩)
    go_ret
    obtain ⟨q, hq⟩ := fin (p.up G)
    exact ⟨rfl, q, hq, by rw [← show p.w = q.w from hq]; exact hM'.ext p⟩
  | true =>
    cases hg : getR cs ⟨kd, ka, kb, ks'⟩ with
    | none => unfold refHolds at hh; rw [hg] at hh; cases hh
    | some ic =>
      obtain ⟨i, c⟩ := ic
      obtain ⟨hix, hx, hck⟩ := getR_some hg
      have e : refInstall cs ⟨kd, ka, kb, ks'⟩ who stamp vs has = if decide (4611686018427387904 ≤ stamp) || decide (stamp ≤ c.wd) || (!vs.toList.isEmpty && !has) then (2, cs) else (0, cs.set i { c with wd := stamp, has := has, text := vs, locked := false }) := by unfold refInstall; rw [hh, hg]; rfl
      have He : Hid _ := e
      have hi : i < cs.length := (List.getElem?_eq_some_iff.1 hx).1
      have Hc : Hid _ := hx
      obtain ⟨⟨xd, xa, xb, xs⟩, xw, xh, xt, xl, xo⟩ := c
      have Hx : Hid _ := hx
      clear hg hck e hx
      have walk1 : True := trivial
      go_enter Try.func126, Try.ntmps126
      go_wp2_with fail
      rw [← hW]
      clear hW
      go_wp2_with (go_at_call 194; go_must (have hcc := refHolds_any r v room cs ⟨kd, ka, kb, ks'⟩ who _ hR' hb; rw [hh] at hcc; refine hcc.mono ?_); clear hcc; rintro e w' ⟨rfl, p, rfl⟩; have k0' := cell_at 0 (p.blkE hkb); have k1' := cell_at 1 (p.blkE hkb); have k2' := cell_at 2 (p.blkE hkb); have k3' := cell_at 3 (p.blkE hkb))
      go_at_call 98
      have hcc := find_any r v room cs ⟨kd, ka, kb, ks'⟩ _ (hR'.ext p) hb
      rw [hix] at hcc
      refine hcc.mono ?_
      clear hcc
      rintro e w' ⟨rfl, q, rfl⟩
      have hR2 := (hR'.ext p).ext q
      have hob2 := q.blkE (p.blkE hob)
      have fin2 : ∀ s : Ch G q.w, ∃ s' : Ch G w, s.w = s'.w := fun s => fin (((p.thenE q).up G).then s (fun _ _ h => h))
      clear k0' k1' k2' k3' k0 k1 k2 k3 hR' hM' hob hkb fin
      generalize q.w = W2 at *
      clear q p W
      have hx := Hx.out
      obtain ⟨g, cap, hv, hc, hfz⟩ := (hR2).get hx; have hst := (hR2).st; rw [hv] at hst; have s1 := cell_at 1 hst; have x0 := hc.c0; have x1 := hc.c1; have x2 := hc.c2; have x3 := hc.c3; have x4 := hc.c4; have x5 := hc.c5; have x6 := hc.c6; have x7 := hc.c7; have x8 := hc.c8
      clear hx
      have o1 := cell_at 1 hob2
      have o2 := cell_at 2 hob2
      have HR2 : Hid _ := hR2
      have HV : Hid _ := hv
      have hg2 : G g := h2 g (by rw [hv]; rfl)
      have hrg : r ≠ g := by
        have := hR2.row
        rw [hv] at this
        obtain ⟨cur, hgb⟩ := rowBlk this rfl
        exact blkNe hR2.st hgb (by decide)
      have hog : w.heap.size + 1 ≠ g := by
        have := hR2.row
        rw [hv] at this
        obtain ⟨cur, hgb⟩ := rowBlk this rfl
        exact blkNe hob2 hgb (by decide)
      clear hR2 hv hc
      by_cases t1 : 4611686018427387904 ≤ stamp
      · have e := He.out
        rw [decide_eq_true t1] at e
        have He2 : Hid _ := e
        clear e He
        go_wp2_with fail
        go_ret
        obtain ⟨s, hs⟩ := fin2 (Ch.refl G W2)
        rw [He2.out]
        exact ⟨rfl, s, hs, hs ▸ ⟨⟨v, HR2.out, h2⟩, h3⟩⟩
      by_cases t2 : stamp ≤ xw
      · have e := He.out
        rw [decide_eq_false t1, decide_eq_true t2] at e
        have He2 : Hid _ := e
        clear e He
        go_wp2_with fail
        go_ret
        obtain ⟨s, hs⟩ := fin2 (Ch.refl G W2)
        rw [He2.out]
        exact ⟨rfl, s, hs, hs ▸ ⟨⟨v, HR2.out, h2⟩, h3⟩⟩
      cases t3 : (!vs.toList.isEmpty && !has)
      · have e := He.out
        rw [decide_eq_false t1, decide_eq_false t2, t3] at e
        have He2 : Hid _ := e
        clear e He
        have t4 : (!vs.toList.isEmpty) = false ∨ ((!vs.toList.isEmpty) = true ∧ has = true) := by revert t3; cases (!vs.toList.isEmpty) <;> cases has <;> simp
        clear t3
        have hRa := HR2.out
        rw [HV.out] at hRa
        have hRb := hRa.put (c' := ⟨⟨xd, xa, xb, xs⟩, stamp, xh, xt, xl, xo⟩) (j := 4) (u := .int .u64 stamp) Hx.out (by decide) rfl
        have hob3 : (W2.setCell ⟨g, i * 9 + 4, none⟩ (.int .u64 stamp)).heap[w.heap.size + 1]? = some (.cells #[.int .u64 vw, .string vs, .bool has] 37 (0, 0)) := by rw [heap_set_other hog]; exact hob2
        have fin3 : ∀ s : Ch G (W2.setCell ⟨g, i * 9 + 4, none⟩ (.int .u64 stamp)), ∃ s' : Ch G w, s.w = s'.w := fun s => fin2 (((Ch.refl G W2).set g (i * 9 + 4) _ (fun _ => hg2)).then s (fun _ _ h => h))
        have HR : Hid (RefAt (W2.setCell ⟨g, i * 9 + 4, none⟩ (.int .u64 stamp)) r (.slice (some ⟨g, 0, none⟩) (cs.set i ⟨⟨xd, xa, xb, xs⟩, stamp, xh, xt, xl, xo⟩).length cap) room (cs.set i ⟨⟨xd, xa, xb, xs⟩, stamp, xh, xt, xl, xo⟩)) := hRb
        have Hob : Hid _ := hob3
        have Hfin : Hid _ := fin3
        clear hRa hRb hob3 fin3
        rcases t4 with t4 | ⟨t4, rfl⟩
        · go_wp2_with fail
          generalize World.setCell _ _ _ = W3 at HR Hob Hfin ⊢; have s1 : ∀ p : Ext W3, p.w.cell? ⟨r, 1, none⟩ = some (.slice (some ⟨g, 0, none⟩) cs.length cap) := (fun p => by have := cell_at 1 (p.blkE HR.out.st); simpa using this); have o1 : ∀ p : Ext W3, p.w.cell? ⟨w.heap.size + 1, 1, none⟩ = some (.string vs) := (fun p => cell_at 1 (p.blkE Hob.out)); have o2 : ∀ p : Ext W3, p.w.cell? ⟨w.heap.size + 1, 2, none⟩ = some (.bool has) := (fun p => cell_at 2 (p.blkE Hob.out)); have y : ∀ p : Ext W3, p.w.cell? ⟨g, i * 9 + 5, none⟩ = (encRC ⟨⟨xd, xa, xb, xs⟩, stamp, xh, xt, xl, xo⟩)[5]? := (fun p => (HR.out.ext p).cellj (by simp [hi]) 5 (by decide)); have f : ∀ p : Ext W3, p.w.frozen? ⟨g, i * 9 + 5, none⟩ = false := (fun p => (HR.out.ext p).frozj _); refine wp_region_lch NoS (by kernel_rfl) (by repeat constructor) (by kernel_rfl) (by kernel_rfl) (fun p hp => ?_); clear hp; (repeat (first | (refine wpMix_skip rfl rfl ?_) | (refine wpMix_step (fun K hK => ?_); go_simp; (with_reducible (refine hK _ _ ?_)); clear hK K))); refine wpMix_nil ?_; refine last_step (fun K hK => ?_); go_simp; (with_reducible (refine hK _ _ ?_)); clear hK K; replace HR : Hid (RefAt (p.w.setCell ⟨g, i * 9 + 5, none⟩ (.bool has)) r (.slice (some ⟨g, 0, none⟩) (cs.set i ⟨⟨xd, xa, xb, xs⟩, stamp, has, xt, xl, xo⟩).length cap) room (cs.set i ⟨⟨xd, xa, xb, xs⟩, stamp, has, xt, xl, xo⟩)) := (by have h1 := HR.out.ext p; have h2 := RefAt.put (c := ⟨⟨xd, xa, xb, xs⟩, stamp, xh, xt, xl, xo⟩) (c' := ⟨⟨xd, xa, xb, xs⟩, stamp, has, xt, xl, xo⟩) (i := i) (j := 5) (u := (.bool has)) h1 (by simp [hi]) (by decide) rfl; rw [List.set_set] at h2; exact h2); replace Hob : Hid ((p.w.setCell ⟨g, i * 9 + 5, none⟩ (.bool has)).heap[w.heap.size + 1]? = some (.cells #[.int .u64 vw, .string vs, .bool has] 37 (0, 0))) := (by show _ = _; rw [heap_set_other hog]; exact p.blkE Hob.out); replace Hfin : Hid (∀ s : Ch G (p.w.setCell ⟨g, i * 9 + 5, none⟩ (.bool has)), ∃ s' : Ch G w, s.w = s'.w) := (fun s => Hfin.out (((p.up G).set g (i * 9 + 5) _ (fun _ => hg2)).then s (fun _ _ h => h))); clear s1 o1 o2 y f
          go_wp2_with fail
          generalize World.setCell _ _ _ = W4 at HR Hob Hfin ⊢; have s1 : ∀ p : Ext W4, p.w.cell? ⟨r, 1, none⟩ = some (.slice (some ⟨g, 0, none⟩) cs.length cap) := (fun p => by have := cell_at 1 (p.blkE HR.out.st); simpa using this); have o1 : ∀ p : Ext W4, p.w.cell? ⟨w.heap.size + 1, 1, none⟩ = some (.string vs) := (fun p => cell_at 1 (p.blkE Hob.out)); have o2 : ∀ p : Ext W4, p.w.cell? ⟨w.heap.size + 1, 2, none⟩ = some (.bool has) := (fun p => cell_at 2 (p.blkE Hob.out)); have y : ∀ p : Ext W4, p.w.cell? ⟨g, i * 9 + 6, none⟩ = (encRC ⟨⟨xd, xa, xb, xs⟩, stamp, has, xt, xl, xo⟩)[6]? := (fun p => (HR.out.ext p).cellj (by simp [hi]) 6 (by decide)); have f : ∀ p : Ext W4, p.w.frozen? ⟨g, i * 9 + 6, none⟩ = false := (fun p => (HR.out.ext p).frozj _); refine wp_region_lch NoS (by kernel_rfl) (by repeat constructor) (by kernel_rfl) (by kernel_rfl) (fun p hp => ?_); clear hp; (repeat (first | (refine wpMix_skip rfl rfl ?_) | (refine wpMix_step (fun K hK => ?_); go_simp; (with_reducible (refine hK _ _ ?_)); clear hK K))); refine wpMix_nil ?_; refine last_step (fun K hK => ?_); go_simp; (with_reducible (refine hK _ _ ?_)); clear hK K; replace HR : Hid (RefAt (p.w.setCell ⟨g, i * 9 + 6, none⟩ (.string vs)) r (.slice (some ⟨g, 0, none⟩) (cs.set i ⟨⟨xd, xa, xb, xs⟩, stamp, has, vs, xl, xo⟩).length cap) room (cs.set i ⟨⟨xd, xa, xb, xs⟩, stamp, has, vs, xl, xo⟩)) := (by have h1 := HR.out.ext p; have h2 := RefAt.put (c := ⟨⟨xd, xa, xb, xs⟩, stamp, has, xt, xl, xo⟩) (c' := ⟨⟨xd, xa, xb, xs⟩, stamp, has, vs, xl, xo⟩) (i := i) (j := 6) (u := (.string vs)) h1 (by simp [hi]) (by decide) rfl; rw [List.set_set] at h2; exact h2); replace Hob : Hid ((p.w.setCell ⟨g, i * 9 + 6, none⟩ (.string vs)).heap[w.heap.size + 1]? = some (.cells #[.int .u64 vw, .string vs, .bool has] 37 (0, 0))) := (by show _ = _; rw [heap_set_other hog]; exact p.blkE Hob.out); replace Hfin : Hid (∀ s : Ch G (p.w.setCell ⟨g, i * 9 + 6, none⟩ (.string vs)), ∃ s' : Ch G w, s.w = s'.w) := (fun s => Hfin.out (((p.up G).set g (i * 9 + 6) _ (fun _ => hg2)).then s (fun _ _ h => h))); clear s1 o1 o2 y f
          generalize World.setCell _ _ _ = W5 at HR Hob Hfin ⊢
          have s1 : W5.cell? ⟨r, 1, none⟩ = some (.slice (some ⟨g, 0, none⟩) cs.length cap) := by have := cell_at 1 HR.out.st; simpa using this
          have y : W5.cell? ⟨g, i * 9 + 7, none⟩ = (encRC ⟨⟨xd, xa, xb, xs⟩, stamp, has, vs, xl, xo⟩)[7]? := HR.out.cellj (by simp [hi]) 7 (by decide)
          have f : W5.frozen? ⟨g, i * 9 + 7, none⟩ = false := HR.out.frozj _
          go_wp2_with fail
          go_ret
          have hR6 := RefAt.put (c := ⟨⟨xd, xa, xb, xs⟩, stamp, has, vs, xl, xo⟩) (c' := ⟨⟨xd, xa, xb, xs⟩, stamp, has, vs, false, xo⟩) (i := i) (j := 7) (u := .bool false) HR.out (by simp [hi]) (by decide) rfl
          rw [List.set_set] at hR6
          obtain ⟨s, hs⟩ := Hfin.out ((Ch.refl G W5).set g (i * 9 + 7) (.bool false) (fun _ => hg2))
          rw [He2.out]
          refine ⟨rfl, s, hs, hs ▸ ⟨⟨_, hR6, fun b hb => ?_⟩, h3⟩⟩
          have : g = b := by simpa [Value.ownBlock] using hb
          exact this ▸ hg2
        · go_wp2_with fail
          generalize World.setCell _ _ _ = W3 at HR Hob Hfin ⊢; have s1 : ∀ p : Ext W3, p.w.cell? ⟨r, 1, none⟩ = some (.slice (some ⟨g, 0, none⟩) cs.length cap) := (fun p => by have := cell_at 1 (p.blkE HR.out.st); simpa using this); have o1 : ∀ p : Ext W3, p.w.cell? ⟨w.heap.size + 1, 1, none⟩ = some (.string vs) := (fun p => cell_at 1 (p.blkE Hob.out)); have o2 : ∀ p : Ext W3, p.w.cell? ⟨w.heap.size + 1, 2, none⟩ = some (.bool true) := (fun p => cell_at 2 (p.blkE Hob.out)); have y : ∀ p : Ext W3, p.w.cell? ⟨g, i * 9 + 5, none⟩ = (encRC ⟨⟨xd, xa, xb, xs⟩, stamp, xh, xt, xl, xo⟩)[5]? := (fun p => (HR.out.ext p).cellj (by simp [hi]) 5 (by decide)); have f : ∀ p : Ext W3, p.w.frozen? ⟨g, i * 9 + 5, none⟩ = false := (fun p => (HR.out.ext p).frozj _); refine wp_region_lch NoS (by kernel_rfl) (by repeat constructor) (by kernel_rfl) (by kernel_rfl) (fun p hp => ?_); clear hp; (repeat (first | (refine wpMix_skip rfl rfl ?_) | (refine wpMix_step (fun K hK => ?_); go_simp; (with_reducible (refine hK _ _ ?_)); clear hK K))); refine wpMix_nil ?_; refine last_step (fun K hK => ?_); go_simp; (with_reducible (refine hK _ _ ?_)); clear hK K; replace HR : Hid (RefAt (p.w.setCell ⟨g, i * 9 + 5, none⟩ (.bool true)) r (.slice (some ⟨g, 0, none⟩) (cs.set i ⟨⟨xd, xa, xb, xs⟩, stamp, true, xt, xl, xo⟩).length cap) room (cs.set i ⟨⟨xd, xa, xb, xs⟩, stamp, true, xt, xl, xo⟩)) := (by have h1 := HR.out.ext p; have h2 := RefAt.put (c := ⟨⟨xd, xa, xb, xs⟩, stamp, xh, xt, xl, xo⟩) (c' := ⟨⟨xd, xa, xb, xs⟩, stamp, true, xt, xl, xo⟩) (i := i) (j := 5) (u := (.bool true)) h1 (by simp [hi]) (by decide) rfl; rw [List.set_set] at h2; exact h2); replace Hob : Hid ((p.w.setCell ⟨g, i * 9 + 5, none⟩ (.bool true)).heap[w.heap.size + 1]? = some (.cells #[.int .u64 vw, .string vs, .bool true] 37 (0, 0))) := (by show _ = _; rw [heap_set_other hog]; exact p.blkE Hob.out); replace Hfin : Hid (∀ s : Ch G (p.w.setCell ⟨g, i * 9 + 5, none⟩ (.bool true)), ∃ s' : Ch G w, s.w = s'.w) := (fun s => Hfin.out (((p.up G).set g (i * 9 + 5) _ (fun _ => hg2)).then s (fun _ _ h => h))); clear s1 o1 o2 y f
          go_wp2_with fail
          generalize World.setCell _ _ _ = W4 at HR Hob Hfin ⊢; have s1 : ∀ p : Ext W4, p.w.cell? ⟨r, 1, none⟩ = some (.slice (some ⟨g, 0, none⟩) cs.length cap) := (fun p => by have := cell_at 1 (p.blkE HR.out.st); simpa using this); have o1 : ∀ p : Ext W4, p.w.cell? ⟨w.heap.size + 1, 1, none⟩ = some (.string vs) := (fun p => cell_at 1 (p.blkE Hob.out)); have o2 : ∀ p : Ext W4, p.w.cell? ⟨w.heap.size + 1, 2, none⟩ = some (.bool true) := (fun p => cell_at 2 (p.blkE Hob.out)); have y : ∀ p : Ext W4, p.w.cell? ⟨g, i * 9 + 6, none⟩ = (encRC ⟨⟨xd, xa, xb, xs⟩, stamp, true, xt, xl, xo⟩)[6]? := (fun p => (HR.out.ext p).cellj (by simp [hi]) 6 (by decide)); have f : ∀ p : Ext W4, p.w.frozen? ⟨g, i * 9 + 6, none⟩ = false := (fun p => (HR.out.ext p).frozj _); refine wp_region_lch NoS (by kernel_rfl) (by repeat constructor) (by kernel_rfl) (by kernel_rfl) (fun p hp => ?_); clear hp; (repeat (first | (refine wpMix_skip rfl rfl ?_) | (refine wpMix_step (fun K hK => ?_); go_simp; (with_reducible (refine hK _ _ ?_)); clear hK K))); refine wpMix_nil ?_; refine last_step (fun K hK => ?_); go_simp; (with_reducible (refine hK _ _ ?_)); clear hK K; replace HR : Hid (RefAt (p.w.setCell ⟨g, i * 9 + 6, none⟩ (.string vs)) r (.slice (some ⟨g, 0, none⟩) (cs.set i ⟨⟨xd, xa, xb, xs⟩, stamp, true, vs, xl, xo⟩).length cap) room (cs.set i ⟨⟨xd, xa, xb, xs⟩, stamp, true, vs, xl, xo⟩)) := (by have h1 := HR.out.ext p; have h2 := RefAt.put (c := ⟨⟨xd, xa, xb, xs⟩, stamp, true, xt, xl, xo⟩) (c' := ⟨⟨xd, xa, xb, xs⟩, stamp, true, vs, xl, xo⟩) (i := i) (j := 6) (u := (.string vs)) h1 (by simp [hi]) (by decide) rfl; rw [List.set_set] at h2; exact h2); replace Hob : Hid ((p.w.setCell ⟨g, i * 9 + 6, none⟩ (.string vs)).heap[w.heap.size + 1]? = some (.cells #[.int .u64 vw, .string vs, .bool true] 37 (0, 0))) := (by show _ = _; rw [heap_set_other hog]; exact p.blkE Hob.out); replace Hfin : Hid (∀ s : Ch G (p.w.setCell ⟨g, i * 9 + 6, none⟩ (.string vs)), ∃ s' : Ch G w, s.w = s'.w) := (fun s => Hfin.out (((p.up G).set g (i * 9 + 6) _ (fun _ => hg2)).then s (fun _ _ h => h))); clear s1 o1 o2 y f
          generalize World.setCell _ _ _ = W5 at HR Hob Hfin ⊢
          have s1 : W5.cell? ⟨r, 1, none⟩ = some (.slice (some ⟨g, 0, none⟩) cs.length cap) := by have := cell_at 1 HR.out.st; simpa using this
          have y : W5.cell? ⟨g, i * 9 + 7, none⟩ = (encRC ⟨⟨xd, xa, xb, xs⟩, stamp, true, vs, xl, xo⟩)[7]? := HR.out.cellj (by simp [hi]) 7 (by decide)
          have f : W5.frozen? ⟨g, i * 9 + 7, none⟩ = false := HR.out.frozj _
          go_wp2_with fail
          go_ret
          have hR6 := RefAt.put (c := ⟨⟨xd, xa, xb, xs⟩, stamp, true, vs, xl, xo⟩) (c' := ⟨⟨xd, xa, xb, xs⟩, stamp, true, vs, false, xo⟩) (i := i) (j := 7) (u := .bool false) HR.out (by simp [hi]) (by decide) rfl
          rw [List.set_set] at hR6
          obtain ⟨s, hs⟩ := Hfin.out ((Ch.refl G W5).set g (i * 9 + 7) (.bool false) (fun _ => hg2))
          rw [He2.out]
          refine ⟨rfl, s, hs, hs ▸ ⟨⟨_, hR6, fun b hb => ?_⟩, h3⟩⟩
          have : g = b := by simpa [Value.ownBlock] using hb
          exact this ▸ hg2
      · have e := He.out
        rw [decide_eq_false t1, decide_eq_false t2, t3] at e
        have He2 : Hid _ := e
        clear e He
        have t4 : (!vs.toList.isEmpty) = true := by revert t3; cases (!vs.toList.isEmpty) <;> simp
        have t5 : has = false := by revert t3; cases has <;> simp
        subst t5
        clear t3
        go_wp2_with fail
        go_ret
        obtain ⟨s, hs⟩ := fin2 (Ch.refl G W2)
        rw [He2.out]
        exact ⟨rfl, s, hs, hs ▸ ⟨⟨v, HR2.out, h2⟩, h3⟩⟩
end Go.Proofs.Cob
