/-
  Layer 13: Writes on sets in memory.
-/
import Derived.Test.YtjhpdmiafecdnaaEqs
import Derived.Test.YtjhpdmiafecdnaaMixD
import Derived.Deep.DeepCutAuto
namespace Go.Proofs.Cob
open Go Go.RowKit Go.Cob
set_option linter.unusedSimpArgs false
set_option linter.unusedVariables false

theorem ownsRow_base {w : World} {b b' e size n : Nat} {v : Value} {xs : List Value} (h : w.ownsRow b e size v n xs) (hb : b' ≤ b) : w.ownsRow b' e size v n xs := by
  obtain ⟨h1, h2⟩ := h
  refine ⟨h1, ?_⟩
  rcases h2 with h2 | ⟨g, cap, cur, hv, hg, r⟩
  · exact .inl h2
  · exact .inr ⟨g, cap, cur, hv, Nat.le_trans hb hg, r⟩
theorem filterMap_snoc {α β : Type} (f : α → Option β) (l : List α) (i : Nat) (x : α) (h : l[i]? = some x) : (l.take (i + 1)).filterMap f = (l.take i).filterMap f ++ (f x).toList := by
  rw [List.take_add_one, h, List.filterMap_append]
  cases hf : f x <;> simp [hf]
set_option maxRecDepth 4000 in
set_option maxHeartbeats 1600000 in
theorem writes_s (s : Nat) (S : List (Key × Sn)) (W M : List (Key × Tx)) (F : Nat → Prop) (w : World) (h : SetM w s S W M F) (hl : W.length < 1099511627776) :
    Calls Try.prog 68 #[.pointer (some ⟨s, 0, none⟩)] w fun e w' => ∃ v, e = .returned v ∧ WritesOut w v (writesM S W) w' := by
  obtain ⟨⟨a, b, c, h1, h2, h3, h4, h5, -⟩, -⟩ := h
  have s1 : w.cell? ⟨s, 1, none⟩ = some (.map (some b)) := cell_at 1 h1
  go_enter Try.func68, Try.ntmps68
  go_wp2_with fail
  go_at_call 162
  refine (keysOf162 b w).mono ?_
  rintro e w' ⟨rfl, rfl⟩
  have hcc := sorted213 txV w.heap.size b W (w.alloc (.cells #[.map (some b)] 230)) (heap_alloc_at _ _) (h3.ext ((Ch.refl NoS w).alloc _)) hl
  obtain ⟨p, hp⟩ : ∃ p : Ext w, w.alloc (.cells #[.map (some b)] 230) = p.w := ⟨(Ch.refl NoS w).alloc _, rfl⟩
  obtain ⟨n, hn⟩ : ∃ n, n = w.heap.size := ⟨_, rfl⟩
  rw [hp, ← hn] at hcc
  rw [hp, ← hn]
  clear hp hn s1
  go_wp2_with fail
  go_at_call 160
  refine hcc.mono ?_
  clear hcc
  rintro e w' ⟨v, rfl, hK⟩
  have hK' := KeysOut.backS p hK
  clear hK p
  obtain ⟨q, rfl, fa, cap, rfl, hcap, hKs, -⟩ := hK'
  have HK : Hid (KeysIn q.w fa (sortK (W.map (·.1)))) := hKs
  have hlen : (sortK (W.map (·.1))).length < 1099511627776 := by have := (sortK_perm (W.map (·.1))).length_eq; simp at this; omega
  have H1 : Hid _ := q.blkE h1
  have H2 : Hid _ := h2.ext q
  have H3 : Hid _ := h3.ext q
  have Hq : Hid (w.heap.size ≤ q.w.heap.size) := q.size
  have Hfin : Hid (∀ r : Ext q.w, ∃ r' : Ext w, r.w = r'.w) := fun r => ⟨q.thenE r, rfl⟩
  have HW : Hid (writesM S W = (sortK (W.map (·.1))).filterMap (wrOf S W)) := rfl
  clear hKs h1 h2 h3 h4 h5
  generalize q.w = W1 at HK H1 H2 H3 Hq Hfin ⊢
  generalize sortK (W.map (·.1)) = ks at hcap HK hlen HW ⊢
  clear q
  go_wp2_with fail
  go_loopw [3, 15] (fun o v w' => ∃ (p : Ext W1) (i : Nat) (xs : List Wr), w' = p.w ∧ v = .int .i64 i ∧ i ≤ ks.length ∧ xs = (ks.take i).filterMap (wrOf S W) ∧ p.w.ownsRow W1.heap.size 110 6 o xs.length (rowWr xs)) (fun _ v _ => ks.length - (intOf v).toNat)
  case atStart => exact ⟨Ch.refl NoS _, 0, [], rfl, rfl, by omega, by simp, rfl, .inl ⟨rfl, rfl⟩⟩
  case round =>
    obtain ⟨p, i, xs, rfl, rfl, hi, hxs, hrow⟩ := hrel
    have Hxs : Hid _ := hxs
    have Hrow : Hid _ := hrow
    clear hxs hrow
    by_cases h1 : i < ks.length
    · obtain ⟨⟨xd, xa, xb, xt⟩, hx, bK, off, rfl, hc⟩ := KeysIn.get (KeysIn.ext HK.out p) h1
      have y0 := hc.c0
      have y1 := hc.c1
      have y2 := hc.c2
      have y3 := hc.c3
      have Hx : Hid (ks[i]? = some ⟨xd, xa, xb, xt⟩) := hx
      have hcb : i ≤ cap := by omega
      clear hc hx
      go_wp2_with fail
      clear y0 y1 y2 y3
      obtain ⟨bk, hbk⟩ : ∃ n, n = p.w.heap.size := ⟨_, rfl⟩
      obtain ⟨p2, hp2⟩ : ∃ p2 : Ext W1, p.w.alloc (.cells (keyCells xd xa xb xt) 23) = p2.w := ⟨p.alloc _, rfl⟩
      have hkb : p2.w.heap[bk]? = some (.cells (keyCells xd xa xb xt) 23 (0, 0)) := by rw [← hp2, hbk]; exact heap_alloc_at _ _
      have Hrow2 : Hid (p2.w.ownsRow W1.heap.size 110 6 u3 xs.length (rowWr xs)) := by show World.ownsRow _ _ _ _ _ _ _; rw [← hp2]; exact World.ownsRow.alloc Hrow.out _
      have Hg : Hid (∀ r : Ext p2.w, ∃ r' : Ext W1, r.w = r'.w) := fun r => ⟨p2.thenE r, rfl⟩
      have g1 := p2.blkE H1.out
      have g2 : MapAt keyV snV p2.w a S := MapAt.ext H2.out p2
      have g3 : MapAt keyV txV p2.w b W := MapAt.ext H3.out p2
      have Hsz : Hid (W1.heap.size ≤ p2.w.heap.size) := p2.size
      rw [hp2, ← hbk]
      clear hp2 hbk Hrow
      generalize p2.w = W2 at hkb Hrow2 Hg g1 g2 g3 Hsz ⊢
      clear p2 p
      obtain ⟨⟨tt, th⟩, ht⟩ : ∃ t, txOf W ⟨xd, xa, xb, xt⟩ = t := ⟨_, rfl⟩
      obtain ⟨⟨uw, ut, uh⟩, hu⟩ : ∃ u, snOf S ⟨xd, xa, xb, xt⟩ = u := ⟨_, rfl⟩
      have lt : (aget W ⟨xd, xa, xb, xt⟩).elim (.agg #[.string ⟨#[]⟩, .bool false]) txV = .agg #[.string tt, .bool th] := by
        have : txOf W ⟨xd, xa, xb, xt⟩ = ⟨tt, th⟩ := ht
        unfold txOf at this
        cases hg : aget W ⟨xd, xa, xb, xt⟩ with
        | none => rw [hg] at this; cases this; rfl
        | some t => rw [hg] at this; cases this; rfl
      have ls : (aget S ⟨xd, xa, xb, xt⟩).elim (.agg #[.int .u64 0, .string ⟨#[]⟩, .bool false]) snV = .agg #[.int .u64 uw, .string ut, .bool uh] := by
        have : snOf S ⟨xd, xa, xb, xt⟩ = ⟨uw, ut, uh⟩ := hu
        unfold snOf at this
        cases hg : aget S ⟨xd, xa, xb, xt⟩ with
        | none => rw [hg] at this; cases this; rfl
        | some t => rw [hg] at this; cases this; rfl
      have Ht : Hid _ := ht
      have Hu : Hid _ := hu
      have Lt : Hid _ := lt
      have Ls : Hid _ := ls
      clear ht hu lt ls
      go_cut [6, 7] (fun v6 v7 wc => ∃ (b6 b7 : Nat) (q : Ext W2), wc = q.w ∧ v6 = .pointer (some ⟨b6, 0, none⟩) ∧ v7 = .pointer (some ⟨b7, 0, none⟩) ∧ q.w.heap[b6]? = some (.cells #[.string tt, .bool th] 235 (0, 0)) ∧ q.w.heap[b7]? = some (.cells #[.int .u64 uw, .string ut, .bool uh] 37 (0, 0)))
      case first =>
        have s0 : ∀ q : Ext W2, q.w.cell? ⟨s, 0, none⟩ = some (.map (some a)) := fun q => cell_at 0 (q.blkE g1)
        have s1 : ∀ q : Ext W2, q.w.cell? ⟨s, 1, none⟩ = some (.map (some b)) := fun q => cell_at 1 (q.blkE g1)
        have k0 : ∀ q : Ext W2, q.w.cell? ⟨bk, 0, none⟩ = some (.int .i64 xd) := fun q => cell_at 0 (q.blkE hkb)
        have k1 : ∀ q : Ext W2, q.w.cell? ⟨bk, 1, none⟩ = some (.int .i64 xa) := fun q => cell_at 1 (q.blkE hkb)
        have k2 : ∀ q : Ext W2, q.w.cell? ⟨bk, 2, none⟩ = some (.int .i64 xb) := fun q => cell_at 2 (q.blkE hkb)
        have k3 : ∀ q : Ext W2, q.w.cell? ⟨bk, 3, none⟩ = some (.string xt) := fun q => cell_at 3 (q.blkE hkb)
        clear g1 hkb
        refine wp_region_two_ch NoS 12 13 [0, 1, 2, 3, 4, 5, 6, 7, 8, 9, 10, 11, 13, 12, 14, 15] (by kernel_rfl) (by kernel_rfl) (fun p hp => ?_) (fun p hp => ?_)
        · clear hp
          (repeat (first | (refine wpMix_skip rfl rfl ?_) | (refine wpMix_step (fun K hK => ?_); go_simp; (with_reducible (refine hK _ _ ?_)); clear hK K)))
          refine wpMix_look (K := key_law) (encV := txV) (k := ⟨xd, xa, xb, xt⟩) (l := W) (c := false) rfl _ _ rfl Try.underlying230 z235 rfl rfl (fun w' ⟨q, hq⟩ => by rw [hq]; exact g3.ext q) (v := .agg #[.string tt, .bool th]) Lt.out ?_
          (repeat (first | (refine wpMix_skip rfl rfl ?_) | (refine wpMix_step (fun K hK => ?_); go_simp; (with_reducible (refine hK _ _ ?_)); clear hK K)))
          refine wpMix_look (K := key_law) (encV := snV) (k := ⟨xd, xa, xb, xt⟩) (l := S) (c := false) rfl _ _ rfl Try.underlying229 z37 rfl rfl (fun w' ⟨q, hq⟩ => by rw [hq]; exact g2.ext q) (v := .agg #[.int .u64 uw, .string ut, .bool uh]) Ls.out ?_
          (repeat (first | (refine wpMix_skip rfl rfl ?_) | (refine wpMix_step (fun K hK => ?_); go_simp; (with_reducible (refine hK _ _ ?_)); clear hK K)))
          refine wpMix_step (fun K hK => ?_); go_simp
          refine ⟨⟨p.alloc _, rfl⟩, hK _ _ ?_⟩
          clear hK K
          refine wpMix_step (fun K hK => ?_); go_simp
          refine ⟨⟨(p.alloc _).alloc _, rfl⟩, hK _ _ ?_⟩
          clear hK K
          (repeat (first | (refine wpMix_skip rfl rfl ?_) | (refine wpMix_step (fun K hK => ?_); go_simp; (with_reducible (refine hK _ _ ?_)); clear hK K)))
          refine wpMix_step (fun K hK => ?_); go_simp
          refine ⟨⟨(p.alloc _).alloc _, rfl⟩, hK _ _ ?_⟩
          clear hK K
          (repeat (first | (refine wpMix_skip rfl rfl ?_) | (refine wpMix_step (fun K hK => ?_); go_simp; (with_reducible (refine hK _ _ ?_)); clear hK K)))
          refine wpMix_step (fun K hK => ?_); go_simp
          refine ⟨⟨(p.alloc _).alloc _, rfl⟩, hK _ _ ?_⟩
          clear hK K
          (repeat (first | (refine wpMix_skip rfl rfl ?_) | (refine wpMix_step (fun K hK => ?_); go_simp; (with_reducible (refine hK _ _ ?_)); clear hK K)))
          refine wpMix_nil ?_
          go_wp2_with fail
          go_meet
          case rel => exact ⟨_, _, (p.alloc _).alloc _, rfl, rfl, rfl, heap_alloc_blk _ (heap_alloc_at _ _), heap_alloc_eq _ (by simp)⟩
        · clear hp
          simp only [opersOf, List.filterMap_cons, List.filterMap_nil, List.getElem?_toArray, List.getElem?_cons_succ, List.getElem?_cons_zero]
          (repeat (first | (refine wpMix_skip rfl rfl ?_) | (refine wpMix_step (fun K hK => ?_); go_simp; (with_reducible (refine hK _ _ ?_)); clear hK K)))
          refine wpMix_look (K := key_law) (encV := txV) (k := ⟨xd, xa, xb, xt⟩) (l := W) (c := false) rfl _ _ rfl Try.underlying230 z235 rfl rfl (fun w' ⟨q, hq⟩ => by rw [hq]; exact g3.ext q) (v := .agg #[.string tt, .bool th]) Lt.out ?_
          (repeat (first | (refine wpMix_skip rfl rfl ?_) | (refine wpMix_step (fun K hK => ?_); go_simp; (with_reducible (refine hK _ _ ?_)); clear hK K)))
          refine wpMix_look (K := key_law) (encV := snV) (k := ⟨xd, xa, xb, xt⟩) (l := S) (c := false) rfl _ _ rfl Try.underlying229 z37 rfl rfl (fun w' ⟨q, hq⟩ => by rw [hq]; exact g2.ext q) (v := .agg #[.int .u64 uw, .string ut, .bool uh]) Ls.out ?_
          (repeat (first | (refine wpMix_skip rfl rfl ?_) | (refine wpMix_step (fun K hK => ?_); go_simp; (with_reducible (refine hK _ _ ?_)); clear hK K)))
          refine wpMix_step (fun K hK => ?_); go_simp
          refine ⟨⟨p.alloc _, rfl⟩, hK _ _ ?_⟩
          clear hK K
          refine wpMix_step (fun K hK => ?_); go_simp
          refine ⟨⟨(p.alloc _).alloc _, rfl⟩, hK _ _ ?_⟩
          clear hK K
          (repeat (first | (refine wpMix_skip rfl rfl ?_) | (refine wpMix_step (fun K hK => ?_); go_simp; (with_reducible (refine hK _ _ ?_)); clear hK K)))
          refine wpMix_step (fun K hK => ?_); go_simp
          refine ⟨⟨(p.alloc _).alloc _, rfl⟩, hK _ _ ?_⟩
          clear hK K
          (repeat (first | (refine wpMix_skip rfl rfl ?_) | (refine wpMix_step (fun K hK => ?_); go_simp; (with_reducible (refine hK _ _ ?_)); clear hK K)))
          refine wpMix_step (fun K hK => ?_); go_simp
          refine ⟨⟨(p.alloc _).alloc _, rfl⟩, hK _ _ ?_⟩
          clear hK K
          (repeat (first | (refine wpMix_skip rfl rfl ?_) | (refine wpMix_step (fun K hK => ?_); go_simp; (with_reducible (refine hK _ _ ?_)); clear hK K)))
          refine wpMix_nil ?_
          go_wp2_with fail
          go_meet
          case rel => exact ⟨_, _, (p.alloc _).alloc _, rfl, rfl, rfl, heap_alloc_eq _ (by simp), heap_alloc_blk _ (heap_alloc_at _ _)⟩
      case rest =>
        obtain ⟨b6, b7, q, rfl, rfl, rfl, hb6, hb7⟩ := hcut
        have hkq := q.blkE hkb
        have Hrow3 : Hid (q.w.ownsRow W1.heap.size 110 6 u3 xs.length (rowWr xs)) := rowKeep Hrow2.out (fun b hb => q.same b (by obtain ⟨c, hc⟩ := rowBlk Hrow2.out hb; exact lt_of_blk hc) id)
        have Hg3 : Hid (∀ r : Ext q.w, ∃ r' : Ext W1, r.w = r'.w) := fun r => Hg.out (q.thenE r)
        have Hsz3 : Hid (W1.heap.size ≤ q.w.heap.size) := Nat.le_trans Hsz.out q.size
        clear Hrow2 Hg g1 g2 g3 Hsz hkb Lt Ls H1 H2 H3
        generalize q.w = W3 at hkq hb6 hb7 Hrow3 Hg3 Hsz3 ⊢
        clear q
        have y0 := cell_at 0 hb6
        have y1 := cell_at 1 hb6
        have z1 := cell_at 1 hb7
        have z2 := cell_at 2 hb7
        have k0 := cell_at 0 hkq
        have k1 := cell_at 1 hkq
        have k2 := cell_at 2 hkq
        have k3 := cell_at 3 hkq
        clear hkq hb6 hb7
        obtain ⟨fa3, cp3, e3, -, -⟩ := row_form Hrow3.out
        subst e3
        have hE : ∀ w, (Op.equalIn 10000 235 (.agg #[.string ut, .bool uh]) (.agg #[.string tt, .bool th])).run Try.prog w = .ok (decide ((⟨ut, uh⟩ : Tx) = ⟨tt, th⟩)) w := run_eq_tx ⟨ut, uh⟩ ⟨tt, th⟩
        have hxl : xs.length ≤ ks.length := by rw [Hxs.out]; exact Nat.le_trans (List.length_filterMap_le _ _) (by simp; omega)
        have Hwr : Hid ((ks.take (i + 1)).filterMap (wrOf S W) = xs ++ (wrOf S W ⟨xd, xa, xb, xt⟩).toList) := by show _ = _; rw [filterMap_snoc _ _ _ _ Hx.out, ← Hxs.out]
        by_cases hk : (⟨ut, uh⟩ : Tx) = ⟨tt, th⟩
        · rw [decide_eq_true hk] at hE
          have Hn : Hid (wrOf S W ⟨xd, xa, xb, xt⟩ = none) := by show _ = _; unfold wrOf; rw [Hu.out, Ht.out]; exact if_pos hk
          clear hk
          go_wp2_with fail
          go_roundw
          case rel =>
            obtain ⟨r, hr⟩ := Hg3.out (Ch.refl NoS W3)
            have hr' : W3 = r.w := hr
            refine ⟨r, i + 1, xs, hr', by go_num, by omega, ?_, hr' ▸ Hrow3.out⟩
            rw [Hwr.out, Hn.out]; simp
          case measure => simp [intOf]; omega
        · rw [decide_eq_false hk] at hE
          have Hn : Hid (wrOf S W ⟨xd, xa, xb, xt⟩ = some ⟨⟨xd, xa, xb, xt⟩, tt, th⟩) := by show _ = _; unfold wrOf; rw [Hu.out, Ht.out]; exact if_neg hk
          clear hk
          obtain ⟨inf, z, hi0, hi1, hi2, hi3, hi4⟩ := info110
          have Hap : Hid (∀ (w' : World) (v' : Value), (W3.alloc (.cells #[.int .i64 xd, .int .i64 xa, .int .i64 xb, .string xt, .string tt, .bool th] 110)).grownBy w' (Value.slice fa3 xs.length cp3).ownBlock → ∃ r : Ext W1, w' = r.w) := fun w' v' hg => by
            have hbase : ∀ b, (Value.slice fa3 xs.length cp3).ownBlock = some b → W1.heap.size ≤ b := fun b hb => rowBase Hrow3.out hb
            obtain ⟨r3, hr3⟩ := Hg3.out (Ch.refl NoS W3)
            have hr3' : W3 = r3.w := hr3
            subst hr3'
            exact ⟨(r3.alloc _).grown hg (fun b hb e => by have := hbase b e; omega), rfl⟩
          go_wp2_with (first
            | (at_builtin; refine wpList_append_own_at _ rfl _ _ 69 rfl W1.heap.size 110 inf z 6 64 Try.underlying69 hi0 hi1 hi2 hi3 hi4 (by decide) (.slice fa3 xs.length cp3) xs.length (rowWr xs) rfl (World.ownsRow.alloc Hrow3.out _) ⟨W3.heap.size, 0, none⟩ 1 1 (encWr ⟨⟨xd, xa, xb, xt⟩, tt, th⟩) rfl rfl ?c1 ?c2 ?c3 ?c4 ?c5 ?_)
            | go_in)
          case c1 =>
            intro j u hj
            have e : ((⟨W3.heap.size, 0, none⟩ : Addr).add j) = ⟨W3.heap.size, j, none⟩ := by cases j <;> simp [Addr.add]
            rw [e]
            exact (cell_at j (heap_alloc_at W3 (.cells #[.int .i64 xd, .int .i64 xa, .int .i64 xb, .string xt, .string tt, .bool th] 110))).trans (by rw [← hj]; simp [encWr, encKey])
          case c2 =>
            intro u hu
            simp [encWr, encKey] at hu
            rcases hu with rfl | rfl | rfl | rfl | rfl | rfl <;> rfl
          case c3 => unfold maxLen; omega
          case c4 => omega
          case c5 => have := Hsz3.out; simp; omega
          intro v' w' hrow' hgrow hnil hat
          obtain ⟨r, hr⟩ : ∃ r : Ext W1, w' = r.w := Hap.out w' v' hgrow
          have Hrow4 : Hid (r.w.ownsRow W1.heap.size 110 6 v' (xs.length + 1) (rowWr xs ++ encWr ⟨⟨xd, xa, xb, xt⟩, tt, th⟩)) := by show World.ownsRow _ _ _ _ _ _ _; rw [← hr]; exact hrow'
          rw [hr]
          clear hr hrow' hgrow hnil hat y0 y1 z1 z2 k0 k1 k2 k3
          go_wp2_with fail
          go_roundw
          case rel =>
            refine ⟨r, i + 1, xs ++ [⟨⟨xd, xa, xb, xt⟩, tt, th⟩], rfl, by go_num, by omega, ?_, ?_⟩
            · rw [Hwr.out, Hn.out]; simp
            · rw [rowWr_snoc, List.length_append]; exact Hrow4.out
          case measure => simp [intOf]; omega
    · have hd : ks.take i = ks := List.take_of_length_le (by omega)
      have Hn : Hid (writesM S W = xs) := by show _ = _; rw [HW.out, Hxs.out, hd]
      clear hd
      go_wp2_with fail
      go_ret
      refine ⟨_, rfl, ?_⟩
      obtain ⟨r, hr⟩ := Hfin.out p
      rw [Hn.out, hr]
      exact ⟨r, rfl, by rw [← hr]; exact ownsRow_base Hrow.out Hq.out⟩
end Go.Proofs.Cob
