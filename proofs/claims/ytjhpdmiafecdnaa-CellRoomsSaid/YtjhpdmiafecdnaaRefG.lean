/-
  The reference's store (layer 9): drop.
-/
import Derived.Test.YtjhpdmiafecdnaaRefF
namespace Go.Proofs.Cob
open Go Go.RowKit Go.Cob
set_option linter.unusedSimpArgs false
set_option linter.unusedVariables false

theorem rowRC_append (cs ds : List RC) : rowRC (cs ++ ds) = rowRC cs ++ rowRC ds := by simp [rowRC]
theorem oneCell_row (cs : List RC) : ∀ u ∈ rowRC cs, u.oneCell' = true := by
  intro u hu
  unfold rowRC at hu
  rw [List.mem_flatMap] at hu
  obtain ⟨c, _, hu⟩ := hu
  simp [encRC] at hu
  rcases hu with rfl | rfl | rfl | rfl | rfl | rfl | rfl | rfl | rfl <;> rfl
theorem z47 (w : World) : (zeroValue 47).run Try.prog w = .ok (.slice none 0 0) w := by kernel_rfl

set_option maxRecDepth 4000 in
set_option maxHeartbeats 3200000 in
theorem refDrop_any (r : Nat) (room : Int) (cs : List RC) (G : Nat → Prop) (i : Nat) (w : World) (h : RefM w r room cs G) (hG : ∀ b, w.heap.size ≤ b → G b) (hb : cs.length < 1000000000000) (hi : i < cs.length) :
    Calls Try.prog 195 #[.pointer (some ⟨r, 0, none⟩), .int .i64 i] w fun e w' => e = .returned (.tuple #[]) ∧ ∃ p : Ch G w, w' = p.w ∧ RefM p.w r room (cs.eraseIdx i) G := by
  obtain ⟨⟨v, h1, h2⟩, h3⟩ := h
  obtain ⟨g, cap, rfl, hc, hfz⟩ := h1.get (List.getElem?_eq_getElem hi)
  have s1 := cell_at 1 h1.st
  have f1 := frozen_at 1 h1.st
  obtain ⟨i0, z0, hi0, hz0, hz1, hz2, hz3⟩ := info46
  obtain ⟨_, hgb⟩ := rowBlk h1.row rfl
  have hcap : cs.length ≤ cap := by
    rcases h1.row.2 with ⟨h', _⟩ | ⟨g', cap', cur, h', _, _, hnc, _⟩
    · simp at h'
    · simp only [Value.slice.injEq] at h'; rw [h'.2.2]; exact hnc
  obtain ⟨n, hn⟩ : ∃ n, n = cs.length := ⟨_, rfl⟩
  have HN : Hid _ := hn
  have H1 : Hid _ := h1
  have hst := h1.st
  rw [← hn] at s1 hcap hb hi hst
  have HSt : Hid _ := hst
  have Hgb : Hid _ := hgb
  clear hn h1 hc hfz hst hgb
  go_enter Try.func195, Try.ntmps195
  have hl1 : (rowRC (cs.take i)).length = i * 9 := by rw [rowRC_length]; simp; have := HN.out; omega
  have hcells : ∀ j, j < n * 9 → w.cell? ⟨g, j, none⟩ = (rowRC cs)[j]? := fun j hj => H1.out.row.cellAt j (by have := HN.out; omega)
  have hnews1 : ∀ j u, (rowRC (cs.take i))[j]? = some u → w.cell? ((⟨g, 0, none⟩ : Addr).add j) = some u := fun j u hu => by
    have hj : j < i * 9 := by rw [← hl1]; exact (List.getElem?_eq_some_iff.1 hu).1
    have e : ((⟨g, 0, none⟩ : Addr).add j) = ⟨g, j, none⟩ := by cases j <;> simp [Addr.add]
    have hsplit : rowRC cs = rowRC (cs.take i) ++ rowRC (cs.drop i) := by rw [← rowRC_append, List.take_append_drop]
    rw [e, hcells j (by omega), hsplit, List.getElem?_append_left (by omega)]
    exact hu
  have Hl1 : Hid _ := hl1
  have Hcells : Hid _ := hcells
  have Hnews1 : Hid _ := hnews1
  clear hl1 hcells hnews1
  have hNews2 : ∀ (q : Ext w) j u, (rowRC (cs.drop (i + 1)))[j]? = some u → q.w.cell? ((⟨g, (i + 1) * 9, none⟩ : Addr).add j) = some u := fun q j u hu => by
    have hlt : j < (n - (i + 1)) * 9 := by
      have := (List.getElem?_eq_some_iff.1 hu).1
      rw [rowRC_length] at this
      simp at this
      have := HN.out
      omega
    have e : ((⟨g, (i + 1) * 9, none⟩ : Addr).add j) = ⟨g, (i + 1) * 9 + j, none⟩ := by cases j <;> simp [Addr.add]
    have hsplit : rowRC cs = rowRC (cs.take (i + 1)) ++ rowRC (cs.drop (i + 1)) := by rw [← rowRC_append, List.take_append_drop]
    have hl : (rowRC (cs.take (i + 1))).length = (i + 1) * 9 := by rw [rowRC_length]; simp; have := HN.out; omega
    rw [e, World.cell?_of_block (w := w) (a := ⟨g, (i + 1) * 9 + j, none⟩) (q.same _ (lt_of_blk Hgb.out) id), Hcells.out _ (by omega), hsplit, List.getElem?_append_right (by omega), hl]
    rw [Nat.add_sub_cancel_left]
    exact hu
  have HNews2 : Hid _ := hNews2
  have hlen2 : (rowRC (cs.drop (i + 1))).length = (n - (i + 1)) * 9 := by rw [rowRC_length]; simp; have := HN.out; omega
  have Hlen2 : Hid _ := hlen2
  clear hNews2 hlen2
  by_cases hce : i + 1 = cap
  · go_wp2_with (first
      | (at_builtin; refine wpList_append_own_at _ rfl _ _ 47 rfl 0 46 i0 z0 9 88 Try.underlying47 hi0 hz0 hz1 hz2 hz3 (by decide) (.slice none 0 0) 0 [] rfl (World.ownsRow_nil w 0 46 9) ⟨g, 0, none⟩ i cap (rowRC (cs.take i)) rfl Hl1.out Hnews1.out (oneCell_row _) (by unfold maxLen; omega) (by omega) (Nat.zero_le _) ?_; intro v1 w1 hown1 hgrow1 hnil1 hloc1; obtain ⟨q, hq⟩ : ∃ q : Ext w, w1 = q.w := ⟨(Ch.refl NoS w).grown hgrow1 (fun b _ e => by cases e), rfl⟩; subst hq; have s2 := cell_at 1 (q.blkE HSt.out); have f2 := frozen_at 1 (q.blkE HSt.out); have hown1' : q.w.ownsRow 0 46 9 v1 i (rowRC (cs.take i)) := (by simpa using hown1); have Hown1 : Hid _ := hown1'; have Hloc1 : Hid (∀ b, v1.ownBlock = some b → w.heap.size ≤ b) := (fun b hb => by rcases hloc1 with h | h; rw [h] at hb; cases hb; rw [h] at hb; cases hb; exact Nat.le_refl _); clear hown1 hown1' hnil1 hloc1 hgrow1)
      | (at_builtin; go_must (refine wpList_append_own_at _ rfl _ _ 47 rfl 0 46 i0 z0 9 88 Try.underlying47 hi0 hz0 hz1 hz2 hz3 (by decide) v1 i (rowRC (cs.take i)) rfl Hown1.out ⟨g, 0, none⟩ 0 0 ([]) rfl rfl (by simp) (by simp) (by unfold maxLen; omega) (by omega) (Nat.zero_le _) ?_); intro v2 w2 hown2 hgrow2 hnil2 hloc2; obtain ⟨fa2, cap2, hv2, -, -⟩ := row_form hown2; subst hv2; obtain ⟨q2, hq2⟩ : ∃ q2 : Ext w, w2 = q2.w := ⟨q.grown hgrow2 (fun b hb e => absurd (Hloc1.out b e) (by omega)), rfl⟩; have Hl2 : Hid (∀ b, (Value.slice fa2 (i + 0) cap2).ownBlock = some b → w.heap.size ≤ b) := (fun b hb => by rcases hloc2 with h | h; exact Hloc1.out b (by rw [← h]; exact hb); rw [h] at hb; cases hb; exact q.size); subst hq2; have s3 := cell_at 1 (q2.blkE HSt.out); have f3 := frozen_at 1 (q2.blkE HSt.out); have Hown2 : Hid _ := hown2; clear hown2 hnil2 hloc2 hgrow2 s2 f2))
    go_end0
    have hrow := Hown2.out
    have hlen : (cs.eraseIdx i).length = n - 1 := by rw [List.length_eraseIdx]; have := HN.out; split <;> omega
    have hers : cs.eraseIdx i = cs.take i ++ cs.drop (i + 1) := List.eraseIdx_eq_take_drop_succ ..
    refine ⟨rfl, (q2.up G).set r 1 (Value.slice fa2 (i + 0) cap2) (fun _ => h3), rfl, ⟨⟨Value.slice fa2 (i + 0) cap2, ⟨?_, ?_⟩, fun b hb => hG b (Hl2.out b hb)⟩, h3⟩⟩
    · have := heap_set_same (q2.blkE HSt.out) 1 (Value.slice fa2 (i + 0) cap2)
      simpa using this
    · rw [hlen, hers, rowRC_append]
      have hd : cs.drop (i + 1) = [] := List.drop_eq_nil_of_le (by have := HN.out; omega)
      rw [hd, show n - 1 = i from by omega]
      have hrow : q2.w.ownsRow 0 46 9 (Value.slice fa2 (i + 0) cap2) i (rowRC (cs.take i) ++ rowRC []) := by
        have h := hrow
        rw [List.append_nil] at h
        rw [show rowRC ([] : List RC) = [] from rfl, List.append_nil]
        exact h
      refine rowKeep hrow (fun b hb => ?_)
      show (World.setCell q2.w _ _).heap[b]? = _
      rw [heap_set_other]
      have := Hl2.out b hb
      have := lt_of_blk HSt.out
      omega
  · go_wp2_with (first
      | (at_builtin; refine wpList_append_own_at _ rfl _ _ 47 rfl 0 46 i0 z0 9 88 Try.underlying47 hi0 hz0 hz1 hz2 hz3 (by decide) (.slice none 0 0) 0 [] rfl (World.ownsRow_nil w 0 46 9) ⟨g, 0, none⟩ i cap (rowRC (cs.take i)) rfl Hl1.out Hnews1.out (oneCell_row _) (by unfold maxLen; omega) (by omega) (Nat.zero_le _) ?_; intro v1 w1 hown1 hgrow1 hnil1 hloc1; obtain ⟨q, hq⟩ : ∃ q : Ext w, w1 = q.w := ⟨(Ch.refl NoS w).grown hgrow1 (fun b _ e => by cases e), rfl⟩; subst hq; have s2 := cell_at 1 (q.blkE HSt.out); have f2 := frozen_at 1 (q.blkE HSt.out); have hown1' : q.w.ownsRow 0 46 9 v1 i (rowRC (cs.take i)) := (by simpa using hown1); have Hown1 : Hid _ := hown1'; have Hloc1 : Hid (∀ b, v1.ownBlock = some b → w.heap.size ≤ b) := (fun b hb => by rcases hloc1 with h | h; rw [h] at hb; cases hb; rw [h] at hb; cases hb; exact Nat.le_refl _); clear hown1 hown1' hnil1 hloc1 hgrow1)
      | (at_builtin; go_must (refine wpList_append_own_at _ rfl _ _ 47 rfl 0 46 i0 z0 9 88 Try.underlying47 hi0 hz0 hz1 hz2 hz3 (by decide) v1 i (rowRC (cs.take i)) rfl Hown1.out ⟨g, (i + 1) * 9, none⟩ (n - (i + 1)) (cap - (i + 1)) (rowRC (cs.drop (i + 1))) rfl Hlen2.out (HNews2.out q) (oneCell_row _) (by unfold maxLen; omega) (by omega) (Nat.zero_le _) ?_); intro v2 w2 hown2 hgrow2 hnil2 hloc2; obtain ⟨fa2, cap2, hv2, -, -⟩ := row_form hown2; subst hv2; obtain ⟨q2, hq2⟩ : ∃ q2 : Ext w, w2 = q2.w := ⟨q.grown hgrow2 (fun b hb e => absurd (Hloc1.out b e) (by omega)), rfl⟩; have Hl2 : Hid (∀ b, (Value.slice fa2 (i + (n - (i + 1))) cap2).ownBlock = some b → w.heap.size ≤ b) := (fun b hb => by rcases hloc2 with h | h; exact Hloc1.out b (by rw [← h]; exact hb); rw [h] at hb; cases hb; exact q.size); subst hq2; have s3 := cell_at 1 (q2.blkE HSt.out); have f3 := frozen_at 1 (q2.blkE HSt.out); have Hown2 : Hid _ := hown2; clear hown2 hnil2 hloc2 hgrow2 s2 f2))
    go_end0
    have hrow := Hown2.out
    have hlen : (cs.eraseIdx i).length = n - 1 := by rw [List.length_eraseIdx]; have := HN.out; split <;> omega
    have hers : cs.eraseIdx i = cs.take i ++ cs.drop (i + 1) := List.eraseIdx_eq_take_drop_succ ..
    refine ⟨rfl, (q2.up G).set r 1 (Value.slice fa2 (i + (n - (i + 1))) cap2) (fun _ => h3), rfl, ⟨⟨Value.slice fa2 (i + (n - (i + 1))) cap2, ⟨?_, ?_⟩, fun b hb => hG b (Hl2.out b hb)⟩, h3⟩⟩
    · have := heap_set_same (q2.blkE HSt.out) 1 (Value.slice fa2 (i + (n - (i + 1))) cap2)
      simpa using this
    · rw [hlen, hers, rowRC_append]
      rw [show n - 1 = i + (n - (i + 1)) from by omega]
      refine rowKeep hrow (fun b hb => ?_)
      show (World.setCell q2.w _ _).heap[b]? = _
      rw [heap_set_other]
      have := Hl2.out b hb
      have := lt_of_blk HSt.out
      omega
end Go.Proofs.Cob
