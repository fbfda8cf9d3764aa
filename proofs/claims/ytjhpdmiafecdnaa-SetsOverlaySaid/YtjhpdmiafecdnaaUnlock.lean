/-
  The cells' store (layer 9): Unlock and Free.
-/
import Derived.Test.YtjhpdmiafecdnaaKeys
namespace Go.Proofs.Cob
open Go Go.RowKit Go.Cob
set_option linter.unusedSimpArgs false
set_option linter.unusedVariables false

/-- May these keys be unlocked? -/
def okU (L : List (Key × Cl)) (who : Int) : List Key → List Key → Bool
  | _, [] => true
  | seen, k :: ks => holdsM L k who && !decide (k ∈ seen) && okU L who (seen ++ [k]) ks
def unl1 (S : ArenaSt × List (Key × Cl)) (k : Key) : ArenaSt × List (Key × Cl) :=
  match aget S.2 k with
  | none => S
  | some z => if stampZ (unlockZ z.wd) == 0 then dropM S.1 (aput S.2 k { z with wd := unlockZ z.wd }) k else (S.1, aput S.2 k { z with wd := unlockZ z.wd })
def unlM (A : ArenaSt) (L : List (Key × Cl)) (who : Int) (ks : List Key) : Int × ArenaSt × List (Key × Cl) :=
  if okU L who [] ks then (0, ks.foldl unl1 (A, L)) else (51, A, L)

theorem drop_cons {α : Type} {l : List α} {i : Nat} {x : α} (h : l[i]? = some x) : l.drop i = x :: l.drop (i + 1) := by
  obtain ⟨h1, h2⟩ := List.getElem?_eq_some_iff.1 h
  rw [List.drop_eq_getElem_cons h1, h2]
theorem take_snoc {α : Type} {l : List α} {i : Nat} {x : α} (h : l[i]? = some x) : l.take (i + 1) = l.take i ++ [x] := by rw [List.take_add_one, h]; rfl

theorem StN.ext {w : World} {I : Ids} {A : ArenaSt} {L : List (Key × Cl)} {F : Nat → Prop} (h : StN w I A L F) (p : Ext w) : StN p.w I A L F := ⟨h.st.ext p, h.fl⟩
theorem okU_spec {L : List (Key × Cl)} {who : Int} : ∀ {ks seen : List Key}, okU L who seen ks = true → ks.Nodup ∧ (∀ k ∈ ks, holdsM L k who = true ∧ k ∉ seen)
  | [], seen, _ => ⟨.nil, by simp⟩
  | k :: ks, seen, h => by
    simp only [okU, Bool.and_eq_true, Bool.not_eq_true', decide_eq_false_iff_not] at h
    obtain ⟨⟨h1, h2⟩, h3⟩ := h
    obtain ⟨i1, i2⟩ := okU_spec h3
    refine ⟨List.nodup_cons.2 ⟨fun hk => (i2 k hk).2 (by simp), i1⟩, fun x hx => ?_⟩
    rcases List.mem_cons.1 hx with rfl | hx
    · exact ⟨h1, h2⟩
    · exact ⟨(i2 x hx).1, fun hs => (i2 x hx).2 (by simp [hs])⟩

theorem aget_adel_ne {α β : Type} [DecidableEq α] (l : List (α × β)) {k k' : α} (h : k ≠ k') : aget (adel l k) k' = aget l k' := by
  induction l with
  | nil => rfl
  | cons p l ih =>
    simp only [adel]
    split
    · rename_i hp; rw [aget_cons, if_neg (by rw [hp]; exact h)]
    · rw [aget_cons, aget_cons, ih]
theorem unl1_ne (S : ArenaSt × List (Key × Cl)) {k k' : Key} (h : k ≠ k') : aget (unl1 S k).2 k' = aget S.2 k' := by
  unfold unl1
  cases hg : aget S.2 k with
  | none => rfl
  | some z =>
    simp only
    split
    · unfold dropM
      rw [aget_aput, if_pos rfl]
      simp only
      rw [aget_adel_ne _ h, aget_aput, if_neg h]
    · rw [aget_aput, if_neg h]
theorem holds_some {L : List (Key × Cl)} {k : Key} {who : Int} (h : holdsM L k who = true) : ∃ z, aget L k = some z := by
  unfold holdsM at h
  cases hg : aget L k with
  | none => rw [hg] at h; cases h
  | some z => exact ⟨z, rfl⟩


set_option maxRecDepth 4000 in
set_option maxHeartbeats 3200000 in
theorem unlock_mw (I : Ids) (A : ArenaSt) (L : List (Key × Cl)) (F : Nat → Prop) (who : Int) (fa : Option Addr) (n cap : Nat) (ks : List Key) (w : World) (h : StN w I A L F) (hF : ∀ b, w.heap.size ≤ b → F b)
    (hk : KeysIn w fa ks) (hfa : ks = [] ∨ ∀ a, fa = some a → ¬ F a.block) (hn : n = ks.length) (hcap : n ≤ cap) (hb : n < 4611686018427387904) :
    Calls Try.prog 32 #[.pointer (some ⟨I.s, 0, none⟩), .int .i64 who, .slice fa n cap] w fun e w' => e = .returned (.int .i64 (unlM A L who ks).1) ∧ ∃ p : Ch F w, w' = p.w ∧ StN p.w I (unlM A L who ks).2.1 (unlM A L who ks).2.2 F := by
  have HN : Hid (n = ks.length) := hn
  clear hn
  go_enter Try.func32, Try.ntmps32
  go_wp2_with fail
  go_loopw [14] (fun v w' => (∃ p : Ext w, w' = p.w) ∧ ∃ i : Nat, v = .int .i64 i ∧ i ≤ n ∧ okU L who (ks.take i) (ks.drop i) = okU L who [] ks) (fun v _ => n - (intOf v).toNat)
  case atStart => exact ⟨⟨Ch.refl NoS _, rfl⟩, 0, rfl, by omega, rfl⟩
  case round =>
    obtain ⟨⟨p, rfl⟩, i, rfl, hi, hne⟩ := hrel
    have Hne : Hid (okU L who (ks.take i) (ks.drop i) = okU L who [] ks) := hne
    clear hne
    by_cases h1 : i < n
    · have h1' : i < ks.length := by have := HN.out; omega
      obtain ⟨⟨xd, xa, xb, xs⟩, hx, b, off, rfl, hc⟩ := (hk.ext p).get h1'
      have hkp := hk.ext p
      have hst := h.st.ext p
      have hfin : ∀ q : Ext p.w, ∃ q' : Ext w, q.w = q'.w := fun q => ⟨p.thenE q, rfl⟩
      have Hx : Hid (ks[i]? = some ⟨xd, xa, xb, xs⟩) := hx
      have hcap' : i ≤ cap := by omega
      have hbad : (holdsM L ⟨xd, xa, xb, xs⟩ who && !decide ((⟨xd, xa, xb, xs⟩ : Key) ∈ ks.take i)) = false → okU L who [] ks = false := fun hb => by
        rw [← Hne.out, drop_cons hx, okU, hb]; rfl
      have hgood : (holdsM L ⟨xd, xa, xb, xs⟩ who && !decide ((⟨xd, xa, xb, xs⟩ : Key) ∈ ks.take i)) = true → okU L who (ks.take (i + 1)) (ks.drop (i + 1)) = okU L who [] ks := fun hb => by
        rw [← Hne.out, drop_cons hx, okU, hb, take_snoc hx]; simp
      have HBad : Hid _ := hbad
      have HGood : Hid _ := hgood
      have hfin' : okU L who [] ks = false → ∀ q : Ext w, unlM A L who ks = (51, A, L) ∧ ∃ p : Ch F w, q.w = p.w ∧ StN p.w I A L F := fun ho q => ⟨by unfold unlM; rw [ho]; rfl, q.up F, rfl, ⟨h.st.ext q, h.fl⟩⟩
      have HFin : Hid _ := hfin'
      clear h1' hx hk h hbad hgood hfin' hfa
      generalize p.w = W1 at *
      clear p
      have y0 := hc.c0
      have y1 := hc.c1
      have y2 := hc.c2
      have y3 := hc.c3
      go_wp2_with fail
      obtain ⟨W2, hW2⟩ : ∃ W2, W2 = W1.alloc (.cells (keyCells xd xa xb xs) 23) := ⟨_, rfl⟩
      have hkb : W2.heap[W1.heap.size]? = some (.cells (keyCells xd xa xb xs) 23 (0, 0)) := by rw [hW2]; exact heap_alloc_at _ _
      have hst2 : StM W2 I A L F := by rw [hW2]; exact hst.ext ((Ch.refl NoS W1).alloc _)
      have hkp2 : KeysIn W2 (some ⟨b, off, none⟩) ks := by rw [hW2]; exact hkp.ext ((Ch.refl NoS W1).alloc _)
      have hfin2 : ∀ q : Ext W2, ∃ q' : Ext w, q.w = q'.w := fun q => hfin (((Ch.refl NoS W1).alloc _).onto hW2 q (fun _ _ h => h))
      rw [← hW2]
      clear hW2 hst hkp hfin y0 y1 y2 y3 hc
      have k0 : ∀ q : Ext W2, q.w.cell? ⟨W1.heap.size, 0, none⟩ = some (.int .i64 xd) := fun q => cell_at 0 (q.blkE hkb); have k1 : ∀ q : Ext W2, q.w.cell? ⟨W1.heap.size, 1, none⟩ = some (.int .i64 xa) := fun q => cell_at 1 (q.blkE hkb); have k2 : ∀ q : Ext W2, q.w.cell? ⟨W1.heap.size, 2, none⟩ = some (.int .i64 xb) := fun q => cell_at 2 (q.blkE hkb); have k3 : ∀ q : Ext W2, q.w.cell? ⟨W1.heap.size, 3, none⟩ = some (.string xs) := fun q => cell_at 3 (q.blkE hkb)
      cases hh : holdsM L ⟨xd, xa, xb, xs⟩ who
      · refine wp_region_ch NoS (by kernel_rfl) (by kernel_rfl) (fun q hq => ?_)
        clear hq
        (repeat (first | (refine wpMix_skip rfl rfl ?_) | (refine wpMix_step (fun K hK => ?_); go_simp; (with_reducible (refine hK _ _ ?_)); clear hK K)))
        refine wpMix_step (fun K hK => ?_); go_simp; have hcall := holds_m I A L F ⟨xd, xa, xb, xs⟩ who q.w (hst2.ext q); rw [hh] at hcall; refine (Calls.inCh hcall).mono ?_; clear hcall; rintro e w' ⟨rfl, q, rfl⟩; refine ⟨⟨q, rfl⟩, hK _ _ ?_⟩; clear hK K
        (repeat (first | (refine wpMix_skip rfl rfl ?_) | (refine wpMix_step (fun K hK => ?_); go_simp; (with_reducible (refine hK _ _ ?_)); clear hK K)))
        refine wpMix_nil ?_
        have HX : Hid _ := HBad.out (by rw [hh]; rfl)
        go_wp2_with fail
        go_ret
        obtain ⟨q', hq'⟩ := hfin2 q
        obtain ⟨e1, p', hp', hS⟩ := HFin.out HX.out q'
        rw [e1]
        exact ⟨rfl, p', hq'.trans hp', hS⟩
      · cases hm : decide ((⟨xd, xa, xb, xs⟩ : Key) ∈ ks.take i)
        all_goals
          have Hm : Hid _ := hm
          have Htl : Hid (i = (ks.take i).length) := by have := HN.out; show i = _; simp; omega
          clear hm
          refine wp_region_ch NoS (by kernel_rfl) (by kernel_rfl) (fun q hq => ?_)
          clear hq
          (repeat (first | (refine wpMix_skip rfl rfl ?_) | (refine wpMix_step (fun K hK => ?_); go_simp; (with_reducible (refine hK _ _ ?_)); clear hK K)))
          refine wpMix_step (fun K hK => ?_); go_simp; have hcall := holds_m I A L F ⟨xd, xa, xb, xs⟩ who q.w (hst2.ext q); rw [hh] at hcall; refine (Calls.inCh hcall).mono ?_; clear hcall; rintro e w' ⟨rfl, q, rfl⟩; refine ⟨⟨q, rfl⟩, hK _ _ ?_⟩; clear hK K
          (repeat (first | (refine wpMix_skip rfl rfl ?_) | (refine wpMix_step (fun K hK => ?_); go_simp; (with_reducible (refine hK _ _ ?_)); clear hK K)))
          refine wpMix_step (fun K hK => ?_); go_simp
          have hcall := contains_any (some ⟨b, off, none⟩) i cap (ks.take i) ⟨xd, xa, xb, xs⟩ q.w ((hkp2.ext q).take i) Htl.out (by omega)
          rw [Hm.out] at hcall
          refine (Calls.inCh hcall).mono ?_
          clear hcall
          rintro e w' ⟨rfl, q, rfl⟩
          refine ⟨⟨q, rfl⟩, hK _ _ ?_⟩; clear hK K
          (repeat (first | (refine wpMix_skip rfl rfl ?_) | (refine wpMix_step (fun K hK => ?_); go_simp; (with_reducible (refine hK _ _ ?_)); clear hK K)))
          refine wpMix_nil ?_
        · have HX : Hid _ := HGood.out (by rw [hh, Hm.out]; rfl)
          have Hq : Hid _ := hfin2 q
          clear hh
          go_wp2_with fail
          go_roundw
          case rel => exact ⟨Hq.out, i + 1, by go_num, by omega, HX.out⟩
          case measure => simp [intOf]; omega
        · have HX : Hid _ := HBad.out (by rw [hh, Hm.out]; rfl)
          clear hh
          go_wp2_with fail
          go_ret
          obtain ⟨q', hq'⟩ := hfin2 q
          obtain ⟨e1, p', hp', hS⟩ := HFin.out HX.out q'
          rw [e1]
          exact ⟨rfl, p', hq'.trans hp', hS⟩
    · have h2 := Hne.out
      rw [List.drop_eq_nil_of_le (by have := HN.out; omega)] at h2
      have hok : okU L who [] ks = true := h2.symm
      have HOk : Hid _ := hok
      obtain ⟨hnd, hhs⟩ := okU_spec hok
      have Hnd : Hid ks.Nodup := hnd
      have Hhs : Hid (∀ k ∈ ks, ∃ z, aget L k = some z) := fun k hk => holds_some (hhs k hk).1
      clear h2 hok hnd hhs Hne
      have hst := h.ext p
      have hkp := hk.ext p
      have fin : ∀ q : Ch F p.w, ∃ q' : Ch F w, q.w = q'.w := fun q => ⟨(p.up F).then q (fun _ _ h => h), rfl⟩
      have hF1 : ∀ b, p.w.heap.size ≤ b → F b := fun b hb => hF b (by have := p.size; omega)
      clear h hk hF
      generalize p.w = W1 at *
      clear p
      go_wp2_with fail
      go_loopw [34] (fun v w' => ∃ (q : Ch F W1) (i : Nat) (S : ArenaSt × List (Key × Cl)), w' = q.w ∧ v = .int .i64 i ∧ i ≤ n ∧ StN q.w I S.1 S.2 F ∧ (ks.drop i).foldl unl1 S = ks.foldl unl1 (A, L) ∧ ∀ k ∈ ks.drop i, ∃ z, aget S.2 k = some z) (fun v _ => n - (intOf v).toNat)
      case atStart => exact ⟨Ch.refl F W1, 0, (A, L), rfl, rfl, by omega, hst, rfl, Hhs.out⟩
      case round =>
        obtain ⟨q, i, S, rfl, rfl, hi2, hS, hfold, hall⟩ := hrel
        have Hfold : Hid _ := hfold
        have Hall : Hid _ := hall
        clear hfold hall
        by_cases h2 : i < n
        · have h2' : i < ks.length := by have := HN.out; omega
          have hkq := hkp.ch q (hfa.resolve_left (fun e => by rw [e] at h2'; simp at h2'))
          obtain ⟨⟨xd, xa, xb, xs⟩, hx, b, off, rfl, hc⟩ := hkq.get h2'
          have Hx : Hid (ks[i]? = some ⟨xd, xa, xb, xs⟩) := hx
          have hz0 : ∃ z, aget S.2 ⟨xd, xa, xb, xs⟩ = some z := Hall.out _ (by rw [drop_cons hx]; exact List.mem_cons_self ..)
          have hfinq : ∀ r : Ch F q.w, ∃ r' : Ch F W1, r.w = r'.w := fun r => ⟨q.then r (fun _ _ h => h), rfl⟩
          have hFq : ∀ b, q.w.heap.size ≤ b → F b := fun b hb => hF1 b (by have := q.size; omega)
          clear h2' hx hkq
          generalize q.w = W3 at *
          clear q
          have y0 := hc.c0
          have y1 := hc.c1
          have y2 := hc.c2
          have y3 := hc.c3
          go_wp2_with fail
          obtain ⟨W4, hW4⟩ : ∃ W4, W4 = W3.alloc (.cells (keyCells xd xa xb xs) 23) := ⟨_, rfl⟩
          obtain ⟨kb', hkb'⟩ : ∃ kb', kb' = W3.heap.size := ⟨_, rfl⟩
          have hkb : W4.heap[kb']? = some (.cells (keyCells xd xa xb xs) 23 (0, 0)) := by rw [hW4, hkb']; exact heap_alloc_at _ _
          have hS4 : StN W4 I S.1 S.2 F := by rw [hW4]; exact hS.ext ((Ch.refl NoS W3).alloc _)
          have hfin4 : ∀ q : Ch F W4, ∃ q' : Ch F W1, q.w = q'.w := fun q => hfinq (((Ch.refl F W3).alloc _).onto hW4 q (fun _ _ h => h))
          have hF4 : ∀ b, W4.heap.size ≤ b → F b := fun b hb => hFq b (by rw [hW4] at hb; simp at hb; omega)
          rw [← hkb', ← hW4]
          clear hkb' hW4 hS hfinq hFq y0 y1 y2 y3 hc
          clear W3
          obtain ⟨⟨⟨fv, l, g1, g2, g3⟩, g4, g5, g6⟩, g7⟩ := hS4
          have hm : aget S.2 ⟨xd, xa, xb, xs⟩ = (aget l ⟨xd, xa, xb, xs⟩).map Slot.cl := by rw [← g2]; exact aget_map (fun z => Slot.cl z) l _
          obtain ⟨z, hz⟩ : ∃ z, aget l ⟨xd, xa, xb, xs⟩ = some z := by
            obtain ⟨z0, hz0⟩ := hz0
            rw [hz0] at hm
            cases hg : aget l ⟨xd, xa, xb, xs⟩ with
            | none => rw [hg] at hm; simp at hm
            | some z => exact ⟨z, rfl⟩
          rw [hz] at hm
          have Hm : Hid (aget S.2 ⟨xd, xa, xb, xs⟩ = some z.cl) := hm
          clear hm hz0
          have k0 : ∀ q : Ext W4, q.w.cell? ⟨kb', 0, none⟩ = some (.int .i64 xd) := fun q => cell_at 0 (q.blkE hkb); have k1 : ∀ q : Ext W4, q.w.cell? ⟨kb', 1, none⟩ = some (.int .i64 xa) := fun q => cell_at 1 (q.blkE hkb); have k2 : ∀ q : Ext W4, q.w.cell? ⟨kb', 2, none⟩ = some (.int .i64 xb) := fun q => cell_at 2 (q.blkE hkb); have k3 : ∀ q : Ext W4, q.w.cell? ⟨kb', 3, none⟩ = some (.string xs) := fun q => cell_at 3 (q.blkE hkb)
          have m1 : ∀ p : Ext W4, p.w.cell? ⟨I.s, 1, none⟩ = some (.map (some I.m)) := fun p => cell_at 1 (g1.ext p).st
          have hMp : ∀ p : Ext W4, MapAt keyV slotV p.w I.m l := fun p => (g1.ext p).mp
          refine wp_region_ch NoS (by kernel_rfl) (by kernel_rfl) (fun p hp => ?_)
          clear hp
          (repeat (first | (refine wpMix_skip rfl rfl ?_) | (refine wpMix_step (fun K hK => ?_); go_simp; (with_reducible (refine hK _ _ ?_)); clear hK K)))
          refine wpMix_look (K := key_law) (encV := slotV) (k := ⟨xd, xa, xb, xs⟩) (l := l) (c := false) rfl _ _ rfl Try.underlying56 z178 rfl rfl (fun w' ⟨q, hq⟩ => by rw [hq]; exact hMp q) (v := .pointer (some ⟨z.x, 0, none⟩)) (by rw [hz]; rfl) ?_
          (repeat (first | (refine wpMix_skip rfl rfl ?_) | (refine wpMix_step (fun K hK => ?_); go_simp; (with_reducible (refine hK _ _ ?_)); clear hK K)))
          refine wpMix_nil ?_
          have hS5 := g1.ext p
          have hkb5 := p.blkE hkb
          have hfin5 : ∀ q : Ch F p.w, ∃ q' : Ch F W1, q.w = q'.w := fun q => hfin4 ((p.up F).then q (fun _ _ h => h))
          have hF5 : ∀ b, p.w.heap.size ≤ b → F b := fun b hb => hF4 b (by have := p.size; omega)
          clear k0 k1 k2 k3 m1 hMp hfin4 hF4 g1 hkb
          generalize p.w = W5 at *
          clear p W4
          have hzS := hS5.slots _ (aget_mem hz)
          have hxF : F z.x := g3 z.x (.inr (.inr (.inr (.inr (.inr (.inr ⟨_, aget_mem hz, rfl⟩))))))
          have hne : kb' ≠ z.x := blkNe hkb5 hzS (by decide)
          have z2 := cell_at 2 hzS
          have f2 := frozen_at 2 hzS
          have k0 := cell_at 0 hkb5
          have k1 := cell_at 1 hkb5
          have k2 := cell_at 2 hkb5
          have k3 := cell_at 3 hkb5
          have hS6 := hS5.setSlot (z' := { z with wd := unlockZ z.wd }) hz rfl ((Ch.refl (fun b => b = z.x) W5).set z.x 2 (.int .u64 (unlockZ z.wd)) (fun _ => rfl)) (by
            have := heap_set_same hzS 2 (.int .u64 (unlockZ z.wd))
            simpa using this)
          have hN6 : StN (W5.setCell ⟨z.x, 2, none⟩ (.int .u64 (unlockZ z.wd))) I S.1 (aput S.2 ⟨xd, xa, xb, xs⟩ { z.cl with wd := unlockZ z.wd }) F := by
            refine ⟨⟨⟨fv, _, hS6, ?_, ?_⟩, g4, g5, g6⟩, g7⟩
            · exact (aput_map (fun z => Slot.cl z) l _ _).trans (by rw [← g2])
            · intro b hb
              rcases foot_put hb with hb | rfl
              · exact g3 b hb
              · exact hxF
          have hfin6 : ∀ q : Ch F (W5.setCell ⟨z.x, 2, none⟩ (.int .u64 (unlockZ z.wd))), ∃ q' : Ch F W1, q.w = q'.w := fun q => hfin5 (((Ch.refl F W5).set z.x 2 _ (fun _ => hxF)).then q (fun _ _ h => h))
          have hF6 : ∀ b, (W5.setCell ⟨z.x, 2, none⟩ (.int .u64 (unlockZ z.wd))).heap.size ≤ b → F b := fun b hb => hF5 b (by simpa using hb)
          have HS : Hid _ := hz
          clear hS5 hS6 hzS hkb5 hz hfin5 hF5
          have hun : unl1 S ⟨xd, xa, xb, xs⟩ = if stampZ (unlockZ z.wd) == 0 then dropM S.1 (aput S.2 ⟨xd, xa, xb, xs⟩ { z.cl with wd := unlockZ z.wd }) ⟨xd, xa, xb, xs⟩ else (S.1, aput S.2 ⟨xd, xa, xb, xs⟩ { z.cl with wd := unlockZ z.wd }) := by unfold unl1; rw [Hm.out]
          have hnext : (ks.drop (i + 1)).foldl unl1 (unl1 S ⟨xd, xa, xb, xs⟩) = ks.foldl unl1 (A, L) := by
            rw [← Hfold.out, drop_cons Hx.out]; rfl
          have hall' : ∀ k ∈ ks.drop (i + 1), ∃ z, aget (unl1 S ⟨xd, xa, xb, xs⟩).2 k = some z := fun k hk => by
            have hnd := Hnd.out
            rw [← List.take_append_drop i ks, drop_cons Hx.out, List.nodup_append] at hnd
            have h3 := (List.nodup_cons.1 hnd.2.1).1
            have hne' : (⟨xd, xa, xb, xs⟩ : Key) ≠ k := fun e => h3 (by rw [e]; exact hk)
            rw [unl1_ne S hne']
            exact Hall.out k (by rw [drop_cons Hx.out]; exact List.mem_cons_of_mem _ hk)
          have Hun : Hid _ := hun
          have Hnext : Hid _ := hnext
          have Hall' : Hid _ := hall'
          clear hun hnext hall'
          cases hs : (stampZ (unlockZ z.wd) == 0)
          · go_wp2_with (first
              | (go_at_call 132; go_must (refine (unlock_any _ _).mono ?_); rintro e w' ⟨rfl, rfl⟩)
              | (go_at_call 119; go_must (refine (stamp_any _ _).mono ?_); rintro e w' ⟨rfl, rfl⟩))
            have Hq : Hid _ := hfin6 (Ch.refl F _)
            have HN6 : Hid _ := hN6
            have Hs : Hid _ := hs
            clear hs hN6 hfin6 hF6
            go_roundw
            case rel =>
              obtain ⟨q', hq'⟩ := Hq.out
              have e := Hun.out
              rw [Hs.out] at e
              have hN := HN6.out
              refine ⟨q', i + 1, unl1 S ⟨xd, xa, xb, xs⟩, hq', by go_num, by omega, ?_, Hnext.out, Hall'.out⟩
              rw [← hq', e]
              exact hN
            case measure => simp [intOf]; omega
          · go_wp2_with (first
              | (go_at_call 132; go_must (refine (unlock_any _ _).mono ?_); rintro e w' ⟨rfl, rfl⟩)
              | (go_at_call 119; go_must (refine (stamp_any _ _).mono ?_); rintro e w' ⟨rfl, rfl⟩)
              | (go_at_call 130; go_must (refine (drop_m I S.1 (aput S.2 ⟨xd, xa, xb, xs⟩ { z.cl with wd := unlockZ z.wd }) F ⟨xd, xa, xb, xs⟩ _ hN6 hF6 { z.cl with wd := unlockZ z.wd } (by rw [aget_aput, if_pos rfl])).mono ?_); rintro e w' ⟨rfl, p, rfl, hN7⟩))
            have Hq : Hid _ := hfin6 p
            have HN6 : Hid _ := hN7
            have Hs : Hid _ := hs
            clear hs hN7 hN6 hfin6 hF6
            go_roundw
            case rel =>
              obtain ⟨q', hq'⟩ := Hq.out
              have e := Hun.out
              rw [Hs.out] at e
              have hN := HN6.out
              refine ⟨q', i + 1, unl1 S ⟨xd, xa, xb, xs⟩, hq', by go_num, by omega, ?_, Hnext.out, Hall'.out⟩
              rw [← hq', e]
              exact hN
            case measure => simp [intOf]; omega
        · go_wp2_with fail
          go_ret
          have h3 := Hfold.out
          rw [List.drop_eq_nil_of_le (by have := HN.out; omega)] at h3
          have e : unlM A L who ks = (0, S) := by unfold unlM; rw [HOk.out, if_pos rfl, ← h3]; rfl
          obtain ⟨q', hq'⟩ := fin q
          rw [e]
          exact ⟨rfl, q', hq', hq' ▸ hS⟩
theorem unlock_m (I : Ids) (A : ArenaSt) (L : List (Key × Cl)) (F : Nat → Prop) (who : Int) (fa : Option Addr) (n cap : Nat) (ks : List Key) (w : World) (h : StN w I A L F) (hF : ∀ b, w.heap.size ≤ b → F b)
    (hk : KeysIn w fa ks) (hfa : ∀ a, fa = some a → ¬ F a.block) (hn : n = ks.length) (hcap : n ≤ cap) (hb : n < 4611686018427387904) :
    Calls Try.prog 32 #[.pointer (some ⟨I.s, 0, none⟩), .int .i64 who, .slice fa n cap] w fun e w' => e = .returned (.int .i64 (unlM A L who ks).1) ∧ ∃ p : Ch F w, w' = p.w ∧ StN p.w I (unlM A L who ks).2.1 (unlM A L who ks).2.2 F :=
  unlock_mw I A L F who fa n cap ks w h hF hk (.inr hfa) hn hcap hb
end Go.Proofs.Cob
