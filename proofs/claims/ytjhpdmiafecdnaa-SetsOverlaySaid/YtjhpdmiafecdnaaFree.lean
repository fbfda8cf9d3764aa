/-
  The cells' store (layer 9): Free.
-/
import Derived.Test.YtjhpdmiafecdnaaUnlock
namespace Go.Proofs.Cob
open Go Go.RowKit Go.Cob
set_option linter.unusedSimpArgs false
set_option linter.unusedVariables false

def fr1 (S : Nat × ArenaSt × List (Key × Cl)) (k : Key) : Nat × ArenaSt × List (Key × Cl) :=
  match aget S.2.2 k with
  | none => S
  | some z => if goneB z.wd && freeB z.wd then (S.1 + 1, dropM S.2.1 S.2.2 k) else S
def freeM (A : ArenaSt) (L : List (Key × Cl)) (ks : List Key) : Nat × ArenaSt × List (Key × Cl) := ks.foldl fr1 (0, A, L)

set_option maxRecDepth 4000 in
set_option maxHeartbeats 3200000 in
theorem free_mw (I : Ids) (A : ArenaSt) (L : List (Key × Cl)) (F : Nat → Prop) (fa : Option Addr) (n cap : Nat) (ks : List Key) (w : World) (h : StN w I A L F) (hF : ∀ b, w.heap.size ≤ b → F b)
    (hk : KeysIn w fa ks) (hfa : ks = [] ∨ ∀ a, fa = some a → ¬ F a.block) (hn : n = ks.length) (hb : n < 4611686018427387904) :
    Calls Try.prog 31 #[.pointer (some ⟨I.s, 0, none⟩), .slice fa n cap] w fun e w' => e = .returned (.int .i64 (freeM A L ks).1) ∧ ∃ p : Ch F w, w' = p.w ∧ StN p.w I (freeM A L ks).2.1 (freeM A L ks).2.2 F := by
  have HN : Hid (n = ks.length) := hn
  clear hn
  go_enter Try.func31, Try.ntmps31
  go_wp2_with fail
  go_loopw [5, 11] (fun c v w' => ∃ (q : Ch F w) (i : Nat) (S : Nat × ArenaSt × List (Key × Cl)), w' = q.w ∧ v = .int .i64 i ∧ c = .int .i64 S.1 ∧ S.1 ≤ i ∧ i ≤ n ∧ StN q.w I S.2.1 S.2.2 F ∧ (ks.drop i).foldl fr1 S = freeM A L ks) (fun _ v _ => n - (intOf v).toNat)
  case atStart => exact ⟨Ch.refl F w, 0, (0, A, L), rfl, rfl, rfl, by simp, by omega, h, rfl⟩
  case round =>
    obtain ⟨q, i, S, rfl, rfl, rfl, hSi, hi2, hS, hfold⟩ := hrel
    have Hfold : Hid _ := hfold
    clear hfold
    by_cases h2 : i < n
    · have h2' : i < ks.length := by have := HN.out; omega
      have hkq := hk.ch q (hfa.resolve_left (fun e => by rw [e] at h2'; simp at h2'))
      obtain ⟨⟨xd, xa, xb, xs⟩, hx, b, off, rfl, hc⟩ := hkq.get h2'
      have Hx : Hid (ks[i]? = some ⟨xd, xa, xb, xs⟩) := hx
      have hfinq : ∀ r : Ch F q.w, ∃ r' : Ch F w, r.w = r'.w := fun r => ⟨q.then r (fun _ _ h => h), rfl⟩
      have hFq : ∀ b, q.w.heap.size ≤ b → F b := fun b hb => hF b (by have := q.size; omega)
      have hnext : (ks.drop (i + 1)).foldl fr1 (fr1 S ⟨xd, xa, xb, xs⟩) = freeM A L ks := by
        rw [← Hfold.out, drop_cons hx]; rfl
      have Hnext : Hid _ := hnext
      clear h2' hx hkq h hF hk hnext
      generalize q.w = W3 at *
      clear q
      have y0 := hc.c0
      have y1 := hc.c1
      have y2 := hc.c2
      have y3 := hc.c3
      go_wp2_with fail
      obtain ⟨W4, hW4⟩ : ∃ W4, W4 = W3.alloc (.cells (keyCells xd xa xb xs) 23) := ⟨_, rfl⟩
      obtain ⟨kb', hkb'⟩ : ∃ kb', kb' = W3.heap.size := ⟨_, rfl⟩
      have hkb : W4.heap[kb']? = some (.cells (keyCells xd xa xb xs) 23 (0, 0)) := by rw [hW4, hkb']; exact heap_alloc_at _ _
      have hS4 : StN W4 I S.2.1 S.2.2 F := by rw [hW4]; exact hS.ext ((Ch.refl NoS W3).alloc _)
      have hfin4 : ∀ q : Ch F W4, ∃ q' : Ch F w, q.w = q'.w := fun q => hfinq (((Ch.refl F W3).alloc _).onto hW4 q (fun _ _ h => h))
      have hF4 : ∀ b, W4.heap.size ≤ b → F b := fun b hb => hFq b (by rw [hW4] at hb; simp at hb; omega)
      rw [← hkb', ← hW4]
      clear hkb' hW4 hS hfinq hFq y0 y1 y2 y3 hc
      clear W3
      have HSN : Hid _ := hS4
      obtain ⟨⟨⟨fv, l, g1, g2, g3⟩, g4, g5, g6⟩, g7⟩ := hS4
      have hm : aget S.2.2 ⟨xd, xa, xb, xs⟩ = (aget l ⟨xd, xa, xb, xs⟩).map Slot.cl := by rw [← g2]; exact aget_map (fun z => Slot.cl z) l _
      have Hm : Hid _ := hm
      clear hm
      have k0 : ∀ q : Ext W4, q.w.cell? ⟨kb', 0, none⟩ = some (.int .i64 xd) := fun q => cell_at 0 (q.blkE hkb); have k1 : ∀ q : Ext W4, q.w.cell? ⟨kb', 1, none⟩ = some (.int .i64 xa) := fun q => cell_at 1 (q.blkE hkb); have k2 : ∀ q : Ext W4, q.w.cell? ⟨kb', 2, none⟩ = some (.int .i64 xb) := fun q => cell_at 2 (q.blkE hkb); have k3 : ∀ q : Ext W4, q.w.cell? ⟨kb', 3, none⟩ = some (.string xs) := fun q => cell_at 3 (q.blkE hkb)
      have m1 : ∀ p : Ext W4, p.w.cell? ⟨I.s, 1, none⟩ = some (.map (some I.m)) := fun p => cell_at 1 (g1.ext p).st
      have hMp : ∀ p : Ext W4, MapAt keyV slotV p.w I.m l := fun p => (g1.ext p).mp
      cases hz : aget l ⟨xd, xa, xb, xs⟩ with
      | none =>
        have hfr : fr1 S ⟨xd, xa, xb, xs⟩ = S := by unfold fr1; rw [Hm.out, hz]; rfl
        have Hfr : Hid _ := hfr
        clear hfr
        refine wp_region_ch NoS (by kernel_rfl) (by kernel_rfl) (fun p hp => ?_); clear hp; (repeat (first | (refine wpMix_skip rfl rfl ?_) | (refine wpMix_step (fun K hK => ?_); go_simp; (with_reducible (refine hK _ _ ?_)); clear hK K))); refine wpMix_look (K := key_law) (encV := slotV) (k := ⟨xd, xa, xb, xs⟩) (l := l) (c := false) rfl _ _ rfl Try.underlying56 z178 rfl rfl (fun w' ⟨q, hq⟩ => by rw [hq]; exact hMp q) (v := .pointer none) (by rw [hz]; rfl) ?_; (repeat (first | (refine wpMix_skip rfl rfl ?_) | (refine wpMix_step (fun K hK => ?_); go_simp; (with_reducible (refine hK _ _ ?_)); clear hK K))); refine wpMix_nil ?_
        have Hq : Hid (∃ q' : Ch F w, p.w = q'.w) := hfin4 (p.up F)
        have HS5 : Hid (StN p.w I S.2.1 S.2.2 F) := HSN.out.ext p
        clear hz hfin4 hF4
        go_wp2_with fail
        go_roundw
        case rel =>
          obtain ⟨q', hq'⟩ := Hq.out
          have h3 := Hnext.out
          rw [Hfr.out] at h3
          exact ⟨q', i + 1, S, hq', by go_num, rfl, by omega, by omega, hq' ▸ HS5.out, h3⟩
        case measure => simp [intOf]; omega
      | some z =>
        have hzS : ∀ p : Ext W4, SlotIn p.w z := fun p => (g1.ext p).slots _ (aget_mem hz)
        refine wp_region_ch NoS (by kernel_rfl) (by kernel_rfl) (fun p hp => ?_); clear hp; (repeat (first | (refine wpMix_skip rfl rfl ?_) | (refine wpMix_step (fun K hK => ?_); go_simp; (with_reducible (refine hK _ _ ?_)); clear hK K))); refine wpMix_look (K := key_law) (encV := slotV) (k := ⟨xd, xa, xb, xs⟩) (l := l) (c := false) rfl _ _ rfl Try.underlying56 z178 rfl rfl (fun w' ⟨q, hq⟩ => by rw [hq]; exact hMp q) (v := .pointer (some ⟨z.x, 0, none⟩)) (by rw [hz]; rfl) ?_; (repeat (first | (refine wpMix_skip rfl rfl ?_) | (refine wpMix_step (fun K hK => ?_); go_simp; (with_reducible (refine hK _ _ ?_)); clear hK K))); refine wpMix_nil ?_
        have hzp := hzS p
        have hkp := p.blkE hkb
        have HS5 : Hid (StN p.w I S.2.1 S.2.2 F) := HSN.out.ext p
        have hfin5 : ∀ q : Ch F p.w, ∃ q' : Ch F w, q.w = q'.w := fun q => hfin4 ((p.up F).then q (fun _ _ h => h))
        have hF5 : ∀ b, p.w.heap.size ≤ b → F b := fun b hb => hF4 b (by have := p.size; omega)
        have hfr : fr1 S ⟨xd, xa, xb, xs⟩ = if goneB z.wd && freeB z.wd then (S.1 + 1, dropM S.2.1 S.2.2 ⟨xd, xa, xb, xs⟩) else S := by unfold fr1; rw [Hm.out, hz]; rfl
        have hag : aget S.2.2 ⟨xd, xa, xb, xs⟩ = some z.cl := by rw [Hm.out, hz]; rfl
        have Hfr : Hid _ := hfr
        have Hag : Hid _ := hag
        clear hfr hag k0 k1 k2 k3 m1 hMp hzS hfin4 hF4 hz g1 hkb HSN
        generalize p.w = W5 at *
        clear p W4
        have k0 : ∀ p : Ext W5, p.w.cell? ⟨kb', 0, none⟩ = some (.int .i64 xd) := fun p => cell_at 0 (p.blkE hkp)
        have k1 : ∀ p : Ext W5, p.w.cell? ⟨kb', 1, none⟩ = some (.int .i64 xa) := fun p => cell_at 1 (p.blkE hkp)
        have k2 : ∀ p : Ext W5, p.w.cell? ⟨kb', 2, none⟩ = some (.int .i64 xb) := fun p => cell_at 2 (p.blkE hkp)
        have k3 : ∀ p : Ext W5, p.w.cell? ⟨kb', 3, none⟩ = some (.string xs) := fun p => cell_at 3 (p.blkE hkp)
        cases hgo : goneB z.wd
        · have hf2 : fr1 S ⟨xd, xa, xb, xs⟩ = S := by rw [Hfr.out, hgo]; rfl
          have Hf2 : Hid _ := hf2
          clear hf2
          go_wp2_with (go_at_call 129; go_must (have hcc := slotAbsent_any _ _ _ _ _ _ _ hzp; rw [hgo] at hcc; refine hcc.mono ?_); clear hcc; rintro e w' ⟨rfl, p, rfl⟩)
          have Hq : Hid (∃ q' : Ch F w, p.w = q'.w) := hfin5 (p.up F)
          have HS6 : Hid (StN p.w I S.2.1 S.2.2 F) := HS5.out.ext p
          go_roundw
          case rel =>
            obtain ⟨q', hq'⟩ := Hq.out
            have h3 := Hnext.out
            rw [Hf2.out] at h3
            exact ⟨q', i + 1, S, hq', by go_num, rfl, by omega, by omega, hq' ▸ HS6.out, h3⟩
          case measure => simp [intOf]; omega
        · cases hfe : freeB z.wd
          · have hf2 : fr1 S ⟨xd, xa, xb, xs⟩ = S := by rw [Hfr.out, hgo, hfe]; rfl
            have Hf2 : Hid _ := hf2
            clear hf2
            go_wp2_with (first
              | (go_at_call 129; go_must (have hcc := slotAbsent_any _ _ _ _ _ _ _ hzp; rw [hgo] at hcc; refine hcc.mono ?_); clear hcc; rintro e w' ⟨rfl, p, rfl⟩)
              | (go_at_call 121; go_must (have hcc := locked_any _ _ _ _ _ _ _ (show SlotIn p.w z from p.blkE hzp); rw [hfe] at hcc; refine hcc.mono ?_); clear hcc; rintro e w' ⟨rfl, rfl⟩))
            have Hq : Hid (∃ q' : Ch F w, p.w = q'.w) := hfin5 (p.up F)
            have HS6 : Hid (StN p.w I S.2.1 S.2.2 F) := HS5.out.ext p
            go_roundw
            case rel =>
              obtain ⟨q', hq'⟩ := Hq.out
              have h3 := Hnext.out
              rw [Hf2.out] at h3
              exact ⟨q', i + 1, S, hq', by go_num, rfl, by omega, by omega, hq' ▸ HS6.out, h3⟩
            case measure => simp [intOf]; omega
          · have hf2 : fr1 S ⟨xd, xa, xb, xs⟩ = (S.1 + 1, dropM S.2.1 S.2.2 ⟨xd, xa, xb, xs⟩) := by rw [Hfr.out, hgo, hfe]; rfl
            have Hf2 : Hid _ := hf2
            clear hf2
            go_wp2_with (first
              | (go_at_call 129; go_must (have hcc := slotAbsent_any _ _ _ _ _ _ _ hzp; rw [hgo] at hcc; refine hcc.mono ?_); clear hcc; rintro e w' ⟨rfl, p, rfl⟩)
              | (go_at_call 121; go_must (have hcc := locked_any _ _ _ _ _ _ _ (show SlotIn p.w z from p.blkE hzp); rw [hfe] at hcc; refine hcc.mono ?_); clear hcc; rintro e w' ⟨rfl, rfl⟩)
              | (go_at_call 130; go_must (refine (drop_m I S.2.1 S.2.2 F ⟨xd, xa, xb, xs⟩ p.w (HS5.out.ext p) (fun b hb => hF5 b (by have := p.size; omega)) z.cl Hag.out).mono ?_); rintro e w' ⟨rfl, r, rfl, hN7⟩))
            have Hq : Hid (∃ q' : Ch F w, r.w = q'.w) := hfin5 ((p.up F).then r (fun _ _ h => h))
            have HS6 : Hid _ := hN7
            go_roundw
            case rel =>
              obtain ⟨q', hq'⟩ := Hq.out
              have h3 := Hnext.out
              rw [Hf2.out] at h3
              have h6 := HS6.out
              exact ⟨q', i + 1, (S.1 + 1, dropM S.2.1 S.2.2 ⟨xd, xa, xb, xs⟩), hq', by go_num, by go_num, by simp; omega, by omega, hq' ▸ h6, h3⟩
            case measure => simp [intOf]; omega
    · go_wp2_with fail
      go_ret
      have h3 := Hfold.out
      rw [List.drop_eq_nil_of_le (by have := HN.out; omega)] at h3
      have e : freeM A L ks = S := h3.symm
      rw [e]
      exact ⟨rfl, q, rfl, hS⟩
theorem free_m (I : Ids) (A : ArenaSt) (L : List (Key × Cl)) (F : Nat → Prop) (fa : Option Addr) (n cap : Nat) (ks : List Key) (w : World) (h : StN w I A L F) (hF : ∀ b, w.heap.size ≤ b → F b)
    (hk : KeysIn w fa ks) (hfa : ∀ a, fa = some a → ¬ F a.block) (hn : n = ks.length) (hb : n < 4611686018427387904) :
    Calls Try.prog 31 #[.pointer (some ⟨I.s, 0, none⟩), .slice fa n cap] w fun e w' => e = .returned (.int .i64 (freeM A L ks).1) ∧ ∃ p : Ch F w, w' = p.w ∧ StN p.w I (freeM A L ks).2.1 (freeM A L ks).2.2 F :=
  free_mw I A L F fa n cap ks w h hF hk (.inr hfa) hn hb
end Go.Proofs.Cob
