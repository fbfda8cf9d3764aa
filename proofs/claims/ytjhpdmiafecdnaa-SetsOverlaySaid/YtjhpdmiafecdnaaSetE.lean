/-
  Layer 13: Drop on sets in memory.
-/
import Derived.Test.YtjhpdmiafecdnaaSetD
namespace Go.Proofs.Cob
open Go Go.RowKit Go.Cob
set_option linter.unusedSimpArgs false
set_option linter.unusedVariables false

def drp1 (W : List (Key × Tx)) (k : Key) : List (Key × Tx) := aput W k ⟨⟨#[]⟩, false⟩
def dropS (S : List (Key × Sn)) (W : List (Key × Tx)) (ks : List Key) : Int × List (Key × Tx) := if anyUnseen S ks then (101, W) else (0, ks.foldl drp1 W)
theorem keysIn_chW {w : World} {fa : Option Addr} {ks : List Key} {T : Nat → Prop} (h : KeysIn w fa ks) (p : Ch T w) (hT : ks = [] ∨ ∀ a, fa = some a → ¬ T a.block) : KeysIn p.w fa ks := by
  rcases hT with h0 | hT
  · exact .inl h0
  · exact KeysIn.ch h p hT
set_option maxRecDepth 4000 in
set_option maxHeartbeats 1600000 in
theorem drop_s (s : Nat) (S : List (Key × Sn)) (W M : List (Key × Tx)) (F : Nat → Prop) (fa : Option Addr) (cap : Nat) (ks : List Key) (w : World) (h : SetM w s S W M F) (hF : ∀ b, w.heap.size ≤ b → F b) (hK : KeysIn w fa ks) (hfa : ks = [] ∨ ∀ a, fa = some a → ¬ F a.block) (hcap : ks.length ≤ cap) (hb : ks.length < 4611686018427387904) :
    Calls Try.prog 57 #[.pointer (some ⟨s, 0, none⟩), .slice fa ks.length cap] w fun e w' => e = .returned (.int .i64 (dropS S W ks).1) ∧ ∃ p : Ch F w, w' = p.w ∧ SetM p.w s S (dropS S W ks).2 M F := by
  have hcc := containsFunc_s s S W M F fa cap ks w h hK hcap hb
  have HS : Hid _ := h
  have HK : Hid (KeysIn w fa ks) := hK
  have Hfa : Hid _ := hfa
  clear h hK hfa
  unfold dropS
  cases hu : anyUnseen S ks
  · rw [hu] at hcc
    go_enter Try.func57, Try.ntmps57
    go_wp2_with fail
    go_at_call 158
    refine hcc.mono ?_
    clear hcc hu
    rintro e w' ⟨rfl, p0, rfl⟩
    go_wp2_with fail
    go_loopw [6, 13] (fun _ v w' => ∃ (p : Ch F w) (i : Nat) (W1 : List (Key × Tx)), w' = p.w ∧ v = .int .i64 i ∧ i ≤ ks.length ∧ SetM p.w s S W1 M F ∧ (ks.drop i).foldl drp1 W1 = ks.foldl drp1 W) (fun _ v _ => ks.length - (intOf v).toNat)
    case atStart => exact ⟨p0.up F, 0, W, rfl, rfl, by omega, HS.out.ext p0, rfl⟩
    case round =>
      obtain ⟨p, i, W1, rfl, rfl, hi, hS, hfold⟩ := hrel
      have HSp : Hid (SetM p.w s S W1 M F) := hS
      have HFo : Hid _ := hfold
      clear hS hfold
      by_cases h1 : i < ks.length
      · obtain ⟨⟨xd, xa, xb, xs⟩, hx, b, off, rfl, hc⟩ := KeysIn.get (keysIn_chW HK.out p Hfa.out) h1
        have y0 := hc.c0
        have y1 := hc.c1
        have y2 := hc.c2
        have y3 := hc.c3
        have Hx : Hid (ks[i]? = some ⟨xd, xa, xb, xs⟩) := hx
        have hcb : i ≤ cap := by omega
        clear hc hx
        go_wp2_with fail
        clear y0 y1 y2 y3
        obtain ⟨bk, hbk⟩ : ∃ n, n = p.w.heap.size := ⟨_, rfl⟩
        obtain ⟨p2, hp2⟩ : ∃ p2 : Ch F w, p.w.alloc (.cells (keyCells xd xa xb xs) 23) = p2.w := ⟨p.alloc _, rfl⟩
        have hkb : p2.w.heap[bk]? = some (.cells (keyCells xd xa xb xs) 23 (0, 0)) := by rw [← hp2, hbk]; exact heap_alloc_at _ _
        have hS2 : SetM p2.w s S W1 M F := by rw [← hp2]; exact HSp.out.ext ((Ch.refl NoS p.w).alloc _)
        rw [hp2, ← hbk]
        clear hp2 hbk HSp
        obtain ⟨⟨a, bm, c, g1, g2, g3, g4, g5, gF⟩, gs⟩ := hS2
        have H5 : Hid _ := g5
        have HF : Hid _ := gF
        have HFs : Hid _ := gs
        clear g5 gF gs
        have s1 : ∀ q : Ext p2.w, q.w.cell? ⟨s, 1, none⟩ = some (.map (some bm)) := fun q => cell_at 1 (q.blkE g1)
        have k0 : ∀ q : Ext p2.w, q.w.cell? ⟨bk, 0, none⟩ = some (.int .i64 xd) := fun q => cell_at 0 (q.blkE hkb)
        have k1 : ∀ q : Ext p2.w, q.w.cell? ⟨bk, 1, none⟩ = some (.int .i64 xa) := fun q => cell_at 1 (q.blkE hkb)
        have k2 : ∀ q : Ext p2.w, q.w.cell? ⟨bk, 2, none⟩ = some (.int .i64 xb) := fun q => cell_at 2 (q.blkE hkb)
        have k3 : ∀ q : Ext p2.w, q.w.cell? ⟨bk, 3, none⟩ = some (.string xs) := fun q => cell_at 3 (q.blkE hkb)
        clear hkb
        refine wp_region_lch NoS (by kernel_rfl) (by repeat constructor) (by kernel_rfl) (by kernel_rfl) (fun q hq => ?_)
        clear hq
        (repeat (first | (refine wpMix_skip rfl rfl ?_) | (refine wpMix_step (fun K hK => ?_); go_simp; (with_reducible (refine hK _ _ ?_)); clear hK K)))
        refine wpMix_nil ?_
        refine last_put (K := key_law) (encV := txV) (k := ⟨xd, xa, xb, xs⟩) (u := ⟨⟨#[]⟩, false⟩) (l := W1) rfl _ _ _ rfl Try.underlying230 rfl rfl rfl (g3.ext q) ?_
        intro ob hM
        have hS := SetM.put (F := F) (q.blkE g1) (g2.ext q) (g3.ext q) (g4.ext q) H5.out ⟨HFs.out, HF.out⟩ hM
        obtain ⟨r, hr⟩ : ∃ r : Ch F w, putO q.w bm ob = r.w := ⟨p2.then ((q.up F).putO bm ob (fun _ => HF.out.2.1)) (fun _ _ h => h), rfl⟩
        have HR : Hid (putO q.w bm ob = r.w) := hr
        have HSr : Hid _ := hS
        clear hS hM hr s1 k0 k1 k2 k3 g1 g2 g3 g4
        rw [HR.out] at HSr ⊢
        clear HR
        have Hn : Hid ((ks.drop (i + 1)).foldl drp1 (drp1 W1 ⟨xd, xa, xb, xs⟩) = ks.foldl drp1 W) := by
          rw [← HFo.out, drop_cons Hx.out]; rfl
        go_wp2_with fail
        go_roundw
        case rel => exact ⟨r, i + 1, drp1 W1 ⟨xd, xa, xb, xs⟩, rfl, by go_num, by omega, HSr.out, Hn.out⟩
        case measure => simp [intOf]; omega
      · have hd : ks.drop i = [] := List.drop_eq_nil_of_le (by omega)
        have Hn : Hid (W1 = ks.foldl drp1 W) := by
          have := HFo.out
          rw [hd] at this
          exact this
        clear hd HFo
        go_wp2_with fail
        go_ret
        exact ⟨rfl, p, rfl, by show SetM p.w s S (ks.foldl drp1 W) M F; rw [← Hn.out]; exact HSp.out⟩
  · rw [hu] at hcc
    go_enter Try.func57, Try.ntmps57
    go_wp2_with fail
    go_at_call 158
    refine hcc.mono ?_
    clear hcc hu
    rintro e w' ⟨rfl, p0, rfl⟩
    go_wp2_with fail
    go_ret
    exact ⟨rfl, p0.up F, rfl, HS.out.ext p0⟩
end Go.Proofs.Cob
