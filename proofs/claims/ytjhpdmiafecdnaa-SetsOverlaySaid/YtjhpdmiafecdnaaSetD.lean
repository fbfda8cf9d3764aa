/-
  Layer 13: Reads, Drop on sets in memory.
-/
import Derived.Test.YtjhpdmiafecdnaaSetC
import Derived.Test.YtjhpdmiafecdnaaUnlock
namespace Go.Proofs.Cob
open Go Go.RowKit Go.Cob
set_option linter.unusedSimpArgs false
set_option linter.unusedVariables false

theorem KeysOut.backS {w0 : World} {v : Value} {ks : List Key} {w' : World} (p : Ext w0) (h : KeysOut p.w v ks w') : KeysOut w0 v ks w' := by
  obtain ⟨q, rfl, fa, cap, h1, h2, h3, h4⟩ := h
  refine ⟨p.thenE q, rfl, fa, cap, h1, h2, h3, ?_⟩
  rcases h4 with h4 | ⟨g, c, h5, h6, h7⟩
  · exact .inl h4
  · exact .inr ⟨g, c, h5, Nat.le_trans p.size h6, h7⟩
set_option maxRecDepth 4000 in
theorem reads_s (s : Nat) (S : List (Key × Sn)) (W M : List (Key × Tx)) (F : Nat → Prop) (w : World) (h : SetM w s S W M F) (hl : S.length < 1099511627776) :
    Calls Try.prog 66 #[.pointer (some ⟨s, 0, none⟩)] w fun e w' => ∃ v, e = .returned v ∧ KeysOut w v (sortK (S.map (·.1))) w' := by
  obtain ⟨⟨a, b, c, h1, h2, h3, h4, h5, -⟩, -⟩ := h
  have s0 : w.cell? ⟨s, 0, none⟩ = some (.map (some a)) := cell_at 0 h1
  go_enter Try.func66, Try.ntmps66
  go_wp2_with fail
  go_at_call 161
  refine (keysOf161 a w).mono ?_
  rintro e w' ⟨rfl, rfl⟩
  have hcc := sorted212 snV w.heap.size a S (w.alloc (.cells #[.map (some a)] 229)) (heap_alloc_at _ _) (h2.ext ((Ch.refl NoS w).alloc _)) hl
  obtain ⟨p, hp⟩ : ∃ p : Ext w, w.alloc (.cells #[.map (some a)] 229) = p.w := ⟨(Ch.refl NoS w).alloc _, rfl⟩
  obtain ⟨n, hn⟩ : ∃ n, n = w.heap.size := ⟨_, rfl⟩
  rw [hp, ← hn] at hcc
  rw [hp, ← hn]
  clear hp hn s0 h1 h2 h3 h4
  go_wp2_with fail
  go_at_call 160
  refine hcc.mono ?_
  clear hcc
  rintro e w' ⟨v, rfl, hK⟩
  have hK' := KeysOut.backS p hK
  clear hK
  go_wp2_with fail
  go_ret
  exact ⟨v, rfl, hK'⟩

def anyUnseen (S : List (Key × Sn)) (ks : List Key) : Bool := ks.any (unseenM S)
set_option maxRecDepth 4000 in
set_option maxHeartbeats 1600000 in
theorem indexFunc_s (s : Nat) (S : List (Key × Sn)) (W M : List (Key × Tx)) (F : Nat → Prop) (fa : Option Addr) (cap : Nat) (ks : List Key) (w : World) (h : SetM w s S W M F) (hK : KeysIn w fa ks) (hcap : ks.length ≤ cap) (hb : ks.length < 4611686018427387904) :
    Calls Try.prog 208 #[.slice fa ks.length cap, .func (.func 157) #[.pointer (some ⟨s, 0, none⟩)] #[]] w fun e w' => (∃ i : Int, e = .returned (.int .i64 i) ∧ decide (0 ≤ i) = anyUnseen S ks) ∧ ∃ p : Ext w, w' = p.w := by
  have eg : ∀ args w, (callFunc 157 args).run Try.prog w = .ok (.enter 157 args) w := enters_of Try.func157 (by kernel_rfl) rfl
  have HS : Hid _ := h
  have HK : Hid (KeysIn w fa ks) := hK
  clear h hK
  go_enter Try.func208, Try.ntmps208
  go_wp2_with fail
  go_loopw [5, 8] (fun _ v w' => ∃ (p : Ext w) (i : Nat), w' = p.w ∧ v = .int .i64 i ∧ i ≤ ks.length ∧ anyUnseen S ks = anyUnseen S (ks.drop i)) (fun _ v _ => ks.length - (intOf v).toNat)
  case atStart => exact ⟨Ch.refl NoS w, 0, rfl, rfl, by omega, rfl⟩
  case round =>
    obtain ⟨p, i, rfl, rfl, hi, hany⟩ := hrel
    have HA : Hid _ := hany
    clear hany
    by_cases h1 : i < ks.length
    · obtain ⟨⟨xd, xa, xb, xs⟩, hx, b, off, rfl, hc⟩ := KeysIn.get (KeysIn.ext HK.out p) h1
      have y0 := hc.c0
      have y1 := hc.c1
      have y2 := hc.c2
      have y3 := hc.c3
      have Hx : Hid (ks[i]? = some ⟨xd, xa, xb, xs⟩) := hx
      have hcb : i ≤ cap := by omega
      clear hc hx
      go_wp2_with fail
      have hcc := unseen_s s S W M F ⟨xd, xa, xb, xs⟩ p.w (HS.out.ext p)
      have hd := drop_cons Hx.out
      cases hu : unseenM S ⟨xd, xa, xb, xs⟩
      · rw [hu] at hcc
        have Hn : Hid (anyUnseen S ks = anyUnseen S (ks.drop (i + 1))) := by
          show _ = _
          rw [HA.out, hd]
          simp [anyUnseen, hu]
        clear hd hu y0 y1 y2 y3 HA
        refine hcc.mono ?_
        clear hcc
        rintro e w' ⟨rfl, q, rfl⟩
        obtain ⟨p2, hp2⟩ : ∃ p2 : Ext w, q.w = p2.w := ⟨p.thenE q, rfl⟩
        rw [hp2]
        clear hp2 q p
        go_wp2_with fail
        go_roundw
        case rel => exact ⟨p2, i + 1, rfl, by go_num, by omega, Hn.out⟩
        case measure => simp [intOf]; omega
      · rw [hu] at hcc
        have Hn : Hid (anyUnseen S ks = true) := by
          show _ = _
          rw [HA.out, hd]
          simp [anyUnseen, hu]
        clear hd hu y0 y1 y2 y3 HA
        refine hcc.mono ?_
        clear hcc
        rintro e w' ⟨rfl, q, rfl⟩
        obtain ⟨p2, hp2⟩ : ∃ p2 : Ext w, q.w = p2.w := ⟨p.thenE q, rfl⟩
        rw [hp2]
        clear hp2 q p
        go_wp2_with fail
        go_ret
        exact ⟨⟨_, rfl, by rw [Hn.out]; simp⟩, p2, rfl⟩
    · have hd : ks.drop i = [] := List.drop_eq_nil_of_le (by omega)
      have Hn : Hid (anyUnseen S ks = false) := by
        show _ = _
        rw [HA.out, hd]
        rfl
      clear hd HA
      go_wp2_with fail
      go_ret
      exact ⟨⟨_, rfl, by rw [Hn.out]; rfl⟩, p, rfl⟩
theorem containsFunc_s (s : Nat) (S : List (Key × Sn)) (W M : List (Key × Tx)) (F : Nat → Prop) (fa : Option Addr) (cap : Nat) (ks : List Key) (w : World) (h : SetM w s S W M F) (hK : KeysIn w fa ks) (hcap : ks.length ≤ cap) (hb : ks.length < 4611686018427387904) :
    Calls Try.prog 158 #[.slice fa ks.length cap, .func (.func 157) #[.pointer (some ⟨s, 0, none⟩)] #[]] w fun e w' => e = .returned (.bool (anyUnseen S ks)) ∧ ∃ p : Ext w, w' = p.w := by
  have hcc := indexFunc_s s S W M F fa cap ks w h hK hcap hb
  clear h hK
  go_enter Try.func158, Try.ntmps158
  go_wp2_with fail
  go_at_call 208
  refine hcc.mono ?_
  clear hcc
  rintro e w' ⟨⟨i, rfl, hi⟩, p, rfl⟩
  have Hi : Hid _ := hi
  clear hi
  go_wp2_with fail
  go_ret
  exact ⟨by rw [← Hi.out]; rfl, p, rfl⟩
end Go.Proofs.Cob
