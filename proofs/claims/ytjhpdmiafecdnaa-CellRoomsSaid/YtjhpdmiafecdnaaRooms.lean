/-
  CellRooms, the walk: it returns true at whatever room and numbers.
-/
import Derived.Test.YtjhpdmiafecdnaaRoomsA
import Derived.Test.YtjhpdmiafecdnaaAwake
import Derived.Test.YtjhpdmiafecdnaaKp
import Derived.ChangeSlices
namespace Go.Proofs.Cob
open Go Go.RowKit Go.Cob
set_option linter.unusedSimpArgs false
set_option linter.unusedVariables false

/-- A slice of ints. -/
def IntsIn (w : World) (fa : Option Addr) (zs : List Int) : Prop := zs = [] ∨ ∃ b off, fa = some ⟨b, off, none⟩ ∧ ∀ i z, zs[i]? = some z → w.cell? ⟨b, off + i, none⟩ = some (.int .i64 z)
theorem IntsIn.ext {w : World} {fa : Option Addr} {zs : List Int} (h : IntsIn w fa zs) (p : Ext w) : IntsIn p.w fa zs := by
  rcases h with h | ⟨b, off, hfa, h⟩
  · exact .inl h
  · refine .inr ⟨b, off, hfa, fun i z hz => ?_⟩
    have := h i z hz
    rw [World.cell?_of_block (w := w) (a := ⟨b, off + i, none⟩) (p.same _ (World.block_lt_of_cell? w _ this) id)]
    exact this
theorem IntsIn.get {w : World} {fa : Option Addr} {zs : List Int} (h : IntsIn w fa zs) {i : Nat} (hi : i < zs.length) : ∃ z, ∃ b off, fa = some ⟨b, off, none⟩ ∧ w.cell? ⟨b, off + i, none⟩ = some (.int .i64 z) := by
  rcases h with rfl | ⟨b, off, rfl, h⟩
  · simp at hi
  · exact ⟨zs[i], b, off, rfl, h i _ (List.getElem?_eq_getElem hi)⟩

set_option maxRecDepth 100000 in
theorem trod_ints {H : Type} {enc : TypeId × Value → H} {W : World} {base fuel : Nat} {held : Bool} {cs : List Value} {x : DataW H × List MemPlace} (h : DataW.trod enc Try.prog W base (fun _ => true) held fuel 67 cs = some x) :
    ∃ (fa : Option Addr) (zs : List Int) (cap : Nat), cs = [.slice fa zs.length cap] ∧ IntsIn W fa zs ∧ zs.length ≤ cap := by
  rcases ChangeShapes.open_ints Try.underlying67 Try.underlying3 (by kernel_rfl) h with ⟨rfl, -⟩ | ⟨a, len, cap, zs, rfl, hb, hl, hm, hlen, -, hc, -⟩
  · exact ⟨none, [], 0, rfl, .inl rfl, by simp⟩
  · simp only [if_true] at hlen
    have hll : (zs.take len).length = len := by simp; omega
    refine ⟨some a, zs.take len, cap, by rw [hll], ?_, by rw [hll]; exact hl⟩
    rcases Nat.eq_zero_or_pos len with h0 | hp
    · subst h0; exact .inl (by simp)
    · obtain ⟨b, off, spot⟩ := a
      have hspot : spot = none := by
        have := World.cell?_spot (hc 0 (by omega))
        simpa [Addr.add] using this
      subst hspot
      refine .inr ⟨b, off, rfl, fun i z hz => ?_⟩
      rw [List.getElem?_take] at hz
      split at hz
      · have h3 : i < zs.length := (List.getElem?_eq_some_iff.1 hz).1
        have := hc i h3
        rw [add_none] at this
        rw [this, List.getD_eq_getElem?_getD, hz]
        rfl
      · cases hz
theorem roomN (room : Int) : ∃ n : Nat, (wrap64 (room.tmod 20 + 20)).tmod 20 = n ∧ n < 20 := by
  have h1 := Int.tmod_lt_of_pos room (show (0 : Int) < 20 by decide)
  have h2 := Int.lt_tmod_of_pos room (show (0 : Int) < 20 by decide)
  have e : wrap64 (room.tmod 20 + 20) = room.tmod 20 + 20 := by unfold wrap64; omega
  rw [e]
  have h3 := Int.tmod_lt_of_pos (room.tmod 20 + 20) (show (0 : Int) < 20 by decide)
  have h4 : 0 ≤ (room.tmod 20 + 20).tmod 20 := Int.tmod_nonneg _ (by omega)
  exact ⟨((room.tmod 20 + 20).tmod 20).toNat, by omega, by omega⟩
abbrev RB (b13 b14 b16 : Nat) (X : Int) (z : Cl) : List Box := [(b16, 37, #[.int .u64 5, .string z.text, .bool true]), (b14, 143, #[.int .i64 z.sl, .int .i64 z.gen]), (b13, 23, keyCells 1 X 0 ⟨#[]⟩)]
set_option maxRecDepth 4000 in
set_option maxHeartbeats 6400000 in
theorem cellRooms_any (room : Int) (fa : Option Addr) (zs : List Int) (cap : Nat) (w : World) (hx : IntsIn w fa zs) (hcap : zs.length ≤ cap) :
    Calls Try.prog 15 #[.int .i64 room, .slice fa zs.length cap] w fun e w' => e = .returned (.bool true) ∧ ∃ p : Ext w, w' = p.w := by
  by_cases h1 : (40 : Int) < (zs.length : Int)
  · go_enter Try.func15, Try.ntmps15
    go_wp2_with (go_at_call 21; go_must (refine (awake_any _).mono ?_); rintro e w' ⟨rfl, p, rfl⟩)
    go_ret
    exact ⟨rfl, Ch.thenE _ p, rfl⟩
  go_enter Try.func15, Try.ntmps15
  go_wp2_with fail
  go_at_call 21
  refine (awake_any _).mono ?_
  rintro e w' ⟨rfl, q, rfl⟩
  have HC : Hid (Scene w q.w []) := (Scene.refl w).ext q
  generalize q.w = W' at HC ⊢
  clear q
  go_wp2_with fail
  obtain ⟨n, hn, hn20⟩ := roomN room
  simp only [hn]
  clear hn
  generalize wrap64 (room.tmod 20 + 20) = x1
  generalize room.tmod 20 = x2
  go_at_call 24
  refine (cellNew_n n _ (by omega) (by omega)).mono ?_
  rintro e w' ⟨I, rfl, q, rfl, hS⟩
  have HS : Hid (StN q.w I ⟨n, 0, [], [], []⟩ [] (Wide w [])) := hS.mono (fun b _ h => HC.out.wide b h)
  replace HC : Hid _ := HC.out.ext q
  clear hS
  generalize q.w = W' at HS HC ⊢
  clear q
  go_wp2_with fail
  go_loopw [8] (fun v wr => Scene w wr [] ∧ ∃ (A : ArenaSt) (L : List (Key × Cl)) (i : Nat), StN wr I A L (Wide w []) ∧ v = .int .i64 i ∧ i ≤ n ∧ Fill n i A L) (fun v _ => n - (intOf v).toNat)
  case atStart => exact ⟨HC.out, _, _, 0, HS.out, rfl, by omega, Fill.empty n⟩
  case round =>
    clear HC HS
    obtain ⟨hC, A, L, i, hS, rfl, hi, hF⟩ := hrel
    have HC : Hid _ := hC
    have HS : Hid _ := hS
    have HF : Hid _ := hF
    clear hC hS hF
    rename World => W'
    by_cases h2 : i < n
    · obtain ⟨A', L1, L', e1, e2, hF'⟩ := HF.out.step h2 HS.out.st.hi
      have E1 : Hid _ := e1
      have E2 : Hid _ := e2
      have HF' : Hid _ := hF'
      clear e1 e2 hF'
      go_wp2_with fail
      go_at_call 88
      refine (key_any _ _).mono ?_
      rintro e w' ⟨rfl, q, rfl⟩
      replace HS : Hid _ := HS.out.ext q; replace HC : Hid _ := HC.out.ext q; generalize q.w = W' at HS HC ⊢; clear q
      go_wp2_with fail
      go_at_call 25
      have hcc := lock_n I _ _ _ (keyN i) 1 _ HS.out HC.out.wide
      rw [E1.out] at hcc
      refine hcc.mono ?_
      clear hcc
      rintro e w' ⟨rfl, q, rfl, hS⟩
      replace HS : Hid _ := hS; replace HC : Hid _ := HC.out.ch q; clear hS; generalize q.w = W' at HS HC ⊢; clear q
      go_wp2_with fail
      go_at_call 88
      refine (key_any _ _).mono ?_
      rintro e w' ⟨rfl, q, rfl⟩
      replace HS : Hid _ := HS.out.ext q; replace HC : Hid _ := HC.out.ext q; generalize q.w = W' at HS HC ⊢; clear q
      go_wp2_with fail
      go_at_call 27
      refine (seen_any _ _).mono ?_
      rintro e w' ⟨rfl, q, rfl⟩
      replace HS : Hid _ := HS.out.ext q; replace HC : Hid _ := HC.out.ext q; generalize q.w = W' at HS HC ⊢; clear q
      go_wp2_with fail
      go_at_call 26
      have hcc := install_n I _ _ _ (keyN i) 1 5 0 ⟨#[120]⟩ true _ HS.out
      rw [E2.out] at hcc
      refine hcc.mono ?_
      clear hcc
      rintro e w' ⟨rfl, q, rfl, hS⟩
      replace HS : Hid _ := hS; replace HC : Hid _ := HC.out.ch q; clear hS; generalize q.w = W' at HS HC ⊢; clear q
      go_wp2_with fail
      go_roundw
      case rel => exact ⟨HC.out, A', L', i + 1, HS.out, by go_num, by omega, HF'.out⟩
      case measure => simp [intOf]; omega
    · obtain rfl : i = n := by omega
      go_wp2_with fail
      go_at_call 88
      refine (key_any _ _).mono ?_
      rintro e w' ⟨rfl, q, rfl⟩
      replace HS : Hid _ := HS.out.ext q; replace HC : Hid _ := HC.out.ext q; generalize q.w = W' at HS HC ⊢; clear q
      go_wp2_with fail
      go_at_call 25
      have hcc := lock_n I _ _ _ (keyN i) 1 _ HS.out HC.out.wide
      rw [HF.out.full HS.out.st.hi] at hcc
      refine hcc.mono ?_
      clear hcc
      rintro e w' ⟨rfl, q, rfl, hS⟩
      replace HS : Hid _ := hS; replace HC : Hid _ := HC.out.ch q; clear hS; generalize q.w = W' at HS HC ⊢; clear q
      have s0 : W'.cell? ⟨I.s, 0, none⟩ = some (.pointer (some ⟨I.a, 0, none⟩)) := cell_at 0 HS.out.at
      go_wp2_with fail
      go_at_call 34
      have hcc := len_n HS.out
      rw [HF.out.left.taken] at hcc
      refine hcc.mono ?_
      clear hcc s0
      rintro e w' ⟨rfl, rfl⟩
      go_wp2_with fail
      have HL0 : Hid _ := HF.out.left
      clear HF hi h2
      generalize A = A0 at HS HL0
      generalize L = L0 at HS HL0
      go_loopw [11, 12] (fun lf v wr => Scene w wr [] ∧ ∃ (A : ArenaSt) (L : List (Key × Cl)) (left j : Nat), StN wr I A L (Wide w []) ∧ lf = .int .i64 left ∧ v = .int .i64 j ∧ j ≤ zs.length ∧ left ≤ i ∧ Left left A L) (fun _ v _ => zs.length - (intOf v).toNat)
      case atStart => exact ⟨HC.out, A0, L0, i, 0, HS.out, rfl, rfl, by omega, by omega, HL0.out⟩
      case round =>
        clear HC HS HL0 A0 L0
        obtain ⟨hC, A, L, left, j, hS, rfl, rfl, hj, hleft, hL⟩ := hrel
        have HC : Hid _ := hC
        have HS : Hid _ := hS
        have HL : Hid _ := hL
        clear hC hS hL
        rename World => W'
        by_cases hend : j < zs.length ∧ 0 < i
        · obtain ⟨h3, h4⟩ := hend
          obtain ⟨p, hp⟩ := HC.out.fin
          obtain ⟨z, b, off, rfl, hzc⟩ := (hx.ext p).get h3
          rw [← hp] at hzc
          clear hp p
          have h4' : ((i : Int) == 0) = false := by simp; omega
          go_wp2_with fail
          generalize (wrap64 (z.tmod (i : Int) + (i : Int))).tmod (i : Int) = X
          generalize wrap64 (z.tmod (i : Int) + (i : Int)) = Y
          generalize z.tmod (i : Int) = Z
          clear hzc
          go_at_call 88
          refine (key_any _ _).mono ?_
          rintro e w' ⟨rfl, q, rfl⟩
          replace HS : Hid _ := HS.out.ext q; replace HC : Hid _ := HC.out.ext q; generalize q.w = W' at HS HC ⊢; clear q
          go_wp2_with fail
          obtain ⟨b13, hb13⟩ : ∃ n, n = W'.heap.size := ⟨_, rfl⟩; replace HS : Hid _ := HS.out.box (keyCells 1 X 0 ⟨#[]⟩) 23; replace HC : Hid _ := HC.out.alloc (keyCells 1 X 0 ⟨#[]⟩) 23; rw [← hb13] at HS HC ⊢; clear hb13; generalize World.alloc W' _ = W' at HS HC ⊢
          go_at_call 89
          have hcc := handle_m I A L _ (keyN X) W' HS.out.st
          cases hg : aget L (keyN X) with
          | none =>
            have e : handleM L (keyN X) = ((0, 0), false) := by unfold handleM; rw [hg]
            rw [e] at hcc
            refine hcc.mono ?_
            clear hcc e hg
            rintro e w' ⟨rfl, q, rfl⟩
            replace HS : Hid _ := HS.out.ext q; replace HC : Hid _ := HC.out.ext q; generalize q.w = W' at HS HC ⊢; clear q
            go_wp2_with fail
            replace HS : Hid _ := HS.out.box #[.int .i64 0, .int .i64 0] 143
            replace HC : Hid _ := HC.out.alloc #[.int .i64 0, .int .i64 0] 143
            go_roundw
            case rel => exact ⟨HC.out.drop.drop, A, L, left, j + 1, HS.out.drop.drop, rfl, by go_num, by omega, by omega, HL.out⟩
            case measure => simp [intOf]; omega
          | some z =>
            rw [Left.handle hg] at hcc
            refine hcc.mono ?_
            clear hcc
            rintro e w' ⟨rfl, q, rfl⟩
            replace HS : Hid _ := HS.out.ext q; replace HC : Hid _ := HC.out.ext q; generalize q.w = W' at HS HC ⊢; clear q
            have hb := HC.out.cell (.head _); have k0 : W'.cell? ⟨b13, 0, none⟩ = some (.int .i64 1) := cell_at 0 hb; have k1 : W'.cell? ⟨b13, 1, none⟩ = some (.int .i64 X) := cell_at 1 hb; have k2 : W'.cell? ⟨b13, 2, none⟩ = some (.int .i64 0) := cell_at 2 hb; have k3 : W'.cell? ⟨b13, 3, none⟩ = some (.string ⟨#[]⟩) := cell_at 3 hb; have l3 : b13 < W'.heap.size := lt_of_blk hb; have n3 : b13 ≠ W'.heap.size := Nat.ne_of_lt l3; clear hb
            have Hg : Hid _ := hg
            clear hg
            go_wp2_with fail
            clear k0 k1 k2 k3 l3 n3
            obtain ⟨b14, hb14⟩ : ∃ n, n = W'.heap.size := ⟨_, rfl⟩; replace HS : Hid _ := HS.out.box #[.int .i64 z.sl, .int .i64 z.gen] 143; replace HC : Hid _ := HC.out.alloc #[.int .i64 z.sl, .int .i64 z.gen] 143; rw [← hb14] at HS HC ⊢; clear hb14; generalize World.alloc W' _ = W' at HS HC ⊢
            go_at_call 28
            have hcc := read_m I _ _ _ (keyN X) _ HS.out.st
            rw [Left.read HL.out Hg.out] at hcc
            refine hcc.mono ?_
            clear hcc
            rintro e w' ⟨rfl, q, rfl⟩
            replace HS : Hid _ := HS.out.ext q; replace HC : Hid _ := HC.out.ext q; generalize q.w = W' at HS HC ⊢; clear q
            go_wp2_with fail
            obtain ⟨b16, hb16⟩ : ∃ n, n = W'.heap.size := ⟨_, rfl⟩; replace HS : Hid _ := HS.out.box #[.int .u64 5, .string z.text, .bool true] 37; replace HC : Hid _ := HC.out.alloc #[.int .u64 5, .string z.text, .bool true] 37; rw [← hb16] at HS HC ⊢; clear hb16; generalize World.alloc W' _ = W' at HS HC ⊢
            have hb3 := HC.out.cell (.tail _ (.tail _ (.head _)))
            have hb4 := HC.out.cell (.tail _ (.head _))
            have ne3 : ¬ Wide w (RB b13 b14 b16 X z) b13 := fun h => h.2 _ (.tail _ (.tail _ (.head _))) rfl
            have ne4 : ¬ Wide w (RB b13 b14 b16 X z) b14 := fun h => h.2 _ (.tail _ (.head _)) rfl
            have k0 : ∀ p : Kp (Wide w (RB b13 b14 b16 X z)) W' I.s (stObj I), p.p.w.cell? ⟨b13, 0, none⟩ = some (.int .i64 1) := (fun p => cell_at 0 (p.p.blk hb3 ne3)); have k1 : ∀ p : Kp (Wide w (RB b13 b14 b16 X z)) W' I.s (stObj I), p.p.w.cell? ⟨b13, 1, none⟩ = some (.int .i64 X) := (fun p => cell_at 1 (p.p.blk hb3 ne3)); have k2 : ∀ p : Kp (Wide w (RB b13 b14 b16 X z)) W' I.s (stObj I), p.p.w.cell? ⟨b13, 2, none⟩ = some (.int .i64 0) := (fun p => cell_at 2 (p.p.blk hb3 ne3)); have k3 : ∀ p : Kp (Wide w (RB b13 b14 b16 X z)) W' I.s (stObj I), p.p.w.cell? ⟨b13, 3, none⟩ = some (.string ⟨#[]⟩) := (fun p => cell_at 3 (p.p.blk hb3 ne3)); have h0 : ∀ p : Kp (Wide w (RB b13 b14 b16 X z)) W' I.s (stObj I), p.p.w.cell? ⟨b14, 0, none⟩ = some (.int .i64 z.sl) := (fun p => cell_at 0 (p.p.blk hb4 ne4)); have h1' : ∀ p : Kp (Wide w (RB b13 b14 b16 X z)) W' I.s (stObj I), p.p.w.cell? ⟨b14, 1, none⟩ = some (.int .i64 z.gen) := (fun p => cell_at 1 (p.p.blk hb4 ne4)); have s0 : ∀ p : Kp (Wide w (RB b13 b14 b16 X z)) W' I.s (stObj I), p.p.w.cell? ⟨I.s, 0, none⟩ = some (.pointer (some ⟨I.a, 0, none⟩)) := (fun p => cell_at 0 p.st)
            clear hb3 hb4
            haveI : Nonempty (Kp (Wide w (RB b13 b14 b16 X z)) W' I.s (stObj I)) := ⟨⟨Ch.refl _ _, HS.out.at⟩⟩; refine wp_region_kp (Wide w (RB b13 b14 b16 X z)) I.s (stObj I) HS.out.at (by kernel_rfl) (by kernel_rfl) (fun p hp => ?_); have HSp : Hid (StN p.p.w I _ _ (Wide w (RB b13 b14 b16 X z))) := HS.out.heapEq hp; have HCp : Hid (Scene w p.p.w _) := HC.out.ch p.p; clear hp
            (repeat (first | (refine wpMix_skip rfl rfl ?_) | (refine wpMix_step (fun K hK => ?_); go_simp; (with_reducible (refine hK _ _ ?_)); clear hK K)))
            refine wpMix_step (fun K hK => ?_); go_simp; obtain ⟨n1, hn1⟩ : ∃ n, n = p.p.w.heap.size := ⟨_, rfl⟩; obtain ⟨p1, hp1⟩ : ∃ p1 : Kp (Wide w (RB b13 b14 b16 X z)) W' I.s (stObj I), p.p.w.alloc (.cells (keyCells 1 X 0 ⟨#[]⟩) 23) = p1.p.w := ⟨⟨p.p.alloc _, heap_alloc_blk _ p.st⟩, rfl⟩; have HSq : Hid _ := HSp.out.box (keyCells 1 X 0 ⟨#[]⟩) 23; have HCq : Hid _ := HCp.out.alloc (keyCells 1 X 0 ⟨#[]⟩) 23; rw [← hn1] at HSq HCq ⊢; rw [hp1] at HSq HCq ⊢; refine ⟨⟨p1, rfl⟩, hK _ _ ?_⟩; clear hK K hn1 hp1 HSp HCp
            (repeat (first | (refine wpMix_skip rfl rfl ?_) | (refine wpMix_step (fun K hK => ?_); go_simp; (with_reducible (refine hK _ _ ?_)); clear hK K)))
            refine wpMix_step (fun K hK => ?_); go_simp
            have hcc := free_m I A L _ (some ⟨n1, 0, none⟩) 1 1 [keyN X] _ HSq.out HCq.out.wide (keysIn_box (HCq.out.cell (.head _))) (fun a ha hw => hw.2 _ (.head _) (by cases ha; rfl)) rfl (by decide)
            rw [Left.stay HL.out Hg.out] at hcc
            refine hcc.mono ?_
            clear hcc
            rintro e w' ⟨rfl, q, rfl, hS⟩; obtain ⟨p, hp2⟩ : ∃ p2 : Kp (Wide w (RB b13 b14 b16 X z)) W' I.s (stObj I), q.w = p2.p.w := ⟨⟨p1.p.then q (fun b _ hb => wide_tail b hb), hS.at⟩, rfl⟩; have HSp : Hid _ := hS.drop; have HCp : Hid _ := (HCq.out.ch q).drop; rw [hp2] at HSp HCp ⊢; refine ⟨⟨p, rfl⟩, hK _ _ ?_⟩; clear hK K hp2 hS q HSq HCq
            (repeat (first | (refine wpMix_skip rfl rfl ?_) | (refine wpMix_step (fun K hK => ?_); go_simp; (with_reducible (refine hK _ _ ?_)); clear hK K)))
            refine wpMix_step (fun K hK => ?_); go_simp
            have hcc := live_n HSp.out z.sl z.gen
            rw [Left.live HL.out Hg.out] at hcc
            refine hcc.mono ?_
            clear hcc
            rintro e w' ⟨rfl, q, rfl⟩; obtain ⟨p3, hp2⟩ : ∃ p2 : Kp (Wide w (RB b13 b14 b16 X z)) W' I.s (stObj I), q.w = p2.p.w := ⟨⟨p.p.thenE q, q.blkE p.st⟩, rfl⟩; replace HSp : Hid _ := HSp.out.ext q; replace HCp : Hid _ := HCp.out.ext q; rw [hp2] at HSp HCp ⊢; refine ⟨⟨p3, rfl⟩, hK _ _ ?_⟩; clear hK K hp2 q
            (repeat (first | (refine wpMix_skip rfl rfl ?_) | (refine wpMix_step (fun K hK => ?_); go_simp; (with_reducible (refine hK _ _ ?_)); clear hK K)))
            refine wpMix_nil ?_
            replace HS : Hid _ := HSp.out
            replace HC : Hid _ := HCp.out
            clear k0 k1 k2 k3 h0 h1' s0 HSp HCp p p1
            generalize p3.p.w = W' at HS HC ⊢
            clear p3
            have hb := HC.out.cell (.tail _ (.tail _ (.head _))); have k0 : W'.cell? ⟨b13, 0, none⟩ = some (.int .i64 1) := cell_at 0 hb; have k1 : W'.cell? ⟨b13, 1, none⟩ = some (.int .i64 X) := cell_at 1 hb; have k2 : W'.cell? ⟨b13, 2, none⟩ = some (.int .i64 0) := cell_at 2 hb; have k3 : W'.cell? ⟨b13, 3, none⟩ = some (.string ⟨#[]⟩) := cell_at 3 hb; have l3 : b13 < W'.heap.size := lt_of_blk hb; have n3 : b13 ≠ W'.heap.size := Nat.ne_of_lt l3; clear hb
            go_wp2_with fail
            clear k0 k1 k2 k3 l3 n3
            go_at_call 25
            have hcc := lock_n I _ _ _ (keyN X) 2 _ HS.out HC.out.wide
            rw [Left.lock HL.out Hg.out] at hcc
            refine hcc.mono ?_
            clear hcc
            rintro e w' ⟨rfl, q, rfl, hS⟩
            replace HS : Hid _ := hS; replace HC : Hid _ := HC.out.ch q; clear hS; generalize q.w = W' at HS HC ⊢; clear q
            go_wp2_with fail
            have hb3 := HC.out.cell (.tail _ (.tail _ (.head _)))
            have hb4 := HC.out.cell (.tail _ (.head _))
            have hb6 := HC.out.cell (.head _)
            have ne6 : ¬ Wide w (RB b13 b14 b16 X z) b16 := fun h => h.2 _ (.head _) rfl
            have k0 : ∀ p : Kp (Wide w (RB b13 b14 b16 X z)) W' I.s (stObj I), p.p.w.cell? ⟨b13, 0, none⟩ = some (.int .i64 1) := (fun p => cell_at 0 (p.p.blk hb3 ne3)); have k1 : ∀ p : Kp (Wide w (RB b13 b14 b16 X z)) W' I.s (stObj I), p.p.w.cell? ⟨b13, 1, none⟩ = some (.int .i64 X) := (fun p => cell_at 1 (p.p.blk hb3 ne3)); have k2 : ∀ p : Kp (Wide w (RB b13 b14 b16 X z)) W' I.s (stObj I), p.p.w.cell? ⟨b13, 2, none⟩ = some (.int .i64 0) := (fun p => cell_at 2 (p.p.blk hb3 ne3)); have k3 : ∀ p : Kp (Wide w (RB b13 b14 b16 X z)) W' I.s (stObj I), p.p.w.cell? ⟨b13, 3, none⟩ = some (.string ⟨#[]⟩) := (fun p => cell_at 3 (p.p.blk hb3 ne3)); have h0 : ∀ p : Kp (Wide w (RB b13 b14 b16 X z)) W' I.s (stObj I), p.p.w.cell? ⟨b14, 0, none⟩ = some (.int .i64 z.sl) := (fun p => cell_at 0 (p.p.blk hb4 ne4)); have h1' : ∀ p : Kp (Wide w (RB b13 b14 b16 X z)) W' I.s (stObj I), p.p.w.cell? ⟨b14, 1, none⟩ = some (.int .i64 z.gen) := (fun p => cell_at 1 (p.p.blk hb4 ne4)); have s0 : ∀ p : Kp (Wide w (RB b13 b14 b16 X z)) W' I.s (stObj I), p.p.w.cell? ⟨I.s, 0, none⟩ = some (.pointer (some ⟨I.a, 0, none⟩)) := (fun p => cell_at 0 p.st)
            have v0 : ∀ p : Kp (Wide w (RB b13 b14 b16 X z)) W' I.s (stObj I), p.p.w.cell? ⟨b16, 0, none⟩ = some (.int .u64 5) := (fun p => cell_at 0 (p.p.blk hb6 ne6))
            clear hb3 hb4 hb6
            haveI : Nonempty (Kp (Wide w (RB b13 b14 b16 X z)) W' I.s (stObj I)) := ⟨⟨Ch.refl _ _, HS.out.at⟩⟩; refine wp_region_kp (Wide w (RB b13 b14 b16 X z)) I.s (stObj I) HS.out.at (by kernel_rfl) (by kernel_rfl) (fun p hp => ?_); have HSp : Hid (StN p.p.w I _ _ (Wide w (RB b13 b14 b16 X z))) := HS.out.heapEq hp; have HCp : Hid (Scene w p.p.w _) := HC.out.ch p.p; clear hp
            (repeat (first | (refine wpMix_skip rfl rfl ?_) | (refine wpMix_step (fun K hK => ?_); go_simp; (with_reducible (refine hK _ _ ?_)); clear hK K)))
            refine wpMix_step (fun K hK => ?_); go_simp
            have hcc := install_n I A _ _ (keyN X) 2 6 0 ⟨#[]⟩ false _ HSp.out
            rw [Left.install Hg.out] at hcc
            refine hcc.mono ?_
            clear hcc
            rintro e w' ⟨rfl, q, rfl, hS⟩; obtain ⟨p, hp2⟩ : ∃ p2 : Kp (Wide w (RB b13 b14 b16 X z)) W' I.s (stObj I), q.w = p2.p.w := ⟨⟨p.p.then q (fun b _ hb => hb), hS.at⟩, rfl⟩; replace HSp : Hid _ := hS; replace HCp : Hid _ := HCp.out.ch q; rw [hp2] at HSp HCp ⊢; refine ⟨⟨p, rfl⟩, hK _ _ ?_⟩; clear hK K hp2 hS q
            (repeat (first | (refine wpMix_skip rfl rfl ?_) | (refine wpMix_step (fun K hK => ?_); go_simp; (with_reducible (refine hK _ _ ?_)); clear hK K)))
            refine wpMix_step (fun K hK => ?_); go_simp
            have hcc := len_n HSp.out
            rw [HL.out.taken] at hcc
            refine hcc.mono ?_
            clear hcc
            rintro e w' ⟨rfl, rfl⟩
            refine ⟨⟨p, rfl⟩, hK _ _ ?_⟩
            clear hK K
            (repeat (first | (refine wpMix_skip rfl rfl ?_) | (refine wpMix_step (fun K hK => ?_); go_simp; (with_reducible (refine hK _ _ ?_)); clear hK K)))
            refine wpMix_step (fun K hK => ?_); go_simp; obtain ⟨n1, hn1⟩ : ∃ n, n = p.p.w.heap.size := ⟨_, rfl⟩; obtain ⟨p1, hp1⟩ : ∃ p1 : Kp (Wide w (RB b13 b14 b16 X z)) W' I.s (stObj I), p.p.w.alloc (.cells #[.int .i64 1, .int .i64 X, .int .i64 0, .string ⟨#[]⟩, .int .i64 1, .int .i64 X, .int .i64 0, .string ⟨#[]⟩] 23) = p1.p.w := ⟨⟨p.p.alloc _, heap_alloc_blk _ p.st⟩, rfl⟩; have HSq : Hid _ := HSp.out.box #[.int .i64 1, .int .i64 X, .int .i64 0, .string ⟨#[]⟩, .int .i64 1, .int .i64 X, .int .i64 0, .string ⟨#[]⟩] 23; have HCq : Hid _ := HCp.out.alloc #[.int .i64 1, .int .i64 X, .int .i64 0, .string ⟨#[]⟩, .int .i64 1, .int .i64 X, .int .i64 0, .string ⟨#[]⟩] 23; rw [← hn1] at HSq HCq ⊢; rw [hp1] at HSq HCq ⊢; refine ⟨⟨p1, rfl⟩, hK _ _ ?_⟩; clear hK K hn1 hp1 HSp HCp
            (repeat (first | (refine wpMix_skip rfl rfl ?_) | (refine wpMix_step (fun K hK => ?_); go_simp; (with_reducible (refine hK _ _ ?_)); clear hK K)))
            refine wpMix_step (fun K hK => ?_); go_simp
            have hcc := free_m I A _ _ (some ⟨n1, 0, none⟩) 2 2 [keyN X, keyN X] _ HSq.out HCq.out.wide (keysIn_box2 (k := keyN X) (k' := keyN X) (HCq.out.cell (.head _))) (fun a ha hw => hw.2 _ (.head _) (by cases ha; rfl)) rfl (by decide)
            rw [Left.free HL.out Hg.out] at hcc
            refine hcc.mono ?_
            clear hcc
            rintro e w' ⟨rfl, q, rfl, hS⟩; obtain ⟨p, hp2⟩ : ∃ p2 : Kp (Wide w (RB b13 b14 b16 X z)) W' I.s (stObj I), q.w = p2.p.w := ⟨⟨p1.p.then q (fun b _ hb => wide_tail b hb), hS.at⟩, rfl⟩; have HSp : Hid _ := hS.drop; have HCp : Hid _ := (HCq.out.ch q).drop; rw [hp2] at HSp HCp ⊢; refine ⟨⟨p, rfl⟩, hK _ _ ?_⟩; clear hK K hp2 hS q HSq HCq
            (repeat (first | (refine wpMix_skip rfl rfl ?_) | (refine wpMix_step (fun K hK => ?_); go_simp; (with_reducible (refine hK _ _ ?_)); clear hK K)))
            refine wpMix_step (fun K hK => ?_); go_simp
            have hcc := live_n HSp.out z.sl z.gen
            rw [Left.dead HL.out Hg.out] at hcc
            refine hcc.mono ?_
            clear hcc
            rintro e w' ⟨rfl, q, rfl⟩; obtain ⟨p3, hp2⟩ : ∃ p2 : Kp (Wide w (RB b13 b14 b16 X z)) W' I.s (stObj I), q.w = p2.p.w := ⟨⟨p.p.thenE q, q.blkE p.st⟩, rfl⟩; replace HSp : Hid _ := HSp.out.ext q; replace HCp : Hid _ := HCp.out.ext q; rw [hp2] at HSp HCp ⊢; refine ⟨⟨p3, rfl⟩, hK _ _ ?_⟩; clear hK K hp2 q
            (repeat (first | (refine wpMix_skip rfl rfl ?_) | (refine wpMix_step (fun K hK => ?_); go_simp; (with_reducible (refine hK _ _ ?_)); clear hK K)))
            refine wpMix_nil ?_
            replace HS : Hid _ := HSp.out
            replace HC : Hid _ := HCp.out
            clear k0 k1 k2 k3 h0 h1' s0 v0 HSp HCp p p1
            generalize p3.p.w = W' at HS HC ⊢
            clear p3
            go_wp2_with fail
            obtain ⟨hl0, hnext⟩ := Left.next HL.out Hg.out
            go_roundw
            case rel => exact ⟨HC.out.drop.drop.drop, _, _, left - 1, j + 1, HS.out.drop.drop.drop, by go_num, by go_num, by omega, by omega, hnext⟩
            case measure => simp [intOf]; omega
        · have hlen : L.length < 1099511627776 := by have := HL.out.len; omega
          by_cases h3 : j < zs.length
          · obtain rfl : i = 0 := by omega
            have s0 : W'.cell? ⟨I.s, 0, none⟩ = some (.pointer (some ⟨I.a, 0, none⟩)) := cell_at 0 HS.out.at; go_wp2_with fail; go_at_call 34; have hcc := len_n HS.out; rw [HL.out.taken] at hcc; refine hcc.mono ?_; clear hcc s0; rintro e w' ⟨rfl, rfl⟩; go_wp2_with fail; go_at_call 91; refine (keys_n I A L _ W' HS.out hlen).mono ?_; rintro e w' ⟨v, rfl, q, rfl, fa2, cap2, rfl, -, -, -⟩; rw [HL.out.keysLen]; replace HC : Hid _ := HC.out.ext q; go_wp2_with fail; obtain ⟨r, hr⟩ := HC.out.fin; go_ret; exact ⟨rfl, r, hr⟩
          · have s0 : W'.cell? ⟨I.s, 0, none⟩ = some (.pointer (some ⟨I.a, 0, none⟩)) := cell_at 0 HS.out.at; go_wp2_with fail; go_at_call 34; have hcc := len_n HS.out; rw [HL.out.taken] at hcc; refine hcc.mono ?_; clear hcc s0; rintro e w' ⟨rfl, rfl⟩; go_wp2_with fail; go_at_call 91; refine (keys_n I A L _ W' HS.out hlen).mono ?_; rintro e w' ⟨v, rfl, q, rfl, fa2, cap2, rfl, -, -, -⟩; rw [HL.out.keysLen]; replace HC : Hid _ := HC.out.ext q; go_wp2_with fail; obtain ⟨r, hr⟩ := HC.out.fin; go_ret; exact ⟨rfl, r, hr⟩
end Go.Proofs.Cob
