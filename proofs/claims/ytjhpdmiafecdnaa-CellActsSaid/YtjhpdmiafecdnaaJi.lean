/-
  CellActs, the walk: it returns true at whatever room and acts.
-/
import Derived.Test.YtjhpdmiafecdnaaJh
namespace Go.Proofs.Cob
open Go Go.RowKit Go.Cob
set_option linter.unusedSimpArgs false
set_option linter.unusedVariables false

theorem actsIn_get {w : World} {fa : Option Addr} {xs : List Act} (h : ActsIn w fa xs) {i : Nat} (hi : i < xs.length) : ∃ x, xs[i]? = some x ∧ ∃ b off, fa = some ⟨b, off, none⟩ ∧ ActCell w b (off + i * 11) x ∧ ActOk w x := by
  rcases h with rfl | ⟨b, off, rfl, h⟩
  · simp at hi
  · exact ⟨xs[i], List.getElem?_eq_getElem hi, b, off, rfl, h i _ (List.getElem?_eq_getElem hi)⟩
theorem heldM_len (L : List (Key × Cl)) (who : Int) : (heldM L who).length ≤ L.length := by
  unfold heldM
  rw [(sortK_perm _).length_eq, List.length_map]
  exact List.length_filter_le ..
theorem keysM_len (L : List (Key × Cl)) : (keysM L).length ≤ L.length := by
  unfold keysM
  rw [(sortK_perm _).length_eq, List.length_map]
  exact List.length_filter_le ..
theorem actOk_ext {w : World} {a : Act} (h : ActOk w a) (p : Ext w) : ActOk p.w a := ⟨h.1.ext p, h.2⟩
theorem keysIn_below {w : World} {fa : Option Addr} {ks : List Key} {bs : List Box} (h : KeysIn w fa ks) : ks = [] ∨ ∀ x, fa = some x → ¬ Wide w bs x.block := by
  rcases h with h | ⟨b, off, rfl, h⟩
  · exact .inl h
  · cases ks with
    | nil => exact .inl rfl
    | cons k ks =>
      refine .inr fun x hx hw => ?_
      have h1 := (h 0 k rfl).c0
      have h2 := World.block_lt_of_cell? w _ h1
      have h3 : x = ⟨b, off, none⟩ := (Option.some.inj hx).symm
      subst h3
      have := hw.1
      simp only at h2 this
      omega
set_option maxRecDepth 4000 in
set_option maxHeartbeats 6400000 in
theorem cellActs_any (room : Int) (fa : Option Addr) (xs : List Act) (cap : Nat) (w : World) (hx : ActsIn w fa xs) (hcap : xs.length ≤ cap) :
    Calls Try.prog 18 #[.int .i64 room, .slice fa xs.length cap] w fun e w' => e = .returned (.bool true) ∧ ∃ p : Ext w, w' = p.w := by
  by_cases h1 : (80 : Int) < (xs.length : Int)
  · go_enter Try.func18, Try.ntmps18
    go_wp2_with (go_at_call 21; go_must (refine (awake_any _).mono ?_); rintro e w' ⟨rfl, p, rfl⟩)
    go_ret
    exact ⟨rfl, Ch.thenE _ p, rfl⟩
  go_enter Try.func18, Try.ntmps18
  go_wp2_with fail
  go_at_call 21
  refine (awake_any _).mono ?_
  rintro e w' ⟨rfl, q, rfl⟩
  have HC : Hid (Scene w q.w []) := (Scene.refl w).ext q
  generalize q.w = W' at HC ⊢
  clear q
  go_wp2_with fail
  by_cases h2 : room < 0
  · go_at_call 24
    refine (cellNew_bad _ _ (.inl h2)).mono ?_
    rintro e w' ⟨rfl, rfl⟩
    go_wp2_with fail
    obtain ⟨q, hq⟩ := HC.out.fin
    go_ret
    exact ⟨rfl, q, hq⟩
  by_cases h3 : (1048576 : Int) < room
  · go_at_call 24
    refine (cellNew_bad _ _ (.inr h3)).mono ?_
    rintro e w' ⟨rfl, rfl⟩
    go_wp2_with fail
    obtain ⟨q, hq⟩ := HC.out.fin
    go_ret
    exact ⟨rfl, q, hq⟩
  go_at_call 24
  refine (cellNew_n room _ (by omega) (by omega)).mono ?_
  rintro e w' ⟨I, rfl, q, rfl, hS⟩
  have HS : Hid (StN q.w I ⟨room, 0, [], [], []⟩ [] (Wide w [])) := hS.mono (fun b _ h => HC.out.wide b h)
  replace HC : Hid _ := HC.out.ext q
  clear hS
  generalize q.w = W' at HS HC ⊢
  clear q
  go_wp2_with fail
  obtain ⟨r, hr⟩ : ∃ n, n = W'.heap.size := ⟨_, rfl⟩
  replace HS : Hid _ := Run.start HC.out HS.out
  replace HC : Hid _ := (HC.out.alloc #[.int .i64 room, .slice none 0 0] 49).drop
  rw [← hr] at HS ⊢
  clear hr
  generalize World.alloc W' _ = W' at HS HC ⊢
  go_loopw [8] (fun v wr => Scene w wr [] ∧ ∃ (A : ArenaSt) (L : List (Key × Cl)) (i : Nat), Run wr I r A L (Wide w []) ∧ A.room = room ∧ KSm L ∧ v = .int .i64 i ∧ i ≤ xs.length) (fun v _ => xs.length - (intOf v).toNat)
  case atStart => exact ⟨HC.out, _, _, 0, HS.out, rfl, by simp [KSm], rfl, by omega⟩
  case round =>
    clear HC HS
    obtain ⟨hC, A, L, i, hS, hroom, hksm, rfl, hi⟩ := hrel
    have HC : Hid _ := hC
    have HS : Hid _ := hS
    have HM : Hid _ := hroom
    have HK : Hid _ := hksm
    clear hC hS hroom hksm
    rename World => W'
    by_cases h4 : i < xs.length
    · obtain ⟨p, hp⟩ := HC.out.fin
      obtain ⟨a, hxi, b, off, rfl, hac, hok⟩ := actsIn_get hx h4
      have HO : Hid _ := hok
      have hac' := hac.keep (p.same _ hac.lt id)
      rw [← hp] at hac'
      clear hac hok p hp
      obtain ⟨kind, who, ⟨kd, ka, kb, ks⟩, kfa, kcap, keys, stamp, sw, stx, sh⟩ := a
      have y0 : W'.cell? ⟨b, off + i * 11, none⟩ = some (.int .i64 kind) := hac'.c0
      have y1 : W'.cell? ⟨b, off + i * 11 + 1, none⟩ = some (.int .i64 who) := hac'.c1
      have y2 : W'.cell? ⟨b, off + i * 11 + 2, none⟩ = some (.int .i64 kd) := hac'.c2
      have y3 : W'.cell? ⟨b, off + i * 11 + 3, none⟩ = some (.int .i64 ka) := hac'.c3
      have y4 : W'.cell? ⟨b, off + i * 11 + 4, none⟩ = some (.int .i64 kb) := hac'.c4
      have y5 : W'.cell? ⟨b, off + i * 11 + 5, none⟩ = some (.string ks) := hac'.c5
      have y6 : W'.cell? ⟨b, off + i * 11 + 6, none⟩ = some (.slice kfa keys.length kcap) := hac'.c6
      have y7 : W'.cell? ⟨b, off + i * 11 + 7, none⟩ = some (.int .u64 stamp) := hac'.c7
      have y8 : W'.cell? ⟨b, off + i * 11 + 8, none⟩ = some (.int .u64 sw) := hac'.c8
      have y9 : W'.cell? ⟨b, off + i * 11 + 9, none⟩ = some (.string stx) := hac'.c9
      have y10 : W'.cell? ⟨b, off + i * 11 + 10, none⟩ = some (.bool sh) := hac'.c10
      clear hac' hxi
      go_wp2_with fail
      clear y0 y1 y2 y3 y4 y5 y6 y7 y8 y9 y10
      obtain ⟨b9, hb9⟩ : ∃ n, n = W'.heap.size := ⟨_, rfl⟩; replace HS : Hid _ := HS.out.boxB (actCells ⟨kind, who, ⟨kd, ka, kb, ks⟩, kfa, kcap, keys, stamp, sw, stx, sh⟩) 43; replace HC : Hid _ := HC.out.alloc (actCells ⟨kind, who, ⟨kd, ka, kb, ks⟩, kfa, kcap, keys, stamp, sw, stx, sh⟩) 43; rw [← hb9] at HS HC ⊢; clear hb9; generalize World.alloc W' _ = W' at HS HC ⊢
      go_at_call 29
      obtain ⟨p, hp⟩ := HC.out.fin
      have hcc := small_any ⟨kind, who, ⟨kd, ka, kb, ks⟩, kfa, kcap, keys, stamp, sw, stx, sh⟩ W' (by rw [hp]; exact HO.out.1.ext p)
      cases hsm : smallB ⟨kind, who, ⟨kd, ka, kb, ks⟩, kfa, kcap, keys, stamp, sw, stx, sh⟩
      all_goals
        rw [hsm] at hcc
        refine hcc.mono ?_
        clear hcc hp p
        rintro e w' ⟨rfl, q, rfl⟩
        replace HS : Hid _ := HS.out.ext q; replace HC : Hid _ := HC.out.ext q; generalize q.w = W' at HS HC ⊢; clear q
      · go_wp2_with fail
        obtain ⟨q, hq⟩ := HC.out.fin
        go_ret
        exact ⟨rfl, q, hq⟩
      · have HSm : Hid _ := hsm
        clear hsm
        have hb := HC.out.cell (.head _); have a0 : ∀ p : Ext W', p.w.cell? ⟨b9, 0, none⟩ = some (.int .i64 kind) := (fun p => cell_at 0 (p.blkE hb)); have a1 : ∀ p : Ext W', p.w.cell? ⟨b9, 1, none⟩ = some (.int .i64 who) := (fun p => cell_at 1 (p.blkE hb)); have a2 : ∀ p : Ext W', p.w.cell? ⟨b9, 2, none⟩ = some (.int .i64 kd) := (fun p => cell_at 2 (p.blkE hb)); have a3 : ∀ p : Ext W', p.w.cell? ⟨b9, 3, none⟩ = some (.int .i64 ka) := (fun p => cell_at 3 (p.blkE hb)); have a4 : ∀ p : Ext W', p.w.cell? ⟨b9, 4, none⟩ = some (.int .i64 kb) := (fun p => cell_at 4 (p.blkE hb)); have a5 : ∀ p : Ext W', p.w.cell? ⟨b9, 5, none⟩ = some (.string ks) := (fun p => cell_at 5 (p.blkE hb)); have a6 : ∀ p : Ext W', p.w.cell? ⟨b9, 6, none⟩ = some (.slice kfa keys.length kcap) := (fun p => cell_at 6 (p.blkE hb)); have a7 : ∀ p : Ext W', p.w.cell? ⟨b9, 7, none⟩ = some (.int .u64 stamp) := (fun p => cell_at 7 (p.blkE hb)); have a8 : ∀ p : Ext W', p.w.cell? ⟨b9, 8, none⟩ = some (.int .u64 sw) := (fun p => cell_at 8 (p.blkE hb)); have a9 : ∀ p : Ext W', p.w.cell? ⟨b9, 9, none⟩ = some (.string stx) := (fun p => cell_at 9 (p.blkE hb)); have a10 : ∀ p : Ext W', p.w.cell? ⟨b9, 10, none⟩ = some (.bool sh) := (fun p => cell_at 10 (p.blkE hb)); clear hb
        go_wp2_with fail
        refine wp_region_bch NoS 3 (by kernel_rfl) (by repeat constructor) (by kernel_rfl) (by kernel_rfl) (fun p hp => ?_)
        clear hp
        (repeat (first | (refine wpMix_skip rfl rfl ?_) | (refine wpMix_step (fun K hK => ?_); go_simp; (with_reducible (refine hK _ _ ?_)); clear hK K)))
        refine wpMix_nil ?_
        refine last_step (fun K hK => ?_); go_simp
        obtain ⟨A', L', hrm, hk', hcc⟩ := does_any I r A L (Wide w [(b9, 43, actCells ⟨kind, who, ⟨kd, ka, kb, ks⟩, kfa, kcap, keys, stamp, sw, stx, sh⟩)]) ⟨kind, who, ⟨kd, ka, kb, ks⟩, kfa, kcap, keys, stamp, sw, stx, sh⟩ p.w (HS.out.ext p) (HC.out.ext p).wide (by obtain ⟨p0, hp0⟩ := (HC.out.ext p).fin; rw [hp0]; exact actOk_ext (a := ⟨kind, who, ⟨kd, ka, kb, ks⟩, kfa, kcap, keys, stamp, sw, stx, sh⟩) HO.out p0) (keysIn_below HO.out.1) HSm.out HK.out
        refine hcc.mono ?_
        clear hcc
        rintro e w' ⟨rfl, q, rfl, hR⟩
        refine hK _ _ ?_
        clear hK K
        replace HM : Hid (A'.room = room) := hrm.trans HM.out
        replace HK : Hid _ := hk'
        replace HS : Hid _ := hR
        replace HC : Hid _ := (HC.out.ext p).ch q
        clear a0 a1 a2 a3 a4 a5 a6 a7 a8 a9 a10
        clear hrm hk' hR HSm
        generalize q.w = W' at HS HC ⊢
        clear q p
        clear A L
        rename ArenaSt => A
        rename List (Key × Cl) => L
        obtain ⟨W0, hW0⟩ : ∃ W0, W0 = W' := ⟨_, rfl⟩
        rw [← hW0] at HS HC
        refine ⟨fun w' => ∃ p : Ext W0, w' = p.w, ⟨Ch.refl NoS W0, hW0.symm⟩, ?_⟩
        obtain ⟨p, hp⟩ : ∃ p : Ext W0, W' = p.w := ⟨Ch.refl NoS W0, hW0.symm⟩
        rw [hp]
        clear hp hW0 W'
        generalize W0 = W' at *
        obtain ⟨rfa, rcap, hra⟩ := HS.out.refAt
        have s0 : ∀ p : Ext W', p.w.cell? ⟨I.s, 0, none⟩ = some (.pointer (some ⟨I.a, 0, none⟩)) := fun p => (HS.out.ext p).s0
        have r1 : ∀ p : Ext W', p.w.cell? ⟨r, 1, none⟩ = some (.slice rfa L.length rcap) := fun p => cell_at 1 (hra.ext p).st
        have hroom : ¬ room < (L.length : Int) := by rw [← HM.out]; exact HS.out.room
        (repeat (first | (refine wpMix_skip rfl rfl ?_) | (refine wpMix_step (fun K hK => ?_); go_simp; (with_reducible (refine hK _ _ ?_)); clear hK K)))
        refine wpMix_step (fun K hK => ?_); go_simp
        refine ((HS.out.ext p).lenC).mono ?_
        rintro e w' ⟨rfl, rfl⟩
        refine ⟨⟨p, rfl⟩, hK _ _ ?_⟩; clear hK K
        (repeat (first | (refine wpMix_skip rfl rfl ?_) | (refine wpMix_step (fun K hK => ?_); go_simp; (with_reducible (refine hK _ _ ?_)); clear hK K)))
        refine wpMix_step (fun K hK => ?_); go_simp
        refine ((HS.out.ext p).lenC).mono ?_
        rintro e w' ⟨rfl, rfl⟩
        refine ⟨⟨p, rfl⟩, hK _ _ ?_⟩; clear hK K
        (repeat (first | (refine wpMix_skip rfl rfl ?_) | (refine wpMix_step (fun K hK => ?_); go_simp; (with_reducible (refine hK _ _ ?_)); clear hK K)))
        refine wpMix_nil ?_
        replace HS : Hid _ := HS.out.ext p
        replace HC : Hid _ := HC.out.ext p
        clear s0 r1 hra
        generalize p.w = W' at HS HC ⊢
        clear p
        have hb := HC.out.cell (.head _); have a0 : ∀ p : Ext W', p.w.cell? ⟨b9, 0, none⟩ = some (.int .i64 kind) := (fun p => cell_at 0 (p.blkE hb)); have a1 : ∀ p : Ext W', p.w.cell? ⟨b9, 1, none⟩ = some (.int .i64 who) := (fun p => cell_at 1 (p.blkE hb)); have a2 : ∀ p : Ext W', p.w.cell? ⟨b9, 2, none⟩ = some (.int .i64 kd) := (fun p => cell_at 2 (p.blkE hb)); have a3 : ∀ p : Ext W', p.w.cell? ⟨b9, 3, none⟩ = some (.int .i64 ka) := (fun p => cell_at 3 (p.blkE hb)); have a4 : ∀ p : Ext W', p.w.cell? ⟨b9, 4, none⟩ = some (.int .i64 kb) := (fun p => cell_at 4 (p.blkE hb)); have a5 : ∀ p : Ext W', p.w.cell? ⟨b9, 5, none⟩ = some (.string ks) := (fun p => cell_at 5 (p.blkE hb)); have a6 : ∀ p : Ext W', p.w.cell? ⟨b9, 6, none⟩ = some (.slice kfa keys.length kcap) := (fun p => cell_at 6 (p.blkE hb)); have a7 : ∀ p : Ext W', p.w.cell? ⟨b9, 7, none⟩ = some (.int .u64 stamp) := (fun p => cell_at 7 (p.blkE hb)); have a8 : ∀ p : Ext W', p.w.cell? ⟨b9, 8, none⟩ = some (.int .u64 sw) := (fun p => cell_at 8 (p.blkE hb)); have a9 : ∀ p : Ext W', p.w.cell? ⟨b9, 9, none⟩ = some (.string stx) := (fun p => cell_at 9 (p.blkE hb)); have a10 : ∀ p : Ext W', p.w.cell? ⟨b9, 10, none⟩ = some (.bool sh) := (fun p => cell_at 10 (p.blkE hb)); clear hb
        have hl1 := heldM_len L who
        have hl2 := keysM_len L
        have hl3 := HS.out.few.1
        go_wp2_with fail
        refine wp_region_ch NoS (by kernel_rfl) (by kernel_rfl) (fun p hp => ?_)
        clear hp
        (repeat (first | (refine wpMix_skip rfl rfl ?_) | (refine wpMix_step (fun K hK => ?_); go_simp; (with_reducible (refine hK _ _ ?_)); clear hK K)))
        refine wpMix_step (fun K hK => ?_); go_simp
        refine ((HS.out.ext p).heldC who).mono ?_
        rintro e w' ⟨v, rfl, q, rfl, f1, c1, rfl, hc1, hK1, -⟩
        obtain ⟨p2, hp2⟩ : ∃ p2 : Ext W', q.w = p2.w := ⟨p.thenE q, rfl⟩
        rw [hp2] at hK1 ⊢
        have HK1 : Hid _ := hK1
        refine ⟨⟨p2, rfl⟩, hK _ _ ?_⟩; clear hK K hp2 q hK1
        (repeat (first | (refine wpMix_skip rfl rfl ?_) | (refine wpMix_step (fun K hK => ?_); go_simp; (with_reducible (refine hK _ _ ?_)); clear hK K)))
        refine wpMix_step (fun K hK => ?_); go_simp
        refine ((HS.out.ext p2).rheldC HK.out who).mono ?_
        rintro e w' ⟨v, rfl, q, rfl, f2, c2, rfl, hc2, hK2, -⟩
        replace HK1 : Hid _ := KeysIn.ext HK1.out q
        obtain ⟨p3, hp2⟩ : ∃ p3 : Ext W', q.w = p3.w := ⟨p2.thenE q, rfl⟩
        rw [hp2] at hK2 HK1 ⊢
        have HK2 : Hid _ := hK2
        refine ⟨⟨p3, rfl⟩, hK _ _ ?_⟩; clear hK K hp2 q hK2
        (repeat (first | (refine wpMix_skip rfl rfl ?_) | (refine wpMix_step (fun K hK => ?_); go_simp; (with_reducible (refine hK _ _ ?_)); clear hK K)))
        refine wpMix_step (fun K hK => ?_); go_simp
        have hcc := same_any f1 f2 _ _ c1 c2 (heldM L who) (heldM L who) p3.w HK1.out HK2.out rfl rfl (by omega) (by omega)
        rw [decide_eq_true rfl] at hcc
        refine hcc.mono ?_
        clear hcc
        rintro e w' ⟨rfl, q, rfl⟩
        obtain ⟨p4, hp2⟩ : ∃ p3 : Ext W', q.w = p3.w := ⟨p3.thenE q, rfl⟩
        rw [hp2]
        refine ⟨⟨p4, rfl⟩, hK _ _ ?_⟩; clear hK K hp2 q HK1 HK2
        (repeat (first | (refine wpMix_skip rfl rfl ?_) | (refine wpMix_step (fun K hK => ?_); go_simp; (with_reducible (refine hK _ _ ?_)); clear hK K)))
        refine wpMix_step (fun K hK => ?_); go_simp
        refine ((HS.out.ext p4).keysC).mono ?_
        rintro e w' ⟨v, rfl, q, rfl, f3, c3, rfl, hc3, hK1, -⟩
        obtain ⟨p5, hp2⟩ : ∃ p2 : Ext W', q.w = p2.w := ⟨p4.thenE q, rfl⟩
        rw [hp2] at hK1 ⊢
        have HK1 : Hid _ := hK1
        refine ⟨⟨p5, rfl⟩, hK _ _ ?_⟩; clear hK K hp2 q hK1
        (repeat (first | (refine wpMix_skip rfl rfl ?_) | (refine wpMix_step (fun K hK => ?_); go_simp; (with_reducible (refine hK _ _ ?_)); clear hK K)))
        refine wpMix_step (fun K hK => ?_); go_simp
        refine ((HS.out.ext p5).rkeysC HK.out).mono ?_
        rintro e w' ⟨v, rfl, q, rfl, f4, c4, rfl, hc4, hK2, -⟩
        replace HK1 : Hid _ := KeysIn.ext HK1.out q
        obtain ⟨p6, hp2⟩ : ∃ p3 : Ext W', q.w = p3.w := ⟨p5.thenE q, rfl⟩
        rw [hp2] at hK2 HK1 ⊢
        have HK2 : Hid _ := hK2
        refine ⟨⟨p6, rfl⟩, hK _ _ ?_⟩; clear hK K hp2 q hK2
        (repeat (first | (refine wpMix_skip rfl rfl ?_) | (refine wpMix_step (fun K hK => ?_); go_simp; (with_reducible (refine hK _ _ ?_)); clear hK K)))
        refine wpMix_step (fun K hK => ?_); go_simp
        have hcc := same_any f3 f4 _ _ c3 c4 (keysM L) (keysM L) p6.w HK1.out HK2.out rfl rfl (by omega) (by omega)
        rw [decide_eq_true rfl] at hcc
        refine hcc.mono ?_
        clear hcc
        rintro e w' ⟨rfl, q, rfl⟩
        obtain ⟨p7, hp2⟩ : ∃ p3 : Ext W', q.w = p3.w := ⟨p6.thenE q, rfl⟩
        rw [hp2]
        refine ⟨⟨p7, rfl⟩, hK _ _ ?_⟩; clear hK K hp2 q HK1 HK2
        (repeat (first | (refine wpMix_skip rfl rfl ?_) | (refine wpMix_step (fun K hK => ?_); go_simp; (with_reducible (refine hK _ _ ?_)); clear hK K)))
        refine wpMix_nil ?_
        replace HS : Hid _ := HS.out.ext p7
        replace HC : Hid _ := HC.out.ext p7
        clear a0 a1 a2 a3 a4 a5 a6 a7 a8 a9 a10
        clear p p2 p3 p4 p5 p6
        generalize p7.w = W' at HS HC ⊢
        clear p7 hl1 hl2 hl3
        have hb := HC.out.cell (.head _); have k2 : W'.cell? ⟨b9, 2, none⟩ = some (.int .i64 kd) := cell_at 2 hb; have k3 : W'.cell? ⟨b9, 3, none⟩ = some (.int .i64 ka) := cell_at 3 hb; have k4 : W'.cell? ⟨b9, 4, none⟩ = some (.int .i64 kb) := cell_at 4 hb; have k5 : W'.cell? ⟨b9, 5, none⟩ = some (.string ks) := cell_at 5 hb; have l9 : b9 < W'.heap.size := lt_of_blk hb; have n9 : b9 ≠ W'.heap.size := Nat.ne_of_lt l9; clear hb
        go_wp2_with fail
        clear k2 k3 k4 k5 l9 n9
        go_at_call 97
        have hlk := HS.out.lookC ⟨kd, ka, kb, ks⟩
        cases hg : aget L ⟨kd, ka, kb, ks⟩ with
        | none =>
          have e1 : lookM L ⟨kd, ka, kb, ks⟩ = (seenV 0 ⟨#[]⟩ false, false) := by unfold lookM; rw [hg]
          have e2 := idx_none hg
          have e3 : handleM L ⟨kd, ka, kb, ks⟩ = ((0, 0), false) := by unfold handleM; rw [hg]
          have E2 : Hid _ := e2
          have E3 : Hid _ := e3
          rw [e1] at hlk
          clear e1 e2 e3 hg
          refine hlk.mono ?_; clear hlk; rintro e w' ⟨rfl, q, rfl⟩; replace HS : Hid _ := HS.out.ext q; replace HC : Hid _ := HC.out.ext q; generalize q.w = W' at HS HC ⊢; clear q; have hb := HC.out.cell (.head _); have k2 : W'.cell? ⟨b9, 2, none⟩ = some (.int .i64 kd) := cell_at 2 hb; have k3 : W'.cell? ⟨b9, 3, none⟩ = some (.int .i64 ka) := cell_at 3 hb; have k4 : W'.cell? ⟨b9, 4, none⟩ = some (.int .i64 kb) := cell_at 4 hb; have k5 : W'.cell? ⟨b9, 5, none⟩ = some (.string ks) := cell_at 5 hb; have l9 : b9 < W'.heap.size := lt_of_blk hb; have n9 : b9 ≠ W'.heap.size := Nat.ne_of_lt l9; clear hb; go_wp2_with fail; clear k2 k3 k4 k5 l9 n9; obtain ⟨b10, hb10⟩ : ∃ n, n = W'.heap.size := ⟨_, rfl⟩; replace HS : Hid _ := HS.out.boxB #[.int .u64 (0), .string (⟨#[]⟩), .bool (false)] 37; replace HC : Hid _ := HC.out.alloc #[.int .u64 (0), .string (⟨#[]⟩), .bool (false)] 37; rw [← hb10] at HS HC ⊢; clear hb10; generalize World.alloc W' _ = W' at HS HC ⊢; go_at_call 98; have hcc := HS.out.findC ⟨kd, ka, kb, ks⟩
          rw [E2.out] at hcc
          refine hcc.mono ?_; clear hcc; rintro e w' ⟨rfl, q, rfl⟩; replace HS : Hid _ := HS.out.ext q; replace HC : Hid _ := HC.out.ext q; generalize q.w = W' at HS HC ⊢; clear q; have hb := HC.out.cell (.head _); have x0 : ∀ p : Ext W', p.w.cell? ⟨b10, 0, none⟩ = some (.int .u64 (0)) := (fun p => cell_at 0 (p.blkE hb)); have x1 : ∀ p : Ext W', p.w.cell? ⟨b10, 1, none⟩ = some (.string (⟨#[]⟩)) := (fun p => cell_at 1 (p.blkE hb)); have x2 : ∀ p : Ext W', p.w.cell? ⟨b10, 2, none⟩ = some (.bool (false)) := (fun p => cell_at 2 (p.blkE hb)); clear hb; have hE := run_eq_seen (0) (⟨#[]⟩) (false); go_wp2_with fail
          refine wp_region_ch NoS (by kernel_rfl) (by kernel_rfl) (fun p hp => ?_)
          clear hp
          (repeat (first | (refine wpMix_skip rfl rfl ?_) | (refine wpMix_step (fun K hK => ?_); go_simp; (with_reducible (refine hK _ _ ?_)); clear hK K)))
          refine wpMix_nil ?_
          clear x0 x1 x2 hE
          replace HS : Hid _ := HS.out.ext p; replace HC : Hid _ := HC.out.ext p; generalize p.w = W' at HS HC ⊢; clear p; have hb := HC.out.cell (.tail _ (.head _)); have k2 : W'.cell? ⟨b9, 2, none⟩ = some (.int .i64 kd) := cell_at 2 hb; have k3 : W'.cell? ⟨b9, 3, none⟩ = some (.int .i64 ka) := cell_at 3 hb; have k4 : W'.cell? ⟨b9, 4, none⟩ = some (.int .i64 kb) := cell_at 4 hb; have k5 : W'.cell? ⟨b9, 5, none⟩ = some (.string ks) := cell_at 5 hb; have l9 : b9 < W'.heap.size := lt_of_blk hb; have n9 : b9 ≠ W'.heap.size := Nat.ne_of_lt l9; clear hb
          go_wp2_with fail
          clear k2 k3 k4 k5 l9 n9
          go_at_call 89
          have hcc := HS.out.handleC ⟨kd, ka, kb, ks⟩
          rw [E3.out] at hcc
          refine hcc.mono ?_; clear hcc; rintro e w' ⟨rfl, q, rfl⟩; replace HS : Hid _ := HS.out.ext q; replace HC : Hid _ := HC.out.ext q; generalize q.w = W' at HS HC ⊢; clear q; go_wp2_with fail; obtain ⟨b13, hb13⟩ : ∃ n, n = W'.heap.size := ⟨_, rfl⟩; replace HS : Hid _ := HS.out.boxB #[.int .i64 (0), .int .i64 (0)] 143; replace HC : Hid _ := HC.out.alloc #[.int .i64 (0), .int .i64 (0)] 143; rw [← hb13] at HS HC ⊢; clear hb13; generalize World.alloc W' _ = W' at HS HC ⊢; have hb := HC.out.cell (.tail _ (.tail _ (.head _))); have a2 : ∀ p : Ext W', p.w.cell? ⟨b9, 2, none⟩ = some (.int .i64 kd) := (fun p => cell_at 2 (p.blkE hb)); have a3 : ∀ p : Ext W', p.w.cell? ⟨b9, 3, none⟩ = some (.int .i64 ka) := (fun p => cell_at 3 (p.blkE hb)); have a4 : ∀ p : Ext W', p.w.cell? ⟨b9, 4, none⟩ = some (.int .i64 kb) := (fun p => cell_at 4 (p.blkE hb)); have a5 : ∀ p : Ext W', p.w.cell? ⟨b9, 5, none⟩ = some (.string ks) := (fun p => cell_at 5 (p.blkE hb)); clear hb; have hb := HC.out.cell (.head _); have x0 : ∀ p : Ext W', p.w.cell? ⟨b13, 0, none⟩ = some (.int .i64 (0)) := (fun p => cell_at 0 (p.blkE hb)); have x1 : ∀ p : Ext W', p.w.cell? ⟨b13, 1, none⟩ = some (.int .i64 (0)) := (fun p => cell_at 1 (p.blkE hb)); clear hb
          have hE := run_eq_hd 0 0
          refine wp_region_ch NoS (by kernel_rfl) (by kernel_rfl) (fun p hp => ?_)
          clear hp
          (repeat (first | (refine wpMix_skip rfl rfl ?_) | (refine wpMix_step (fun K hK => ?_); go_simp; (with_reducible (refine hK _ _ ?_)); clear hK K)))
          refine wpMix_step (fun K hK => ?_); go_simp
          have hcc := (HS.out.ext p).findC ⟨kd, ka, kb, ks⟩; rw [E2.out] at hcc; refine hcc.mono ?_; clear hcc; rintro e w' ⟨rfl, q, rfl⟩; obtain ⟨p2, hp2⟩ : ∃ p2 : Ext W', q.w = p2.w := ⟨p.thenE q, rfl⟩; rw [hp2]; refine ⟨⟨p2, rfl⟩, hK _ _ ?_⟩; clear hK K hp2 q
          (repeat (first | (refine wpMix_skip rfl rfl ?_) | (refine wpMix_step (fun K hK => ?_); go_simp; (with_reducible (refine hK _ _ ?_)); clear hK K)))
          refine wpMix_nil ?_
          clear x0 x1 a2 a3 a4 a5 hE p
          replace HS : Hid _ := HS.out.ext p2; replace HC : Hid _ := HC.out.ext p2; generalize p2.w = W' at HS HC ⊢; clear p2; go_wp2_with fail; go_roundw; (case rel => exact ⟨HC.out.drop.drop.drop, A, L, i + 1, HS.out.drop.drop.drop, HM.out, HK.out, by go_num, by omega⟩); (case measure => simp [intOf]; omega)
        | some z =>
          obtain ⟨i2, hi2, e2, hx2⟩ := idx_some hg
          obtain ⟨s1, s2, s3, e1, c, hx2, hc1, hc2, hc3⟩ : ∃ s1 s2 s3, lookM L ⟨kd, ka, kb, ks⟩ = (seenV s1 s2 s3, true) ∧ ∃ c, (L.map conv)[i2]? = some c ∧ c.wd = s1 ∧ c.text = s2 ∧ c.has = s3 :=
            ⟨stampZ z.wd, z.text, !goneB z.wd, by unfold lookM; rw [hg], conv (⟨kd, ka, kb, ks⟩, z), hx2, rfl, rfl, rfl⟩
          have e3 : handleM L ⟨kd, ka, kb, ks⟩ = ((z.sl, z.gen), true) := by unfold handleM; rw [hg]
          have E2 : Hid _ := e2
          have E3 : Hid _ := e3
          have HG : Hid _ := hg
          have HX : Hid _ := hx2
          have H1 : Hid _ := hc1
          have H2 : Hid _ := hc2
          have H3 : Hid _ := hc3
          rw [e1] at hlk
          clear e1 e2 e3 hg hx2 hc1 hc2 hc3
          refine hlk.mono ?_; clear hlk; rintro e w' ⟨rfl, q, rfl⟩; replace HS : Hid _ := HS.out.ext q; replace HC : Hid _ := HC.out.ext q; generalize q.w = W' at HS HC ⊢; clear q; have hb := HC.out.cell (.head _); have k2 : W'.cell? ⟨b9, 2, none⟩ = some (.int .i64 kd) := cell_at 2 hb; have k3 : W'.cell? ⟨b9, 3, none⟩ = some (.int .i64 ka) := cell_at 3 hb; have k4 : W'.cell? ⟨b9, 4, none⟩ = some (.int .i64 kb) := cell_at 4 hb; have k5 : W'.cell? ⟨b9, 5, none⟩ = some (.string ks) := cell_at 5 hb; have l9 : b9 < W'.heap.size := lt_of_blk hb; have n9 : b9 ≠ W'.heap.size := Nat.ne_of_lt l9; clear hb; go_wp2_with fail; clear k2 k3 k4 k5 l9 n9; obtain ⟨b10, hb10⟩ : ∃ n, n = W'.heap.size := ⟨_, rfl⟩; replace HS : Hid _ := HS.out.boxB #[.int .u64 (s1), .string (s2), .bool (s3)] 37; replace HC : Hid _ := HC.out.alloc #[.int .u64 (s1), .string (s2), .bool (s3)] 37; rw [← hb10] at HS HC ⊢; clear hb10; generalize World.alloc W' _ = W' at HS HC ⊢; go_at_call 98; have hcc := HS.out.findC ⟨kd, ka, kb, ks⟩
          rw [E2.out] at hcc
          refine hcc.mono ?_; clear hcc; rintro e w' ⟨rfl, q, rfl⟩; replace HS : Hid _ := HS.out.ext q; replace HC : Hid _ := HC.out.ext q; generalize q.w = W' at HS HC ⊢; clear q; have hb := HC.out.cell (.head _); have x0 : ∀ p : Ext W', p.w.cell? ⟨b10, 0, none⟩ = some (.int .u64 (s1)) := (fun p => cell_at 0 (p.blkE hb)); have x1 : ∀ p : Ext W', p.w.cell? ⟨b10, 1, none⟩ = some (.string (s2)) := (fun p => cell_at 1 (p.blkE hb)); have x2 : ∀ p : Ext W', p.w.cell? ⟨b10, 2, none⟩ = some (.bool (s3)) := (fun p => cell_at 2 (p.blkE hb)); clear hb; have hE := run_eq_seen (s1) (s2) (s3); go_wp2_with fail
          obtain ⟨rfa, rcap, hra⟩ := HS.out.refAt
          obtain ⟨g, cap2, hv, hcell, -⟩ := hra.get HX.out
          obtain rfl : rfa = some ⟨g, 0, none⟩ := by injection hv
          have r1 : ∀ p : Ext W', p.w.cell? ⟨r, 1, none⟩ = some (.slice (some ⟨g, 0, none⟩) L.length rcap) := fun p => cell_at 1 (hra.ext p).st
          have hlg : g < W'.heap.size := World.block_lt_of_cell? W' _ hcell.c4
          have d4 : ∀ p : Ext W', p.w.cell? ⟨g, i2 * 9 + 4, none⟩ = some (.int .u64 s1) := fun p => by have := (hcell.keep (p.same g hlg id)).c4; rw [H1.out] at this; exact this
          have d5 : ∀ p : Ext W', p.w.cell? ⟨g, i2 * 9 + 5, none⟩ = some (.bool s3) := fun p => by have := (hcell.keep (p.same g hlg id)).c5; rw [H3.out] at this; exact this
          have d6 : ∀ p : Ext W', p.w.cell? ⟨g, i2 * 9 + 6, none⟩ = some (.string s2) := fun p => by have := (hcell.keep (p.same g hlg id)).c6; rw [H2.out] at this; exact this
          clear hra hv hcell hlg
          refine wp_region_ch NoS (by kernel_rfl) (by kernel_rfl) (fun p hp => ?_)
          clear hp
          (repeat (first | (refine wpMix_skip rfl rfl ?_) | (refine wpMix_step (fun K hK => ?_); go_simp; (with_reducible (refine hK _ _ ?_)); clear hK K)))
          refine wpMix_nil ?_
          clear x0 x1 x2 hE r1 d4 d5 d6
          replace HS : Hid _ := HS.out.ext p; replace HC : Hid _ := HC.out.ext p; generalize p.w = W' at HS HC ⊢; clear p; have hb := HC.out.cell (.tail _ (.head _)); have k2 : W'.cell? ⟨b9, 2, none⟩ = some (.int .i64 kd) := cell_at 2 hb; have k3 : W'.cell? ⟨b9, 3, none⟩ = some (.int .i64 ka) := cell_at 3 hb; have k4 : W'.cell? ⟨b9, 4, none⟩ = some (.int .i64 kb) := cell_at 4 hb; have k5 : W'.cell? ⟨b9, 5, none⟩ = some (.string ks) := cell_at 5 hb; have l9 : b9 < W'.heap.size := lt_of_blk hb; have n9 : b9 ≠ W'.heap.size := Nat.ne_of_lt l9; clear hb
          go_wp2_with fail
          clear k2 k3 k4 k5 l9 n9
          go_at_call 89
          have hcc := HS.out.handleC ⟨kd, ka, kb, ks⟩
          rw [E3.out] at hcc
          refine hcc.mono ?_; clear hcc; rintro e w' ⟨rfl, q, rfl⟩; replace HS : Hid _ := HS.out.ext q; replace HC : Hid _ := HC.out.ext q; generalize q.w = W' at HS HC ⊢; clear q; go_wp2_with fail; obtain ⟨b13, hb13⟩ : ∃ n, n = W'.heap.size := ⟨_, rfl⟩; replace HS : Hid _ := HS.out.boxB #[.int .i64 (z.sl), .int .i64 (z.gen)] 143; replace HC : Hid _ := HC.out.alloc #[.int .i64 (z.sl), .int .i64 (z.gen)] 143; rw [← hb13] at HS HC ⊢; clear hb13; generalize World.alloc W' _ = W' at HS HC ⊢; have hb := HC.out.cell (.tail _ (.tail _ (.head _))); have a2 : ∀ p : Ext W', p.w.cell? ⟨b9, 2, none⟩ = some (.int .i64 kd) := (fun p => cell_at 2 (p.blkE hb)); have a3 : ∀ p : Ext W', p.w.cell? ⟨b9, 3, none⟩ = some (.int .i64 ka) := (fun p => cell_at 3 (p.blkE hb)); have a4 : ∀ p : Ext W', p.w.cell? ⟨b9, 4, none⟩ = some (.int .i64 kb) := (fun p => cell_at 4 (p.blkE hb)); have a5 : ∀ p : Ext W', p.w.cell? ⟨b9, 5, none⟩ = some (.string ks) := (fun p => cell_at 5 (p.blkE hb)); clear hb; have hb := HC.out.cell (.head _); have x0 : ∀ p : Ext W', p.w.cell? ⟨b13, 0, none⟩ = some (.int .i64 (z.sl)) := (fun p => cell_at 0 (p.blkE hb)); have x1 : ∀ p : Ext W', p.w.cell? ⟨b13, 1, none⟩ = some (.int .i64 (z.gen)) := (fun p => cell_at 1 (p.blkE hb)); clear hb
          have s0 : ∀ p : Ext W', p.w.cell? ⟨I.s, 0, none⟩ = some (.pointer (some ⟨I.a, 0, none⟩)) := fun p => (HS.out.ext p).s0
          refine wp_region_ch NoS (by kernel_rfl) (by kernel_rfl) (fun p hp => ?_)
          clear hp
          (repeat (first | (refine wpMix_skip rfl rfl ?_) | (refine wpMix_step (fun K hK => ?_); go_simp; (with_reducible (refine hK _ _ ?_)); clear hK K)))
          refine wpMix_step (fun K hK => ?_); go_simp
          have hcc := (HS.out.ext p).findC ⟨kd, ka, kb, ks⟩; rw [E2.out] at hcc; refine hcc.mono ?_; clear hcc; rintro e w' ⟨rfl, q, rfl⟩; obtain ⟨p2, hp2⟩ : ∃ p2 : Ext W', q.w = p2.w := ⟨p.thenE q, rfl⟩; rw [hp2]; refine ⟨⟨p2, rfl⟩, hK _ _ ?_⟩; clear hK K hp2 q
          (repeat (first | (refine wpMix_skip rfl rfl ?_) | (refine wpMix_step (fun K hK => ?_); go_simp; (with_reducible (refine hK _ _ ?_)); clear hK K)))
          refine wpMix_step (fun K hK => ?_); go_simp
          refine ((HS.out.ext p2).liveC HG.out).mono ?_
          rintro e w' ⟨rfl, q, rfl⟩
          obtain ⟨p3, hp2⟩ : ∃ p3 : Ext W', q.w = p3.w := ⟨p2.thenE q, rfl⟩
          rw [hp2]
          refine ⟨⟨p3, rfl⟩, hK _ _ ?_⟩; clear hK K hp2 q
          (repeat (first | (refine wpMix_skip rfl rfl ?_) | (refine wpMix_step (fun K hK => ?_); go_simp; (with_reducible (refine hK _ _ ?_)); clear hK K)))
          refine wpMix_nil ?_
          clear x0 x1 a2 a3 a4 a5 s0 p p2
          rename Ext W' => p2
          replace HS : Hid _ := HS.out.ext p2; replace HC : Hid _ := HC.out.ext p2; generalize p2.w = W' at HS HC ⊢; clear p2; go_wp2_with fail; go_roundw; (case rel => exact ⟨HC.out.drop.drop.drop, A, L, i + 1, HS.out.drop.drop.drop, HM.out, HK.out, by go_num, by omega⟩); (case measure => simp [intOf]; omega)
    · go_wp2_with fail
      obtain ⟨q, hq⟩ := HC.out.fin
      go_ret
      exact ⟨rfl, q, hq⟩
end Go.Proofs.Cob
