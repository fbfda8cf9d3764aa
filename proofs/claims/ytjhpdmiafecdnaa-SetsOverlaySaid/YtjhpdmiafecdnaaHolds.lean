/-
  CellHolds, the walk: it returns true at whatever key and holders.
-/
import Derived.Test.YtjhpdmiafecdnaaAwake
import Derived.Test.YtjhpdmiafecdnaaLen
import Derived.Test.YtjhpdmiafecdnaaHeldB
namespace Go.Proofs.Cob
open Go Go.RowKit Go.Cob
set_option linter.unusedSimpArgs false
set_option linter.unusedVariables false

abbrev HA0 : ArenaSt := ⟨3, 0, [], [], []⟩
abbrev HA1 : ArenaSt := ⟨3, 1, [], [(0, true)], []⟩
abbrev HA2 : ArenaSt := freedA HA1 0
abbrev HA3 : ArenaSt := ⟨3, 1, [(0, 1)], [(0, true)], []⟩
abbrev HL1 (k : Key) (a : Int) : List (Key × Cl) := [(k, ⟨0, 0, lockZ (absentZ 0 true), ⟨#[]⟩, a⟩)]
abbrev HL3 (k : Key) (b : Int) : List (Key × Cl) := [(k, ⟨0, 1, lockZ (absentZ 0 true), ⟨#[]⟩, b⟩)]
theorem hfree : freeB (lockZ (absentZ 0 true)) = false := by kernel_rfl
theorem aget_one (k : Key) (z : Cl) : aget [(k, z)] k = some z := by simp [aget]
theorem ho1 (k : Key) (a : Int) : lockM HA0 [] k a = ((0, 0), HA1, HL1 k a) := rfl
theorem ho2 (k : Key) (a b : Int) : lockM HA1 (HL1 k a) k b = ((0, 60), HA1, HL1 k a) := by unfold lockM; rw [aget_one]; simp only [hfree]; rfl
theorem ho3 (k : Key) (a : Int) : readM (HL1 k a) k = (seenV 0 ⟨#[]⟩ false, 60) := by unfold readM; rw [aget_one]; simp only [hfree]; rfl
theorem ho4 (k : Key) (a b : Int) (h : a ≠ b) : unlM HA1 (HL1 k a) b [k] = (51, HA1, HL1 k a) := by
  have : holdsM (HL1 k a) k b = false := by unfold holdsM; rw [aget_one]; simp [h]
  unfold unlM
  have : okU (HL1 k a) b [] [k] = false := by simp [okU, this]
  rw [this]; rfl
theorem ho5 (k : Key) (a : Int) : unlM HA1 (HL1 k a) a [k] = (0, HA2, []) := by
  have h1 : holdsM (HL1 k a) k a = true := by unfold holdsM; rw [aget_one]; simp [hfree]
  unfold unlM
  have h2 : okU (HL1 k a) a [] [k] = true := by simp [okU, h1]
  rw [h2, if_pos rfl]
  simp only [List.foldl_cons, List.foldl_nil]
  have h3 : unl1 (HA1, HL1 k a) k = (HA2, []) := by
    unfold unl1
    rw [aget_one]
    simp only
    have h4 : aput (HL1 k a) k ⟨0, 0, unlockZ (lockZ (absentZ 0 true)), ⟨#[]⟩, a⟩ = [(k, ⟨0, 0, unlockZ (lockZ (absentZ 0 true)), ⟨#[]⟩, a⟩)] := by simp [aput]
    rw [h4]
    have h5 : (stampZ (unlockZ (lockZ (absentZ 0 true))) == 0) = true := by kernel_rfl
    rw [h5, if_pos rfl]
    unfold dropM
    rw [aget_one]
    simp only
    have h6 : liveA HA1 0 0 = true := by kernel_rfl
    rw [h6, if_pos rfl]
    simp [adel]
  rw [h3]
theorem ho6 (k : Key) (b : Int) : lockM HA2 [] k b = ((0, 0), HA3, HL3 k b) := rfl
theorem sortK_one (k : Key) : sortK [k] = [k] := by simp [sortK]
theorem ho7 (k : Key) (a : Int) : heldM (HL1 k a) a = [k] := by
  unfold heldM
  simp [hfree, sortK_one]
theorem ho8 (k : Key) (a b : Int) (h : a ≠ b) : heldM (HL3 k b) a = [] := by
  unfold heldM
  have : (b == a) = false := by simpa using fun e => h e.symm
  simp [this, sortK]
theorem ho9 (k : Key) (b : Int) : heldM (HL3 k b) b = [k] := by
  unfold heldM
  simp [hfree, sortK_one]

set_option maxRecDepth 4000 in
set_option maxHeartbeats 6400000 in
theorem cellHolds_any (k : Key) (a b : Int) (w : World) : Calls Try.prog 17 #[keyV k, .int .i64 a, .int .i64 b] w fun e w' => e = .returned (.bool true) ∧ ∃ p : Ext w, w' = p.w := by
  obtain ⟨kd, ka, kb, ks⟩ := k
  go_enter Try.func17, Try.ntmps17
  go_wp2_with fail
  have HC : Hid (Scene w (w.alloc (.cells (keyCells kd ka kb ks) 23)) [(w.heap.size, 23, keyCells kd ka kb ks)]) := (Scene.refl w).alloc _ _
  obtain ⟨b3, hb3⟩ : ∃ b3, b3 = w.heap.size := ⟨_, rfl⟩
  rw [← hb3] at HC ⊢
  clear hb3
  generalize World.alloc w _ = W' at HC ⊢
  go_at_call 21
  refine (awake_any _).mono ?_
  rintro e w' ⟨rfl, q, rfl⟩
  replace HC : Hid _ := HC.out.ext q
  generalize q.w = W' at HC ⊢
  clear q
  have hb := HC.out.cell (.head _); have k0 : W'.cell? ⟨b3, 0, none⟩ = some (.int .i64 kd) := cell_at 0 hb; have k1 : W'.cell? ⟨b3, 1, none⟩ = some (.int .i64 ka) := cell_at 1 hb; have k2 : W'.cell? ⟨b3, 2, none⟩ = some (.int .i64 kb) := cell_at 2 hb; have k3 : W'.cell? ⟨b3, 3, none⟩ = some (.string ks) := cell_at 3 hb; have l3 : b3 < W'.heap.size := lt_of_blk hb; have n3 : b3 ≠ W'.heap.size := Nat.ne_of_lt l3; clear hb
  by_cases h2 : (300 : Int) < (ks.size : Int)
  · go_wp2_with fail
    go_at_call 21
    refine (awake_any _).mono ?_
    rintro e w' ⟨rfl, q, rfl⟩
    go_wp2_with fail
    obtain ⟨q2, hq⟩ := (HC.out.ext q).fin
    go_ret
    exact ⟨rfl, q2, hq⟩
  go_wp2_with fail
  clear k0 k1 k2 k3 l3 n3
  go_at_call 24
  refine (cellNew_n 3 _ (by decide) (by decide)).mono ?_
  rintro e w' ⟨I, rfl, q, rfl, hS⟩
  have HS : Hid (StN q.w I HA0 [] (Wide w [(b3, 23, keyCells kd ka kb ks)])) := hS.mono (fun b _ h => HC.out.wide b h)
  replace HC : Hid _ := HC.out.ext q
  clear hS
  generalize q.w = W' at HS HC ⊢
  clear q
  have hb := HC.out.cell (.head _); have k0 : W'.cell? ⟨b3, 0, none⟩ = some (.int .i64 kd) := cell_at 0 hb; have k1 : W'.cell? ⟨b3, 1, none⟩ = some (.int .i64 ka) := cell_at 1 hb; have k2 : W'.cell? ⟨b3, 2, none⟩ = some (.int .i64 kb) := cell_at 2 hb; have k3 : W'.cell? ⟨b3, 3, none⟩ = some (.string ks) := cell_at 3 hb; have l3 : b3 < W'.heap.size := lt_of_blk hb; have n3 : b3 ≠ W'.heap.size := Nat.ne_of_lt l3; clear hb
  go_wp2_with fail
  go_at_call 25; have hcc := lock_n I _ _ _ ⟨kd, ka, kb, ks⟩ a _ HS.out HC.out.wide; rw [ho1] at hcc; refine hcc.mono ?_; clear hcc; clear k0 k1 k2 k3 l3 n3; rintro e w' ⟨rfl, q, rfl, hS⟩; replace HS : Hid _ := hS; replace HC : Hid _ := HC.out.ch q; clear hS; generalize q.w = W' at HS HC ⊢; clear q; have hb := HC.out.cell (.head _); have k0 : W'.cell? ⟨b3, 0, none⟩ = some (.int .i64 kd) := cell_at 0 hb; have k1 : W'.cell? ⟨b3, 1, none⟩ = some (.int .i64 ka) := cell_at 1 hb; have k2 : W'.cell? ⟨b3, 2, none⟩ = some (.int .i64 kb) := cell_at 2 hb; have k3 : W'.cell? ⟨b3, 3, none⟩ = some (.string ks) := cell_at 3 hb; have l3 : b3 < W'.heap.size := lt_of_blk hb; have n3 : b3 ≠ W'.heap.size := Nat.ne_of_lt l3; clear hb; go_wp2_with fail
  go_at_call 25; have hcc := lock_n I _ _ _ ⟨kd, ka, kb, ks⟩ b _ HS.out HC.out.wide; rw [ho2] at hcc; refine hcc.mono ?_; clear hcc; clear k0 k1 k2 k3 l3 n3; rintro e w' ⟨rfl, q, rfl, hS⟩; replace HS : Hid _ := hS; replace HC : Hid _ := HC.out.ch q; clear hS; generalize q.w = W' at HS HC ⊢; clear q; have hb := HC.out.cell (.head _); have k0 : W'.cell? ⟨b3, 0, none⟩ = some (.int .i64 kd) := cell_at 0 hb; have k1 : W'.cell? ⟨b3, 1, none⟩ = some (.int .i64 ka) := cell_at 1 hb; have k2 : W'.cell? ⟨b3, 2, none⟩ = some (.int .i64 kb) := cell_at 2 hb; have k3 : W'.cell? ⟨b3, 3, none⟩ = some (.string ks) := cell_at 3 hb; have l3 : b3 < W'.heap.size := lt_of_blk hb; have n3 : b3 ≠ W'.heap.size := Nat.ne_of_lt l3; clear hb; go_wp2_with fail
  go_at_call 28
  have hcc := read_m I _ _ _ ⟨kd, ka, kb, ks⟩ _ HS.out.st
  rw [ho3] at hcc
  refine hcc.mono ?_
  clear hcc
  clear k0 k1 k2 k3 l3 n3
  rintro e w' ⟨rfl, q, rfl⟩
  replace HS : Hid _ := HS.out.ext q; replace HC : Hid _ := HC.out.ext q; generalize q.w = W' at HS HC ⊢; clear q
  have hb := HC.out.cell (.head _); have k0 : W'.cell? ⟨b3, 0, none⟩ = some (.int .i64 kd) := cell_at 0 hb; have k1 : W'.cell? ⟨b3, 1, none⟩ = some (.int .i64 ka) := cell_at 1 hb; have k2 : W'.cell? ⟨b3, 2, none⟩ = some (.int .i64 kb) := cell_at 2 hb; have k3 : W'.cell? ⟨b3, 3, none⟩ = some (.string ks) := cell_at 3 hb; have l3 : b3 < W'.heap.size := lt_of_blk hb; have n3 : b3 ≠ W'.heap.size := Nat.ne_of_lt l3; clear hb
  by_cases hab : a = b
  · subst hab
    go_wp2_with fail
    clear k0 k1 k2 k3 l3 n3
    obtain ⟨b13, hb13⟩ : ∃ n, n = W'.heap.size := ⟨_, rfl⟩; have hsz : (World.alloc W' (.cells #[.int .u64 0, .string ⟨#[]⟩, .bool false] 37)).heap.size = b13 + 1 := (by rw [hb13]; simp); replace HS : Hid _ := HS.out.box #[.int .u64 0, .string ⟨#[]⟩, .bool false] 37; replace HC : Hid _ := HC.out.alloc #[.int .u64 0, .string ⟨#[]⟩, .bool false] 37; rw [← hb13] at HS HC ⊢; clear hb13; generalize World.alloc W' _ = W' at HS HC hsz ⊢
    rw [← hsz]
    clear hsz
    obtain ⟨bsl, hbsl⟩ : ∃ n, n = W'.heap.size := ⟨_, rfl⟩; replace HS : Hid _ := HS.out.box (keyCells kd ka kb ks) 23; replace HC : Hid _ := HC.out.alloc (keyCells kd ka kb ks) 23; rw [← hbsl] at HS HC ⊢; clear hbsl; generalize World.alloc W' _ = W' at HS HC ⊢
    go_at_call 32
    have hcc := unlock_m I HA1 _ _ a (some ⟨bsl, 0, none⟩) 1 1 [⟨kd, ka, kb, ks⟩] _ HS.out HC.out.wide (keysIn_box (HC.out.cell (.head _))) (fun a ha hw => hw.2 _ (.head _) (by cases ha; rfl)) rfl (by decide) (by decide)
    rw [ho5] at hcc
    refine hcc.mono ?_
    clear hcc
    rintro e w' ⟨rfl, q, rfl, hS⟩
    replace HC : Hid _ := (HC.out.ch q).drop; replace HS : Hid _ := hS.drop; clear hS; generalize q.w = W' at HC HS ⊢; clear q
    obtain ⟨fv, l, hst, -, -⟩ := HS.out.st.ex
    have hA : Hid _ := hst.ar
    have s0 : W'.cell? ⟨I.s, 0, none⟩ = some (.pointer (some ⟨I.a, 0, none⟩)) := cell_at 0 hst.st
    clear hst
    go_wp2_with fail
    go_at_call 34
    refine (len_any _ _ _ _ _ _ hA.out).mono ?_
    rintro e w' ⟨rfl, rfl⟩
    go_wp2_with fail
    obtain ⟨q, hq⟩ := HC.out.fin
    go_ret
    exact ⟨rfl, q, hq⟩
  · have hab' : (a == b) = false := by simpa using hab
    go_wp2_with fail
    clear k0 k1 k2 k3 l3 n3
    obtain ⟨b13, hb13⟩ : ∃ n, n = W'.heap.size := ⟨_, rfl⟩; have hsz : (World.alloc W' (.cells #[.int .u64 0, .string ⟨#[]⟩, .bool false] 37)).heap.size = b13 + 1 := (by rw [hb13]; simp); replace HS : Hid _ := HS.out.box #[.int .u64 0, .string ⟨#[]⟩, .bool false] 37; replace HC : Hid _ := HC.out.alloc #[.int .u64 0, .string ⟨#[]⟩, .bool false] 37; rw [← hb13] at HS HC ⊢; clear hb13; generalize World.alloc W' _ = W' at HS HC hsz ⊢
    rw [← hsz]
    clear hsz
    obtain ⟨bsl, hbsl⟩ : ∃ n, n = W'.heap.size := ⟨_, rfl⟩; replace HS : Hid _ := HS.out.box (keyCells kd ka kb ks) 23; replace HC : Hid _ := HC.out.alloc (keyCells kd ka kb ks) 23; rw [← hbsl] at HS HC ⊢; clear hbsl; generalize World.alloc W' _ = W' at HS HC ⊢
    go_at_call 32
    have hcc := unlock_m I HA1 _ _ b (some ⟨bsl, 0, none⟩) 1 1 [⟨kd, ka, kb, ks⟩] _ HS.out HC.out.wide (keysIn_box (HC.out.cell (.head _))) (fun a ha hw => hw.2 _ (.head _) (by cases ha; rfl)) rfl (by decide) (by decide)
    rw [ho4 _ _ _ hab] at hcc
    refine hcc.mono ?_
    clear hcc
    rintro e w' ⟨rfl, q, rfl, hS⟩
    replace HC : Hid _ := (HC.out.ch q).drop; replace HS : Hid _ := hS.drop; clear hS; generalize q.w = W' at HC HS ⊢; clear q
    go_wp2_with fail
    go_at_call 95
    have hcc := held_n I HA1 _ _ a _ HS.out (by simp)
    rw [ho7] at hcc
    refine hcc.mono ?_
    clear hcc
    rintro e w' ⟨v, rfl, q, rfl, fa, cap, rfl, hcap, hK, hg⟩
    rcases hg with ⟨-, he⟩ | ⟨g, c, rfl, hgw, hgb⟩
    · cases he
    obtain ⟨xk, hxk, gb, goff, hga, hcell⟩ := hK.get (i := 0) (by simp)
    obtain rfl : (⟨kd, ka, kb, ks⟩ : Key) = xk := by simpa using hxk
    obtain ⟨rfl, rfl⟩ : g = gb ∧ 0 = goff := by simpa using hga
    have hc0 : c[0]? = some (.int .i64 kd) := (cell_at 0 hgb).symm.trans (by simpa using hcell.c0)
    have hc1 : c[1]? = some (.int .i64 ka) := (cell_at 1 hgb).symm.trans (by simpa using hcell.c1)
    have hc2 : c[2]? = some (.int .i64 kb) := (cell_at 2 hgb).symm.trans (by simpa using hcell.c2)
    have hc3 : c[3]? = some (.string ks) := (cell_at 3 hgb).symm.trans (by simpa using hcell.c3)
    replace HS : Hid _ := (StN.beyond (t := 23) (c := c) HS.out hgw).ext q
    replace HC : Hid _ := (HC.out.ext q).add hgb (Nat.le_trans HC.out.size hgw)
    have HG : Hid _ := And.intro hc0 (And.intro hc1 (And.intro hc2 hc3))
    clear hc0 hc1 hc2 hc3 hcell hga hxk hK hgb hgw
    generalize q.w = W' at HS HC ⊢
    clear q
    have hb := HC.out.cell (.tail _ (.tail _ (.head _))); have k0 : W'.cell? ⟨b3, 0, none⟩ = some (.int .i64 kd) := cell_at 0 hb; have k1 : W'.cell? ⟨b3, 1, none⟩ = some (.int .i64 ka) := cell_at 1 hb; have k2 : W'.cell? ⟨b3, 2, none⟩ = some (.int .i64 kb) := cell_at 2 hb; have k3 : W'.cell? ⟨b3, 3, none⟩ = some (.string ks) := cell_at 3 hb; have l3 : b3 < W'.heap.size := lt_of_blk hb; have n3 : b3 ≠ W'.heap.size := Nat.ne_of_lt l3; clear hb
    go_wp2_with fail
    clear k0 k1 k2 k3 l3 n3
    obtain ⟨bsm, hbsm⟩ : ∃ n, n = W'.heap.size := ⟨_, rfl⟩; replace HS : Hid _ := HS.out.box (keyCells kd ka kb ks) 23; replace HC : Hid _ := HC.out.alloc (keyCells kd ka kb ks) 23; rw [← hbsm] at HS HC ⊢; clear hbsm; generalize World.alloc W' _ = W' at HS HC ⊢
    go_at_call 32
    have hcc := unlock_m I HA1 _ _ a (some ⟨bsm, 0, none⟩) 1 1 [⟨kd, ka, kb, ks⟩] _ HS.out HC.out.wide (keysIn_box (HC.out.cell (.head _))) (fun a ha hw => hw.2 _ (.head _) (by cases ha; rfl)) rfl (by decide) (by decide)
    rw [ho5] at hcc
    refine hcc.mono ?_
    clear hcc
    rintro e w' ⟨rfl, q, rfl, hS⟩
    replace HC : Hid _ := (HC.out.ch q).drop; replace HS : Hid _ := hS.drop; clear hS; generalize q.w = W' at HC HS ⊢; clear q
    have hb := HC.out.cell (.tail _ (.tail _ (.head _))); have k0 : W'.cell? ⟨b3, 0, none⟩ = some (.int .i64 kd) := cell_at 0 hb; have k1 : W'.cell? ⟨b3, 1, none⟩ = some (.int .i64 ka) := cell_at 1 hb; have k2 : W'.cell? ⟨b3, 2, none⟩ = some (.int .i64 kb) := cell_at 2 hb; have k3 : W'.cell? ⟨b3, 3, none⟩ = some (.string ks) := cell_at 3 hb; have l3 : b3 < W'.heap.size := lt_of_blk hb; have n3 : b3 ≠ W'.heap.size := Nat.ne_of_lt l3; clear hb
    go_wp2_with fail
    go_at_call 25; have hcc := lock_n I _ _ _ ⟨kd, ka, kb, ks⟩ b _ HS.out HC.out.wide; rw [ho6] at hcc; refine hcc.mono ?_; clear hcc; clear k0 k1 k2 k3 l3 n3; rintro e w' ⟨rfl, q, rfl, hS⟩; replace HS : Hid _ := hS; replace HC : Hid _ := HC.out.ch q; clear hS; generalize q.w = W' at HS HC ⊢; clear q; have hb := HC.out.cell (.tail _ (.tail _ (.head _))); have k0 : W'.cell? ⟨b3, 0, none⟩ = some (.int .i64 kd) := cell_at 0 hb; have k1 : W'.cell? ⟨b3, 1, none⟩ = some (.int .i64 ka) := cell_at 1 hb; have k2 : W'.cell? ⟨b3, 2, none⟩ = some (.int .i64 kb) := cell_at 2 hb; have k3 : W'.cell? ⟨b3, 3, none⟩ = some (.string ks) := cell_at 3 hb; have l3 : b3 < W'.heap.size := lt_of_blk hb; have n3 : b3 ≠ W'.heap.size := Nat.ne_of_lt l3; clear hb; go_wp2_with fail
    clear k0 k1 k2 k3 l3 n3
    have hbk := HC.out.cell (.tail _ (.tail _ (.head _)))
    have hbg := HC.out.cell (.head _)
    obtain ⟨hc0, hc1, hc2, hc3⟩ := HG.out
    have k0 : ∀ p : Ext W', p.w.cell? ⟨b3, 0, none⟩ = some (.int .i64 kd) := fun p => cell_at 0 (p.blkE hbk)
    have k1 : ∀ p : Ext W', p.w.cell? ⟨b3, 1, none⟩ = some (.int .i64 ka) := fun p => cell_at 1 (p.blkE hbk)
    have k2 : ∀ p : Ext W', p.w.cell? ⟨b3, 2, none⟩ = some (.int .i64 kb) := fun p => cell_at 2 (p.blkE hbk)
    have k3 : ∀ p : Ext W', p.w.cell? ⟨b3, 3, none⟩ = some (.string ks) := fun p => cell_at 3 (p.blkE hbk)
    have g0 : ∀ p : Ext W', p.w.cell? ⟨g, 0, none⟩ = some (.int .i64 kd) := fun p => (cell_at 0 (p.blkE hbg)).trans hc0
    have g1 : ∀ p : Ext W', p.w.cell? ⟨g, 1, none⟩ = some (.int .i64 ka) := fun p => (cell_at 1 (p.blkE hbg)).trans hc1
    have g2 : ∀ p : Ext W', p.w.cell? ⟨g, 2, none⟩ = some (.int .i64 kb) := fun p => (cell_at 2 (p.blkE hbg)).trans hc2
    have g3 : ∀ p : Ext W', p.w.cell? ⟨g, 3, none⟩ = some (.string ks) := fun p => (cell_at 3 (p.blkE hbg)).trans hc3
    clear hbk hbg hc0 hc1 hc2 hc3
    have hE : ∀ w, (Op.equalIn 10000 23 (.agg #[.int .i64 kd, .int .i64 ka, .int .i64 kb, .string ks]) (.agg #[.int .i64 kd, .int .i64 ka, .int .i64 kb, .string ks])).run Try.prog w = .ok true w := fun w => by
      have := run_eq_key ⟨kd, ka, kb, ks⟩ ⟨kd, ka, kb, ks⟩ w
      simpa using this
    refine wp_region_ch NoS (by kernel_rfl) (by kernel_rfl) (fun p hp => ?_)
    clear hp
    (repeat (first | (refine wpMix_skip rfl rfl ?_) | (refine wpMix_step (fun K hK => ?_); go_simp; (with_reducible (refine hK _ _ ?_)); clear hK K)))
    refine wpMix_step (fun K hK => ?_); go_simp
    have hcc := held_n I HA3 _ _ a p.w (HS.out.ext p) (by simp)
    rw [ho8 _ _ _ hab] at hcc
    refine hcc.mono ?_
    clear hcc
    rintro e w' ⟨v, rfl, q, rfl, fa, cap2, rfl, -, -, -⟩
    obtain ⟨q2, hq2⟩ : ∃ q2 : Ext W', q.w = q2.w := ⟨p.thenE q, rfl⟩
    rw [hq2]
    refine ⟨⟨q2, rfl⟩, hK _ _ ?_⟩; clear hK K
    (repeat (first | (refine wpMix_skip rfl rfl ?_) | (refine wpMix_step (fun K hK => ?_); go_simp; (with_reducible (refine hK _ _ ?_)); clear hK K)))
    refine wpMix_step (fun K hK => ?_); go_simp
    have hcc := held_n I HA3 _ _ b q2.w (HS.out.ext q2) (by simp)
    rw [ho9] at hcc
    refine hcc.mono ?_
    clear hcc
    rintro e w' ⟨v, rfl, q3, rfl, fa3, cap3, rfl, -, -, -⟩
    obtain ⟨q4, hq4⟩ : ∃ q4 : Ext W', q3.w = q4.w := ⟨q2.thenE q3, rfl⟩
    rw [hq4]
    refine ⟨⟨q4, rfl⟩, hK _ _ ?_⟩; clear hK K
    (repeat (first | (refine wpMix_skip rfl rfl ?_) | (refine wpMix_step (fun K hK => ?_); go_simp; (with_reducible (refine hK _ _ ?_)); clear hK K)))
    refine wpMix_nil ?_
    go_wp2_with fail
    obtain ⟨r, hr⟩ := (HC.out.ext q4).fin
    go_ret
    exact ⟨rfl, r, hr⟩
end Go.Proofs.Cob
