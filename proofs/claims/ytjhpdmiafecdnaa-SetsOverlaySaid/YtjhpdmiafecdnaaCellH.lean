/-
  The arena, once more: Live and Free.
-/
import Derived.Test.YtjhpdmiafecdnaaMemB
import Derived.Test.YtjhpdmiafecdnaaScene
namespace Go.Proofs.Cob
open Go Go.RowKit Go.Cob
set_option linter.unusedSimpArgs false
set_option linter.unusedVariables false

def liveA (A : ArenaSt) (sl gen : Int) : Bool := (aget A.taken sl).getD false && (genOf A sl == gen)
theorem ArenaAt.ext {w : World} {a g t : Nat} {fv : Value} {A : ArenaSt} (h : ArenaAt w a g t fv A) (p : Ext w) : ArenaAt p.w a g t fv A :=
  h.keep (p.same _ (lt_of_blk h.1) id) (p.same _ h.2.1.lt id) (p.same _ h.2.2.1.lt id) (fun b hb => by obtain ⟨cur, hc⟩ := rowBlk h.2.2.2.1 hb; exact p.same _ (lt_of_blk hc) id)

set_option maxHeartbeats 800000 in
theorem live_any (a g t : Nat) (fv : Value) (A : ArenaSt) (sl gen : Int) (w : World) (hA : ArenaAt w a g t fv A) :
    Calls Try.prog 90 #[.pointer (some ⟨a, 0, none⟩), .agg #[.int .i64 sl, .int .i64 gen]] w fun e w' => e = .returned (.bool (liveA A sl gen)) ∧ ∃ p : Ext w, w' = p.w := by
  obtain ⟨W, hW⟩ : ∃ W, W = w.alloc (.cells #[.int .i64 sl, .int .i64 gen] 143) := ⟨_, rfl⟩
  have hb : W.heap[w.heap.size]? = some (.cells #[.int .i64 sl, .int .i64 gen] 143 (0, 0)) := by rw [hW]; exact heap_alloc_at _ _
  have hA' : ArenaAt W a g t fv A := by rw [hW]; exact hA.ext ((Ch.refl NoS w).alloc _)
  have fin : ∀ p : Ext W, ∃ q : Ext w, p.w = q.w := fun p => ⟨((Ch.refl NoS w).alloc _).onto hW p (fun b hb h => h), rfl⟩
  have c0 : ∀ p : Ext W, p.w.cell? ⟨w.heap.size, 0, none⟩ = some (.int .i64 sl) := fun p => cell_at 0 (p.blkE hb)
  have c1 : ∀ p : Ext W, p.w.cell? ⟨w.heap.size, 1, none⟩ = some (.int .i64 gen) := fun p => cell_at 1 (p.blkE hb)
  have a1 : ∀ p : Ext W, p.w.cell? ⟨a, 1, none⟩ = some (.map (some g)) := fun p => cell_at 1 (p.blkE hA'.1)
  have a2 : ∀ p : Ext W, p.w.cell? ⟨a, 2, none⟩ = some (.map (some t)) := fun p => cell_at 2 (p.blkE hA'.1)
  have hg : ∀ p : Ext W, MapAt intV intV p.w g A.gens := fun p => hA'.2.1.ext p
  have ht : ∀ p : Ext W, MapAt intV boolV p.w t A.taken := fun p => hA'.2.2.1.ext p
  clear hA hA'
  cases htk : (aget A.taken sl).getD false
  · have e : liveA A sl gen = false := by simp [liveA, htk]
    rw [e]
    clear e
    have Htk : Hid _ := htk
    clear htk
    go_enter Try.func90, Try.ntmps90
    go_wp2_with fail
    rw [← hW]
    clear hW
    refine wp_region_ch NoS (by kernel_rfl) (by kernel_rfl) (fun p hp => ?_)
    clear hp
    (repeat (first | (refine wpMix_skip rfl rfl ?_) | (refine wpMix_step (fun K hK => ?_); go_simp; (with_reducible (refine hK _ _ ?_)); clear hK K)))
    refine wpMix_look (K := int_law Try.underlying3) (encV := boolV) (k := sl) (l := A.taken) (c := false) rfl _ _ rfl Try.underlying198 z4 rfl rfl (fun w' ⟨q, hq⟩ => by rw [hq]; exact ht q) (v := .bool false) (by rw [← Htk.out]; cases aget A.taken sl <;> rfl) ?_
    (repeat (first | (refine wpMix_skip rfl rfl ?_) | (refine wpMix_step (fun K hK => ?_); go_simp; (with_reducible (refine hK _ _ ?_)); clear hK K)))
    refine wpMix_nil ?_
    go_wp2
    go_ret
    exact ⟨rfl, fin p⟩
  · have e : liveA A sl gen = (genOf A sl == gen) := by simp [liveA, htk]
    rw [e]
    clear e
    have Htk : Hid _ := htk
    clear htk
    go_enter Try.func90, Try.ntmps90
    go_wp2_with fail
    rw [← hW]
    clear hW
    refine wp_region_ch NoS (by kernel_rfl) (by kernel_rfl) (fun p hp => ?_)
    clear hp
    (repeat (first | (refine wpMix_skip rfl rfl ?_) | (refine wpMix_step (fun K hK => ?_); go_simp; (with_reducible (refine hK _ _ ?_)); clear hK K)))
    refine wpMix_look (K := int_law Try.underlying3) (encV := boolV) (k := sl) (l := A.taken) (c := false) rfl _ _ rfl Try.underlying198 z4 rfl rfl (fun w' ⟨q, hq⟩ => by rw [hq]; exact ht q) (v := .bool true) (by rw [← Htk.out]; cases aget A.taken sl <;> rfl) ?_
    (repeat (first | (refine wpMix_skip rfl rfl ?_) | (refine wpMix_step (fun K hK => ?_); go_simp; (with_reducible (refine hK _ _ ?_)); clear hK K)))
    refine wpMix_look (K := int_law Try.underlying3) (encV := intV) (k := sl) (l := A.gens) (c := false) rfl _ _ rfl Try.underlying197 z3 rfl rfl (fun w' ⟨q, hq⟩ => by rw [hq]; exact hg q) (v := .int .i64 (genOf A sl)) (by unfold genOf; cases aget A.gens sl <;> rfl) ?_
    (repeat (first | (refine wpMix_skip rfl rfl ?_) | (refine wpMix_step (fun K hK => ?_); go_simp; (with_reducible (refine hK _ _ ?_)); clear hK K)))
    refine wpMix_nil ?_
    go_wp2
    go_ret
    exact ⟨rfl, fin p⟩

def freedA (A : ArenaSt) (sl : Int) : ArenaSt := { A with taken := adel A.taken sl, gens := aput A.gens sl (IntKind.i64.wrap (genOf A sl + 1)), free := A.free ++ [sl] }

/-- The slice that lists one handle. -/
abbrev one143 (h : Nat) : Value := .slice (some ⟨h, 0, none⟩) 1 1

set_option maxHeartbeats 800000 in
theorem arenaFree_not (a g t h : Nat) (fv : Value) (A : ArenaSt) (sl gen : Int) (w : World) (hA : ArenaAt w a g t fv A) (hh : w.heap[h]? = some (.cells #[.int .i64 sl, .int .i64 gen] 143 (0, 0))) (hl : liveA A sl gen = false) :
    Calls Try.prog 196 #[.pointer (some ⟨a, 0, none⟩), one143 h] w fun e w' => e = .returned (.int .i64 51) ∧ ∃ p : Ext w, w' = p.w := by
  have hmm := @run_makeMap Try.prog
  obtain ⟨W, hW⟩ : ∃ W, W = w.alloc (.map #[] 0) := ⟨_, rfl⟩
  have hA' : ArenaAt W a g t fv A := by rw [hW]; exact hA.ext ((Ch.refl NoS w).alloc _)
  have hh' : W.heap[h]? = some (.cells #[.int .i64 sl, .int .i64 gen] 143 (0, 0)) := by rw [hW]; exact heap_alloc_blk _ hh
  have fin : ∀ p : Ext W, ∃ q : Ext w, p.w = q.w := fun p => ⟨((Ch.refl NoS w).alloc _).onto hW p (fun b hb h => h), rfl⟩
  clear hA hh
  go_enter Try.func196, Try.ntmps196
  go_wp2_with fail
  rw [← hW]
  clear hW
  have c0 := cell_at 0 hh'
  have c1 := cell_at 1 hh'
  refine wp_loop_rounds 2 ?_
  rw [rounds_succ]
  go_wp2_with (go_at_call 90; go_must (refine (live_any _ _ _ _ _ _ _ _ (hA'.ext ((Ch.refl NoS W).alloc _))).mono ?_); rw [hl]; rintro e w' ⟨rfl, p, rfl⟩)
  go_ret
  exact ⟨rfl, fin (((Ch.refl NoS W).alloc _).thenE p)⟩

theorem info3 : ∃ i, Try.prog.info? 3 = some i ∧ i.zero = some (.int .i64 0) ∧ i.size = 1 ∧ i.bytes = 8 :=
  ⟨(Try.prog.info? 3).get (by kernel_rfl), (Option.some_get _).symm, by kernel_rfl, by kernel_rfl, by kernel_rfl⟩

set_option maxRecDepth 4000 in
set_option maxHeartbeats 1600000 in
theorem arenaFree_ok (a g t h : Nat) (fv : Value) (A : ArenaSt) (sl gen : Int) (w : World) (hA : ArenaAt w a g t fv A) (hh : w.heap[h]? = some (.cells #[.int .i64 sl, .int .i64 gen] 143 (0, 0))) (hl : liveA A sl gen = true)
    (hlen : A.free.length ≤ 1048576) :
    Calls Try.prog 196 #[.pointer (some ⟨a, 0, none⟩), one143 h] w fun e w' => e = .returned (.int .i64 0) ∧ ∃ p : Ch (fun b => b = a ∨ b = g ∨ b = t ∨ fv.ownBlock = some b) w, w' = p.w ∧
      ∃ fv' k, fv'.ownBlock = some k ∧ (fv.ownBlock = some k ∨ w.heap.size ≤ k) ∧ ArenaAt p.w a g t fv' (freedA A sl) := by
  have hmm := @run_makeMap Try.prog
  obtain ⟨W, hW⟩ : ∃ W, W = w.alloc (.map #[] 0) := ⟨_, rfl⟩
  have hA' : ArenaAt W a g t fv A := by rw [hW]; exact hA.ext ((Ch.refl NoS w).alloc _)
  have hh' : W.heap[h]? = some (.cells #[.int .i64 sl, .int .i64 gen] 143 (0, 0)) := by rw [hW]; exact heap_alloc_blk _ hh
  have hM : MapAt intV boolV W w.heap.size [] := by rw [hW]; exact MapAt.made w
  have fin : ∀ p : Ch (fun b => b = a ∨ b = g ∨ b = t ∨ fv.ownBlock = some b ∨ w.heap.size ≤ b) W, ∃ q : Ch (fun b => b = a ∨ b = g ∨ b = t ∨ fv.ownBlock = some b) w, p.w = q.w := fun p => ⟨((Ch.refl _ w).alloc _).onto hW p (fun b hb h => by rcases h with h | h | h | h | h; exact .inl h; exact .inr (.inl h); exact .inr (.inr (.inl h)); exact .inr (.inr (.inr h)); omega), rfl⟩
  have hsz : W.heap.size = w.heap.size + 1 := by rw [hW]; simp
  have hgl : g < w.heap.size := hA.2.1.lt
  have htl : t < w.heap.size := hA.2.2.1.lt
  clear hA hh
  go_enter Try.func196, Try.ntmps196
  go_wp2_with fail
  rw [← hW]
  clear hW
  have c0 := cell_at 0 hh'
  have c1 := cell_at 1 hh'
  have HM : Hid (MapAt intV boolV W w.heap.size []) := hM
  have Hsz : Hid (W.heap.size = w.heap.size + 1) := hsz
  clear hM hsz
  refine wp_loop_rounds 2 ?_
  rw [rounds_succ]
  go_wp2_with fail
  go_at_call 90
  refine (live_any _ _ _ _ _ _ _ _ (hA'.ext ((Ch.refl NoS W).alloc _))).mono ?_
  rw [hl]
  rintro e w' ⟨rfl, p, rfl⟩
  have hp : p.w.heap.size ≥ W.heap.size := by have := p.size; simp at this; omega
  have HP : Hid (p.w.heap.size ≥ W.heap.size) := hp
  clear hp
  have b0 : p.w.cell? ⟨W.heap.size, 0, none⟩ = some (.int .i64 sl) := cell_at 0 (p.blkE (heap_alloc_at _ _))
  have e1 : (Instr.lookup 198 (.map (some w.heap.size)) (.int .i64 sl) false).run Try.prog p.w = .ok (.bool false) p.w := by
    have := (HM.out.ext (((Ch.refl NoS W).alloc (.cells #[.int .i64 sl, .int .i64 gen] 143)).thenE p)).lookBoth (int_law Try.underlying3) Try.underlying198 z4 sl false
    exact this
  go_wp2_with (at_mapUpdate; go_must (refine wpList_put (K := int_law Try.underlying3) (encV := boolV) (k := sl) (u := true) (l := []) rfl _ _ _ rfl Try.underlying198 rfl rfl rfl (HM.out.ext (((Ch.refl NoS W).alloc _).thenE p)) ?_); intro ob hT)
  obtain ⟨q, hq⟩ : ∃ q : Ch (fun b => b = w.heap.size) W, q.w = putO p.w w.heap.size ob := ⟨((((Ch.refl NoS W).alloc (.cells #[.int .i64 sl, .int .i64 gen] 143)).thenE p).up (fun b => b = w.heap.size)).putO w.heap.size ob (fun _ => rfl), rfl⟩
  have hA2 : ArenaAt q.w a g t fv A := hA'.keep (q.same _ (lt_of_blk hA'.1) (fun e => HM.out.ne_cells hA'.1 e.symm)) (q.same _ hA'.2.1.lt (by omega)) (q.same _ hA'.2.2.1.lt (by omega)) (fun b hb => by obtain ⟨cur, hc⟩ := rowBlk hA'.2.2.2.1 hb; exact q.same _ (lt_of_blk hc) (fun e => HM.out.ne_cells hc e.symm))
  have hh2 : q.w.heap[h]? = some (.cells #[.int .i64 sl, .int .i64 gen] 143 (0, 0)) := q.blk hh' (fun e => HM.out.ne_cells hh' e.symm)
  have fin2 : ∀ r : Ch (fun b => b = a ∨ b = g ∨ b = t ∨ fv.ownBlock = some b ∨ w.heap.size ≤ b) q.w, ∃ r' : Ch (fun b => b = a ∨ b = g ∨ b = t ∨ fv.ownBlock = some b) w, r.w = r'.w := fun r =>
    fin ((q.mono (fun b _ e => .inr (.inr (.inr (.inr (by omega)))))).then r (fun _ _ h => h))
  rw [← hq]
  clear hT hq c0 c1 b0 e1 hA' hh' fin
  have hsz2 : w.heap.size < q.w.heap.size := by have := q.size; have := Hsz.out; omega
  have Hsz2 : Hid (w.heap.size < q.w.heap.size) := hsz2
  clear hsz2
  generalize q.w = W2 at hA2 hh2 fin2 Hsz2 ⊢
  clear HP q
  have c0 := cell_at 0 hh2
  have c1 := cell_at 1 hh2
  rw [rounds_succ]
  go_wp2_with fail
  refine wp_loop_rounds 2 ?_
  rw [rounds_succ]
  go_wp2_with fail
  obtain ⟨W3, hW3⟩ : ∃ W3, W3 = W2.alloc (.cells #[.int .i64 sl, .int .i64 gen] 143) := ⟨_, rfl⟩
  obtain ⟨n, hn⟩ : ∃ n, n = W2.heap.size := ⟨_, rfl⟩
  have hA3 : ArenaAt W3 a g t fv A := by rw [hW3]; exact hA2.ext ((Ch.refl NoS W2).alloc _)
  have hb3 : W3.heap[n]? = some (.cells #[.int .i64 sl, .int .i64 gen] 143 (0, 0)) := by rw [hW3, hn]; exact heap_alloc_at _ _
  have fin3 : ∀ r : Ch (fun b => b = a ∨ b = g ∨ b = t ∨ fv.ownBlock = some b ∨ w.heap.size ≤ b) W3, ∃ r' : Ch (fun b => b = a ∨ b = g ∨ b = t ∨ fv.ownBlock = some b) w, r.w = r'.w := fun r =>
    fin2 (((Ch.refl _ W2).alloc _).onto hW3 r (fun _ _ h => h))
  have hsz3 : w.heap.size < W3.heap.size := by have := Hsz2.out; rw [hW3]; simp; omega
  have Hsz3 : Hid (w.heap.size < W3.heap.size) := hsz3
  clear hsz3
  rw [← hn, ← hW3]
  clear hA2 hh2 fin2 Hsz2 c0 c1 hn hW3 W2
  obtain ⟨hb, hg, ht, hr, hgt⟩ := hA3
  have hnt : n ≠ t := fun e => ht.ne_cells hb3 e.symm
  have hng : n ≠ g := fun e => hg.ne_cells hb3 e.symm
  have hna : n ≠ a := blkNe hb3 hb (by decide)
  have hat' : a ≠ t := fun e => ht.ne_cells hb e.symm
  have hag : a ≠ g := fun e => hg.ne_cells hb e.symm
  have Hne : Hid (g ≠ t) := hgt
  -- the taken map
  have x0 : ∀ p : Ch (fun b => b = t) W3, p.w.cell? ⟨n, 0, none⟩ = some (.int .i64 sl) := fun p => cell_at 0 (p.blk hb3 hnt)
  have x2 : ∀ p : Ch (fun b => b = t) W3, p.w.cell? ⟨a, 2, none⟩ = some (.map (some t)) := fun p => cell_at 2 (p.blk hb hat')
  refine wp_region_ch (fun b => b = t) (by kernel_rfl) (by kernel_rfl) (fun p hp => ?_)
  have htp : MapAt intV boolV p.w t A.taken := ht.keep (by rw [hp])
  clear hp
  (repeat (first | (refine wpMix_skip rfl rfl ?_) | (refine wpMix_step (fun K hK => ?_); go_simp; (with_reducible (refine hK _ _ ?_)); clear hK K)))
  refine wpMix_del (K := int_law Try.underlying3) (encV := boolV) (k := sl) (l := A.taken) rfl _ _ _ rfl Try.underlying198 rfl rfl htp (fun ob hM => ⟨⟨p.putO t ob (fun _ => rfl), rfl⟩, ?_⟩)
  refine wpMix_nil ?_
  have fin4 : ∀ r : Ch (fun b => b = a ∨ b = g ∨ b = t ∨ fv.ownBlock = some b ∨ w.heap.size ≤ b) (putO p.w t ob), ∃ r' : Ch (fun b => b = a ∨ b = g ∨ b = t ∨ fv.ownBlock = some b) w, r.w = r'.w := fun r =>
    fin3 (((p.mono (T := (fun b => b = a ∨ b = g ∨ b = t ∨ fv.ownBlock = some b ∨ w.heap.size ≤ b)) (fun b _ e => .inr (.inr (.inl e)))).putO t ob (fun _ => .inr (.inr (.inl rfl)))).then r (fun _ _ h => h))
  have hb4 : (putO p.w t ob).heap[a]? = some (.cells #[.int .i64 A.room, .map (some g), .map (some t), fv, .int .i64 A.fresh] 200 (0, 0)) := by rw [putO_other _ hat']; exact p.blk hb hat'
  have hn4 : (putO p.w t ob).heap[n]? = some (.cells #[.int .i64 sl, .int .i64 gen] 143 (0, 0)) := by rw [putO_other _ hnt]; exact p.blk hb3 hnt
  have hg4 : MapAt intV intV (putO p.w t ob) g A.gens := hg.keep (by rw [putO_other _ Hne.out]; exact p.same _ hg.lt Hne.out)
  have hr4 : (putO p.w t ob).ownsRow 0 3 1 fv A.free.length (A.free.map intV) := rowKeep hr (fun k hk => by
    obtain ⟨cur, hc⟩ := rowBlk hr hk
    have hkt : k ≠ t := fun e => ht.ne_cells hc e.symm
    rw [putO_other _ hkt]; exact p.same _ (lt_of_blk hc) hkt)
  have hsz4 : w.heap.size < (putO p.w t ob).heap.size := by rw [putO_size]; have := p.size; have := Hsz3.out; omega
  have Hsz4 : Hid (w.heap.size < (putO p.w t ob).heap.size) := hsz4
  clear hsz4 htp fin3 hb hb3 hg ht hr x0 x2 Hsz3
  generalize putO p.w t ob = W4 at hM fin4 hb4 hn4 hg4 hr4 Hsz4 ⊢
  clear p W3
  -- the generations
  go_wp2_with fail
  have x0 : ∀ p : Ext W4, p.w.cell? ⟨n, 0, none⟩ = some (.int .i64 sl) := fun p => cell_at 0 (p.blkE hn4)
  have x1 : ∀ p : Ext W4, p.w.cell? ⟨a, 1, none⟩ = some (.map (some g)) := fun p => cell_at 1 (p.blkE hb4)
  refine wp_region_lch NoS (by kernel_rfl) (by repeat constructor) (by kernel_rfl) (by kernel_rfl) (fun p hp => ?_)
  have hgp : MapAt intV intV p.w g A.gens := hg4.keep (by rw [hp])
  clear hp
  (repeat (first | (refine wpMix_skip rfl rfl ?_) | (refine wpMix_step (fun K hK => ?_); go_simp; (with_reducible (refine hK _ _ ?_)); clear hK K)))
  refine wpMix_look (K := int_law Try.underlying3) (encV := intV) (k := sl) (l := A.gens) (c := false) rfl _ _ rfl Try.underlying197 z3 rfl rfl (fun w' ⟨q, hq⟩ => by rw [hq]; exact hg4.ext q) (v := .int .i64 (genOf A sl)) (by unfold genOf; cases aget A.gens sl <;> rfl) ?_
  (repeat (first | (refine wpMix_skip rfl rfl ?_) | (refine wpMix_step (fun K hK => ?_); go_simp; (with_reducible (refine hK _ _ ?_)); clear hK K)))
  refine wpMix_nil ?_
  refine last_put (K := int_law Try.underlying3) (encV := intV) (k := sl) (l := A.gens) rfl _ _ _ rfl Try.underlying197 rfl rfl rfl hgp (fun ob2 hG => ?_)
  have fin5 : ∀ r : Ch (fun b => b = a ∨ b = g ∨ b = t ∨ fv.ownBlock = some b ∨ w.heap.size ≤ b) (putO p.w g ob2), ∃ r' : Ch (fun b => b = a ∨ b = g ∨ b = t ∨ fv.ownBlock = some b) w, r.w = r'.w := fun r =>
    fin4 (((p.up (fun b => b = a ∨ b = g ∨ b = t ∨ fv.ownBlock = some b ∨ w.heap.size ≤ b)).putO g ob2 (fun _ => .inr (.inl rfl))).then r (fun _ _ h => h))
  have hb5 : (putO p.w g ob2).heap[a]? = some (.cells #[.int .i64 A.room, .map (some g), .map (some t), fv, .int .i64 A.fresh] 200 (0, 0)) := by rw [putO_other _ hag]; exact p.blkE hb4
  have hn5 : (putO p.w g ob2).heap[n]? = some (.cells #[.int .i64 sl, .int .i64 gen] 143 (0, 0)) := by rw [putO_other _ hng]; exact p.blkE hn4
  have ht5 : MapAt intV boolV (putO p.w g ob2) t (adel A.taken sl) := (hM.ext p).keep (by rw [putO_other _ (Ne.symm Hne.out)])
  have hr5 : (putO p.w g ob2).ownsRow 0 3 1 fv A.free.length (A.free.map intV) := rowKeep hr4 (fun k hk => by
    obtain ⟨cur, hc⟩ := rowBlk hr4 hk
    have hkg : k ≠ g := fun e => hg4.ne_cells hc e.symm
    rw [putO_other _ hkg]; exact p.same _ (lt_of_blk hc) id)
  have hsz5 : w.heap.size < (putO p.w g ob2).heap.size := by rw [putO_size]; have := p.size; have := Hsz4.out; omega
  have Hsz5 : Hid (w.heap.size < (putO p.w g ob2).heap.size) := hsz5
  clear hsz5 hgp fin4 hb4 hn4 hg4 hr4 hM x0 x1 Hsz4
  generalize putO p.w g ob2 = W5 at hG fin5 hb5 hn5 ht5 hr5 Hsz5 ⊢
  clear p W4
  -- the free row
  have hra : ∀ k, fv.ownBlock = some k → k ≠ a := fun k hk => by obtain ⟨cur, hc⟩ := rowBlk hr5 hk; exact blkNe hc hb5 (by decide)
  have hrn : ∀ k, fv.ownBlock = some k → k ≠ n := fun k hk => by obtain ⟨cur, hc⟩ := rowBlk hr5 hk; exact blkNe hc hn5 (by decide)
  have hrg : ∀ k, fv.ownBlock = some k → k ≠ g := fun k hk => by obtain ⟨cur, hc⟩ := rowBlk hr5 hk; exact fun e => hG.ne_cells hc e.symm
  have hrt : ∀ k, fv.ownBlock = some k → k ≠ t := fun k hk => by obtain ⟨cur, hc⟩ := rowBlk hr5 hk; exact fun e => ht5.ne_cells hc e.symm
  obtain ⟨i0, hi, hz0, hz1, hz2⟩ := info3
  go_wp2_with fail
  have x0 : ∀ p : Ch (fun b => fv.ownBlock = some b) W5, p.w.cell? ⟨n, 0, none⟩ = some (.int .i64 sl) := fun p => cell_at 0 (p.blk hn5 (fun e => hrn _ e rfl))
  have x3 : ∀ p : Ch (fun b => fv.ownBlock = some b) W5, p.w.cell? ⟨a, 3, none⟩ = some fv := fun p => cell_at 3 (p.blk hb5 (fun e => hra _ e rfl))
  have y3 : ∀ p : Ch (fun b => fv.ownBlock = some b) W5, p.w.frozen? ⟨a, 3, none⟩ = false := fun p => frozen_at 3 (p.blk hb5 (fun e => hra _ e rfl))
  refine wp_region_lch (fun b => fv.ownBlock = some b) (by kernel_rfl) (by repeat constructor) (by kernel_rfl) (by kernel_rfl) (fun p hp => ?_)
  have hrp : p.w.ownsRow 0 3 1 fv A.free.length (A.free.map intV) := rowKeep hr5 (fun k hk => by rw [hp])
  clear hp
  (repeat (first | (refine wpMix_skip rfl rfl ?_) | (refine wpMix_step (fun K hK => ?_); go_simp; (with_reducible (refine hK _ _ ?_)); clear hK K)))
  refine wpMix_step (fun K hK => ?_); go_simp
  refine ⟨⟨p.alloc _, rfl⟩, hK _ _ ?_⟩; clear hK K
  refine wpMix_append rfl _ _ 67 rfl 3 i0 (.int .i64 0) 1 8 Try.underlying67 hi hz0 hz1 hz2 rfl (by decide) fv A.free.length (A.free.map intV) rfl (hrp.alloc _) ⟨p.w.heap.size, 0, none⟩ 1 1 [.int .i64 sl] rfl rfl (cell_one_new _ _ _) (by simp [Value.oneCell']) (by decide) (by unfold maxLen; omega) (by omega) ?_
  intro k cap w' hown hgrow hat hlt
  obtain ⟨q, hq⟩ : ∃ q : Ch (fun b => fv.ownBlock = some b) W5, w' = q.w := ⟨(p.alloc _).grown hgrow (fun b _ e => e), rfl⟩
  have hqs : p.w.heap.size + 1 ≤ q.w.heap.size := by have := hgrow.size; rw [hq] at this; simpa using this
  have Hps : Hid (W5.heap.size ≤ p.w.heap.size) := p.size
  subst hq
  refine ⟨⟨q, rfl⟩, ?_⟩
  have Hat : Hid (fv.ownBlock = some k ∨ k = (p.w.alloc (.cells #[.int .i64 sl] 3)).heap.size) := hat
  have Hlt : Hid (k < q.w.heap.size) := hlt
  clear hgrow hrp hqs hlt hat
  (repeat (first | (refine wpMix_skip rfl rfl ?_) | (refine wpMix_step (fun K hK => ?_); go_simp; (with_reducible (refine hK _ _ ?_)); clear hK K)))
  refine wpMix_nil ?_
  refine last_step (fun K hK => ?_); go_simp; (with_reducible (refine hK _ _ ?_)); clear hK K
  go_wp2_with fail
  rw [rounds_succ]
  go_wp2_with fail
  go_ret
  obtain ⟨r, hr'⟩ := fin5 ((q.mono (T := (fun b => b = a ∨ b = g ∨ b = t ∨ fv.ownBlock = some b ∨ w.heap.size ≤ b)) (fun b _ e => .inr (.inr (.inr (.inl e))))).set a 3 (.slice (some ⟨k, 0, none⟩) (A.free.length + 1) cap) (fun _ => .inl rfl))
  have hsz : ∀ k, k = (p.w.alloc (.cells #[.int .i64 sl] 3)).heap.size → W5.heap.size ≤ k ∧ w.heap.size ≤ k := fun k hk => by
    have h1 := Hps.out
    have h2 := Hsz5.out
    rw [hk]; simp; omega
  have hka : k ≠ a := by
    rcases Hat.out with h | h
    · exact hra k h
    · have := (hsz k h).1; have := lt_of_blk hb5; omega
  have hkg : k ≠ g := by
    rcases Hat.out with h | h
    · exact hrg k h
    · have := (hsz k h).1; have := hG.lt; omega
  have hkt : k ≠ t := by
    rcases Hat.out with h | h
    · exact hrt k h
    · have := (hsz k h).1; have := ht5.lt; omega
  refine ⟨rfl, r, hr', .slice (some ⟨k, 0, none⟩) (A.free.length + 1) cap, k, rfl, ?_, hr' ▸ ⟨?_, ?_, ?_, ?_, Hne.out⟩⟩
  · rcases Hat.out with h | h
    · exact .inl h
    · exact .inr (hsz k h).2
  · have := heap_set_same (q.blk hb5 (fun e => hra _ e rfl)) 3 (.slice (some ⟨k, 0, none⟩) (A.free.length + 1) cap)
    simpa [freedA] using this
  · refine MapAt.keep hG ?_
    show (World.setCell q.w _ _).heap[g]? = _
    rw [heap_set_other (Ne.symm hag)]
    exact q.same _ hG.lt (fun e => hrg _ e rfl)
  · refine MapAt.keep ht5 ?_
    show (World.setCell q.w _ _).heap[t]? = _
    rw [heap_set_other (Ne.symm hat')]
    exact q.same _ ht5.lt (fun e => hrt _ e rfl)
  · have : (A.free ++ [sl]).length = A.free.length + 1 := by simp
    show World.ownsRow _ 0 3 1 _ (A.free ++ [sl]).length ((A.free ++ [sl]).map intV)
    rw [this, List.map_append]
    refine rowKeep hown (fun b hb => ?_)
    have : b = k := by simpa [Value.ownBlock] using hb.symm
    subst this
    show (World.setCell q.w _ _).heap[b]? = _
    rw [heap_set_other hka]
end Go.Proofs.Cob
