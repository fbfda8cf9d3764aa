/-
  The arena, once more: Live and Free. The cells' store (layer 9): drop. Slices of keys: where they lie; Contains. The cells' store (layer 9): Unlock and Free. The cells' store (layer 9): Free.
-/
import Derived.Test.YtjhpdmiafecdnaaJa
import Derived.Test.YtjhpdmiafecdnaaJb
import Derived.WalkKit
namespace Go.Proofs.Cob
open Go Go.RowKit Go.Cob
set_option linter.unusedSimpArgs false
set_option linter.unusedVariables false

def liveA (A : ArenaSt) (sl gen : Int) : Bool := (aget A.taken sl).getD false && (genOf A sl == gen)
theorem ArenaAt.ext {w : World} {a g t : Nat} {fv : Value} {A : ArenaSt} (h : ArenaAt w a g t fv A) (p : Ext w) : ArenaAt p.w a g t fv A :=
  h.keep (p.same _ (lt_of_blk h.1) id) (p.same _ h.2.1.lt id) (p.same _ h.2.2.1.lt id) (fun b hb => by obtain ⟨cur, hc⟩ := rowBlk h.2.2.2.1 hb; exact p.same _ (lt_of_blk hc) id)

set_option maxHeartbeats 800000 in
theorem live_any (a g t : Nat) (fv : Value) (A : ArenaSt) (sl gen : Int) (w : World) (hA : ArenaAt w a g t fv A) :
    Calls Try.prog 90 #[.pointer (some ⟨a, 0, none⟩), .agg #[.int .i64 sl, .int .i64 gen]] w fun e w' => e = .returned (.bool (liveA A sl gen)) ∧ ∃ p : Ext w, w' = p.w := by
  obtain ⟨W, hW⟩ : ∃ W, W = w.alloc (.cells #[.int .i64 sl, .int .i64 gen] 143) := ⟨_, rfl⟩
  have hb : W.heap[w.heap.size]? = some (.cells #[.int .i64 sl, .int .i64 gen] 143 (0, 0)) := by rw [hW]; exact heap_alloc_at _ _
  have hA' : ArenaAt W a g t fv A := by rw [hW]; exact hA.ext ((Ch.refl NoS w).alloc _)
  have fin : ∀ p : Ext W, ∃ q : Ext w, p.w = q.w := fun p => ⟨((Ch.refl NoS w).alloc _).onto hW p (fun b hb h => h), rfl⟩
  have c0 : ∀ p : Ext W, p.w.cell? ⟨w.heap.size, 0, none⟩ = some (.int .i64 sl) := fun p => cell_at 0 (p.blkE hb)
  have c1 : ∀ p : Ext W, p.w.cell? ⟨w.heap.size, 1, none⟩ = some (.int .i64 gen) := fun p => cell_at 1 (p.blkE hb)
  have a1 : ∀ p : Ext W, p.w.cell? ⟨a, 1, none⟩ = some (.map (some g)) := fun p => cell_at 1 (p.blkE hA'.1)
  have a2 : ∀ p : Ext W, p.w.cell? ⟨a, 2, none⟩ = some (.map (some t)) := fun p => cell_at 2 (p.blkE hA'.1)
  have hg : ∀ p : Ext W, MapAt intV intV p.w g A.gens := fun p => hA'.2.1.ext p
  have ht : ∀ p : Ext W, MapAt intV boolV p.w t A.taken := fun p => hA'.2.2.1.ext p
  clear hA hA'
  cases htk : (aget A.taken sl).getD false
  · have e : liveA A sl gen = false := by simp [liveA, htk]
    rw [e]
    clear e
    have Htk : Hid _ := htk
    clear htk
    go_enter Try.func90, Try.ntmps90
    go_wp2_with fail
    rw [← hW]
    clear hW
    refine wp_region_ch NoS (by kernel_rfl) (by kernel_rfl) (fun p hp => ?_)
    clear hp
    (repeat (first | (refine wpMix_skip rfl rfl ?_) | (refine wpMix_step (fun K hK => ?_); go_simp; (with_reducible (refine hK _ _ ?_)); clear hK K)))
    refine wpMix_look (K := int_law Try.underlying3) (encV := boolV) (k := sl) (l := A.taken) (c := false) rfl _ _ rfl Try.underlying198 z4 rfl rfl (fun w' ⟨q, hq⟩ => by rw [hq]; exact ht q) (v := .bool false) (by rw [← Htk.out]; cases aget A.taken sl <;> rfl) ?_
    (repeat (first | (refine wpMix_skip rfl rfl ?_) | (refine wpMix_step (fun K hK => ?_); go_simp; (with_reducible (refine hK _ _ ?_)); clear hK K)))
    refine wpMix_nil ?_
    go_wp2
    go_ret
    exact ⟨rfl, fin p⟩
  · have e : liveA A sl gen = (genOf A sl == gen) := by simp [liveA, htk]
    rw [e]
    clear e
    have Htk : Hid _ := htk
    clear htk
    go_enter Try.func90, Try.ntmps90
    go_wp2_with fail
    rw [← hW]
    clear hW
    refine wp_region_ch NoS (by kernel_rfl) (by kernel_rfl) (fun p hp => ?_)
    clear hp
    (repeat (first | (refine wpMix_skip rfl rfl ?_) | (refine wpMix_step (fun K hK => ?_); go_simp; (with_reducible (refine hK _ _ ?_)); clear hK K)))
    refine wpMix_look (K := int_law Try.underlying3) (encV := boolV) (k := sl) (l := A.taken) (c := false) rfl _ _ rfl Try.underlying198 z4 rfl rfl (fun w' ⟨q, hq⟩ => by rw [hq]; exact ht q) (v := .bool true) (by rw [← Htk.out]; cases aget A.taken sl <;> rfl) ?_
    (repeat (first | (refine wpMix_skip rfl rfl ?_) | (refine wpMix_step (fun K hK => ?_); go_simp; (with_reducible (refine hK _ _ ?_)); clear hK K)))
    refine wpMix_look (K := int_law Try.underlying3) (encV := intV) (k := sl) (l := A.gens) (c := false) rfl _ _ rfl Try.underlying197 z3 rfl rfl (fun w' ⟨q, hq⟩ => by rw [hq]; exact hg q) (v := .int .i64 (genOf A sl)) (by unfold genOf; cases aget A.gens sl <;> rfl) ?_
    (repeat (first | (refine wpMix_skip rfl rfl ?_) | (refine wpMix_step (fun K hK => ?_); go_simp; (with_reducible (refine hK _ _ ?_)); clear hK K)))
    refine wpMix_nil ?_
    go_wp2
    go_ret
    exact ⟨rfl, fin p⟩

def freedA (A : ArenaSt) (sl : Int) : ArenaSt := { A with taken := adel A.taken sl, gens := aput A.gens sl (IntKind.i64.wrap (genOf A sl + 1)), free := A.free ++ [sl] }

/-- The slice that lists one handle. -/
abbrev one143 (h : Nat) : Value := .slice (some ⟨h, 0, none⟩) 1 1

set_option maxHeartbeats 800000 in
theorem arenaFree_not (a g t h : Nat) (fv : Value) (A : ArenaSt) (sl gen : Int) (w : World) (hA : ArenaAt w a g t fv A) (hh : w.heap[h]? = some (.cells #[.int .i64 sl, .int .i64 gen] 143 (0, 0))) (hl : liveA A sl gen = false) :
    Calls Try.prog 196 #[.pointer (some ⟨a, 0, none⟩), one143 h] w fun e w' => e = .returned (.int .i64 51) ∧ ∃ p : Ext w, w' = p.w := by
  have hmm := @run_makeMap Try.prog
  obtain ⟨W, hW⟩ : ∃ W, W = w.alloc (.map #[] 0) := ⟨_, rfl⟩
  have hA' : ArenaAt W a g t fv A := by rw [hW]; exact hA.ext ((Ch.refl NoS w).alloc _)
  have hh' : W.heap[h]? = some (.cells #[.int .i64 sl, .int .i64 gen] 143 (0, 0)) := by rw [hW]; exact heap_alloc_blk _ hh
  have fin : ∀ p : Ext W, ∃ q : Ext w, p.w = q.w := fun p => ⟨((Ch.refl NoS w).alloc _).onto hW p (fun b hb h => h), rfl⟩
  clear hA hh
  go_enter Try.func196, Try.ntmps196
  go_wp2_with fail
  rw [← hW]
  clear hW
  have c0 := cell_at 0 hh'
  have c1 := cell_at 1 hh'
  refine wp_loop_rounds 2 ?_
  rw [rounds_succ]
  go_wp2_with (go_at_call 90; go_must (refine (live_any _ _ _ _ _ _ _ _ (hA'.ext ((Ch.refl NoS W).alloc _))).mono ?_); rw [hl]; rintro e w' ⟨rfl, p, rfl⟩)
  go_ret
  exact ⟨rfl, fin (((Ch.refl NoS W).alloc _).thenE p)⟩

theorem info3 : ∃ i, Try.prog.info? 3 = some i ∧ i.zero = some (.int .i64 0) ∧ i.size = 1 ∧ i.bytes = 8 :=
  ⟨(Try.prog.info? 3).get (by kernel_rfl), (Option.some_get _).symm, by kernel_rfl, by kernel_rfl, by kernel_rfl⟩

set_option maxRecDepth 4000 in
set_option maxHeartbeats 1600000 in
theorem arenaFree_ok (a g t h : Nat) (fv : Value) (A : ArenaSt) (sl gen : Int) (w : World) (hA : ArenaAt w a g t fv A) (hh : w.heap[h]? = some (.cells #[.int .i64 sl, .int .i64 gen] 143 (0, 0))) (hl : liveA A sl gen = true)
    (hlen : A.free.length ≤ 1048576) :
    Calls Try.prog 196 #[.pointer (some ⟨a, 0, none⟩), one143 h] w fun e w' => e = .returned (.int .i64 0) ∧ ∃ p : Ch (fun b => b = a ∨ b = g ∨ b = t ∨ fv.ownBlock = some b) w, w' = p.w ∧
      ∃ fv' k, fv'.ownBlock = some k ∧ (fv.ownBlock = some k ∨ w.heap.size ≤ k) ∧ ArenaAt p.w a g t fv' (freedA A sl) := by
  have hmm := @run_makeMap Try.prog
  obtain ⟨W, hW⟩ : ∃ W, W = w.alloc (.map #[] 0) := ⟨_, rfl⟩
  have hA' : ArenaAt W a g t fv A := by rw [hW]; exact hA.ext ((Ch.refl NoS w).alloc _)
  have hh' : W.heap[h]? = some (.cells #[.int .i64 sl, .int .i64 gen] 143 (0, 0)) := by rw [hW]; exact heap_alloc_blk _ hh
  have hM : MapAt intV boolV W w.heap.size [] := by rw [hW]; exact MapAt.made w
  have fin : ∀ p : Ch (fun b => b = a ∨ b = g ∨ b = t ∨ fv.ownBlock = some b ∨ w.heap.size ≤ b) W, ∃ q : Ch (fun b => b = a ∨ b = g ∨ b = t ∨ fv.ownBlock = some b) w, p.w = q.w := fun p => ⟨((Ch.refl _ w).alloc _).onto hW p (fun b hb h => by rcases h with h | h | h | h | h; exact .inl h; exact .inr (.inl h); exact .inr (.inr (.inl h)); exact .inr (.inr (.inr h)); omega), rfl⟩
  have hsz : W.heap.size = w.heap.size + 1 := by rw [hW]; simp
  have hgl : g < w.heap.size := hA.2.1.lt
  have htl : t < w.heap.size := hA.2.2.1.lt
  clear hA hh
  go_enter Try.func196, Try.ntmps196
  go_wp2_with fail
  rw [← hW]
  clear hW
  have c0 := cell_at 0 hh'
  have c1 := cell_at 1 hh'
  have HM : Hid (MapAt intV boolV W w.heap.size []) := hM
  have Hsz : Hid (W.heap.size = w.heap.size + 1) := hsz
  clear hM hsz
  refine wp_loop_rounds 2 ?_
  rw [rounds_succ]
  go_wp2_with fail
  go_at_call 90
  refine (live_any _ _ _ _ _ _ _ _ (hA'.ext ((Ch.refl NoS W).alloc _))).mono ?_
  rw [hl]
  rintro e w' ⟨rfl, p, rfl⟩
  have hp : p.w.heap.size ≥ W.heap.size := by have := p.size; simp at this; omega
  have HP : Hid (p.w.heap.size ≥ W.heap.size) := hp
  clear hp
  have b0 : p.w.cell? ⟨W.heap.size, 0, none⟩ = some (.int .i64 sl) := cell_at 0 (p.blkE (heap_alloc_at _ _))
  have e1 : (Instr.lookup 198 (.map (some w.heap.size)) (.int .i64 sl) false).run Try.prog p.w = .ok (.bool false) p.w := by
    have := (HM.out.ext (((Ch.refl NoS W).alloc (.cells #[.int .i64 sl, .int .i64 gen] 143)).thenE p)).lookBoth (int_law Try.underlying3) Try.underlying198 z4 sl false
    exact this
  go_wp2_with (at_mapUpdate; go_must (refine wpList_put (K := int_law Try.underlying3) (encV := boolV) (k := sl) (u := true) (l := []) rfl _ _ _ rfl Try.underlying198 rfl rfl rfl (HM.out.ext (((Ch.refl NoS W).alloc _).thenE p)) ?_); intro ob hT)
  obtain ⟨q, hq⟩ : ∃ q : Ch (fun b => b = w.heap.size) W, q.w = putO p.w w.heap.size ob := ⟨((((Ch.refl NoS W).alloc (.cells #[.int .i64 sl, .int .i64 gen] 143)).thenE p).up (fun b => b = w.heap.size)).putO w.heap.size ob (fun _ => rfl), rfl⟩
  have hA2 : ArenaAt q.w a g t fv A := hA'.keep (q.same _ (lt_of_blk hA'.1) (fun e => HM.out.ne_cells hA'.1 e.symm)) (q.same _ hA'.2.1.lt (by omega)) (q.same _ hA'.2.2.1.lt (by omega)) (fun b hb => by obtain ⟨cur, hc⟩ := rowBlk hA'.2.2.2.1 hb; exact q.same _ (lt_of_blk hc) (fun e => HM.out.ne_cells hc e.symm))
  have hh2 : q.w.heap[h]? = some (.cells #[.int .i64 sl, .int .i64 gen] 143 (0, 0)) := q.blk hh' (fun e => HM.out.ne_cells hh' e.symm)
  have fin2 : ∀ r : Ch (fun b => b = a ∨ b = g ∨ b = t ∨ fv.ownBlock = some b ∨ w.heap.size ≤ b) q.w, ∃ r' : Ch (fun b => b = a ∨ b = g ∨ b = t ∨ fv.ownBlock = some b) w, r.w = r'.w := fun r =>
    fin ((q.mono (fun b _ e => .inr (.inr (.inr (.inr (by omega)))))).then r (fun _ _ h => h))
  rw [← hq]
  clear hT hq c0 c1 b0 e1 hA' hh' fin
  have hsz2 : w.heap.size < q.w.heap.size := by have := q.size; have := Hsz.out; omega
  have Hsz2 : Hid (w.heap.size < q.w.heap.size) := hsz2
  clear hsz2
  generalize q.w = W2 at hA2 hh2 fin2 Hsz2 ⊢
  clear HP q
  have c0 := cell_at 0 hh2
  have c1 := cell_at 1 hh2
  rw [rounds_succ]
  go_wp2_with fail
  refine wp_loop_rounds 2 ?_
  rw [rounds_succ]
  go_wp2_with fail
  obtain ⟨W3, hW3⟩ : ∃ W3, W3 = W2.alloc (.cells #[.int .i64 sl, .int .i64 gen] 143) := ⟨_, rfl⟩
  obtain ⟨n, hn⟩ : ∃ n, n = W2.heap.size := ⟨_, rfl⟩
  have hA3 : ArenaAt W3 a g t fv A := by rw [hW3]; exact hA2.ext ((Ch.refl NoS W2).alloc _)
  have hb3 : W3.heap[n]? = some (.cells #[.int .i64 sl, .int .i64 gen] 143 (0, 0)) := by rw [hW3, hn]; exact heap_alloc_at _ _
  have fin3 : ∀ r : Ch (fun b => b = a ∨ b = g ∨ b = t ∨ fv.ownBlock = some b ∨ w.heap.size ≤ b) W3, ∃ r' : Ch (fun b => b = a ∨ b = g ∨ b = t ∨ fv.ownBlock = some b) w, r.w = r'.w := fun r =>
    fin2 (((Ch.refl _ W2).alloc _).onto hW3 r (fun _ _ h => h))
  have hsz3 : w.heap.size < W3.heap.size := by have := Hsz2.out; rw [hW3]; simp; omega
  have Hsz3 : Hid (w.heap.size < W3.heap.size) := hsz3
  clear hsz3
  rw [← hn, ← hW3]
  clear hA2 hh2 fin2 Hsz2 c0 c1 hn hW3 W2
  obtain ⟨hb, hg, ht, hr, hgt⟩ := hA3
  have hnt : n ≠ t := fun e => ht.ne_cells hb3 e.symm
  have hng : n ≠ g := fun e => hg.ne_cells hb3 e.symm
  have hna : n ≠ a := blkNe hb3 hb (by decide)
  have hat' : a ≠ t := fun e => ht.ne_cells hb e.symm
  have hag : a ≠ g := fun e => hg.ne_cells hb e.symm
  have Hne : Hid (g ≠ t) := hgt
  -- the taken map
  have x0 : ∀ p : Ch (fun b => b = t) W3, p.w.cell? ⟨n, 0, none⟩ = some (.int .i64 sl) := fun p => cell_at 0 (p.blk hb3 hnt)
  have x2 : ∀ p : Ch (fun b => b = t) W3, p.w.cell? ⟨a, 2, none⟩ = some (.map (some t)) := fun p => cell_at 2 (p.blk hb hat')
  refine wp_region_ch (fun b => b = t) (by kernel_rfl) (by kernel_rfl) (fun p hp => ?_)
  have htp : MapAt intV boolV p.w t A.taken := ht.keep (by rw [hp])
  clear hp
  (repeat (first | (refine wpMix_skip rfl rfl ?_) | (refine wpMix_step (fun K hK => ?_); go_simp; (with_reducible (refine hK _ _ ?_)); clear hK K)))
  refine wpMix_del (K := int_law Try.underlying3) (encV := boolV) (k := sl) (l := A.taken) rfl _ _ _ rfl Try.underlying198 rfl rfl htp (fun ob hM => ⟨⟨p.putO t ob (fun _ => rfl), rfl⟩, ?_⟩)
  refine wpMix_nil ?_
  have fin4 : ∀ r : Ch (fun b => b = a ∨ b = g ∨ b = t ∨ fv.ownBlock = some b ∨ w.heap.size ≤ b) (putO p.w t ob), ∃ r' : Ch (fun b => b = a ∨ b = g ∨ b = t ∨ fv.ownBlock = some b) w, r.w = r'.w := fun r =>
    fin3 (((p.mono (T := (fun b => b = a ∨ b = g ∨ b = t ∨ fv.ownBlock = some b ∨ w.heap.size ≤ b)) (fun b _ e => .inr (.inr (.inl e)))).putO t ob (fun _ => .inr (.inr (.inl rfl)))).then r (fun _ _ h => h))
  have hb4 : (putO p.w t ob).heap[a]? = some (.cells #[.int .i64 A.room, .map (some g), .map (some t), fv, .int .i64 A.fresh] 200 (0, 0)) := by rw [putO_other _ hat']; exact p.blk hb hat'
  have hn4 : (putO p.w t ob).heap[n]? = some (.cells #[.int .i64 sl, .int .i64 gen] 143 (0, 0)) := by rw [putO_other _ hnt]; exact p.blk hb3 hnt
  have hg4 : MapAt intV intV (putO p.w t ob) g A.gens := hg.keep (by rw [putO_other _ Hne.out]; exact p.same _ hg.lt Hne.out)
  have hr4 : (putO p.w t ob).ownsRow 0 3 1 fv A.free.length (A.free.map intV) := rowKeep hr (fun k hk => by
    obtain ⟨cur, hc⟩ := rowBlk hr hk
    have hkt : k ≠ t := fun e => ht.ne_cells hc e.symm
    rw [putO_other _ hkt]; exact p.same _ (lt_of_blk hc) hkt)
  have hsz4 : w.heap.size < (putO p.w t ob).heap.size := by rw [putO_size]; have := p.size; have := Hsz3.out; omega
  have Hsz4 : Hid (w.heap.size < (putO p.w t ob).heap.size) := hsz4
  clear hsz4 htp fin3 hb hb3 hg ht hr x0 x2 Hsz3
  generalize putO p.w t ob = W4 at hM fin4 hb4 hn4 hg4 hr4 Hsz4 ⊢
  clear p W3
  -- the generations
  go_wp2_with fail
  have x0 : ∀ p : Ext W4, p.w.cell? ⟨n, 0, none⟩ = some (.int .i64 sl) := fun p => cell_at 0 (p.blkE hn4)
  have x1 : ∀ p : Ext W4, p.w.cell? ⟨a, 1, none⟩ = some (.map (some g)) := fun p => cell_at 1 (p.blkE hb4)
  refine wp_region_lch NoS (by kernel_rfl) (by repeat constructor) (by kernel_rfl) (by kernel_rfl) (fun p hp => ?_)
  have hgp : MapAt intV intV p.w g A.gens := hg4.keep (by rw [hp])
  clear hp
  (repeat (first | (refine wpMix_skip rfl rfl ?_) | (refine wpMix_step (fun K hK => ?_); go_simp; (with_reducible (refine hK _ _ ?_)); clear hK K)))
  refine wpMix_look (K := int_law Try.underlying3) (encV := intV) (k := sl) (l := A.gens) (c := false) rfl _ _ rfl Try.underlying197 z3 rfl rfl (fun w' ⟨q, hq⟩ => by rw [hq]; exact hg4.ext q) (v := .int .i64 (genOf A sl)) (by unfold genOf; cases aget A.gens sl <;> rfl) ?_
  (repeat (first | (refine wpMix_skip rfl rfl ?_) | (refine wpMix_step (fun K hK => ?_); go_simp; (with_reducible (refine hK _ _ ?_)); clear hK K)))
  refine wpMix_nil ?_
  refine last_put (K := int_law Try.underlying3) (encV := intV) (k := sl) (l := A.gens) rfl _ _ _ rfl Try.underlying197 rfl rfl rfl hgp (fun ob2 hG => ?_)
  have fin5 : ∀ r : Ch (fun b => b = a ∨ b = g ∨ b = t ∨ fv.ownBlock = some b ∨ w.heap.size ≤ b) (putO p.w g ob2), ∃ r' : Ch (fun b => b = a ∨ b = g ∨ b = t ∨ fv.ownBlock = some b) w, r.w = r'.w := fun r =>
    fin4 (((p.up (fun b => b = a ∨ b = g ∨ b = t ∨ fv.ownBlock = some b ∨ w.heap.size ≤ b)).putO g ob2 (fun _ => .inr (.inl rfl))).then r (fun _ _ h => h))
  have hb5 : (putO p.w g ob2).heap[a]? = some (.cells #[.int .i64 A.room, .map (some g), .map (some t), fv, .int .i64 A.fresh] 200 (0, 0)) := by rw [putO_other _ hag]; exact p.blkE hb4
  have hn5 : (putO p.w g ob2).heap[n]? = some (.cells #[.int .i64 sl, .int .i64 gen] 143 (0, 0)) := by rw [putO_other _ hng]; exact p.blkE hn4
  have ht5 : MapAt intV boolV (putO p.w g ob2) t (adel A.taken sl) := (hM.ext p).keep (by rw [putO_other _ (Ne.symm Hne.out)])
  have hr5 : (putO p.w g ob2).ownsRow 0 3 1 fv A.free.length (A.free.map intV) := rowKeep hr4 (fun k hk => by
    obtain ⟨cur, hc⟩ := rowBlk hr4 hk
    have hkg : k ≠ g := fun e => hg4.ne_cells hc e.symm
    rw [putO_other _ hkg]; exact p.same _ (lt_of_blk hc) id)
  have hsz5 : w.heap.size < (putO p.w g ob2).heap.size := by rw [putO_size]; have := p.size; have := Hsz4.out; omega
  have Hsz5 : Hid (w.heap.size < (putO p.w g ob2).heap.size) := hsz5
  clear hsz5 hgp fin4 hb4 hn4 hg4 hr4 hM x0 x1 Hsz4
  generalize putO p.w g ob2 = W5 at hG fin5 hb5 hn5 ht5 hr5 Hsz5 ⊢
  clear p W4
  -- the free row
  have hra : ∀ k, fv.ownBlock = some k → k ≠ a := fun k hk => by obtain ⟨cur, hc⟩ := rowBlk hr5 hk; exact blkNe hc hb5 (by decide)
  have hrn : ∀ k, fv.ownBlock = some k → k ≠ n := fun k hk => by obtain ⟨cur, hc⟩ := rowBlk hr5 hk; exact blkNe hc hn5 (by decide)
  have hrg : ∀ k, fv.ownBlock = some k → k ≠ g := fun k hk => by obtain ⟨cur, hc⟩ := rowBlk hr5 hk; exact fun e => hG.ne_cells hc e.symm
  have hrt : ∀ k, fv.ownBlock = some k → k ≠ t := fun k hk => by obtain ⟨cur, hc⟩ := rowBlk hr5 hk; exact fun e => ht5.ne_cells hc e.symm
  obtain ⟨i0, hi, hz0, hz1, hz2⟩ := info3
  go_wp2_with fail
  have x0 : ∀ p : Ch (fun b => fv.ownBlock = some b) W5, p.w.cell? ⟨n, 0, none⟩ = some (.int .i64 sl) := fun p => cell_at 0 (p.blk hn5 (fun e => hrn _ e rfl))
  have x3 : ∀ p : Ch (fun b => fv.ownBlock = some b) W5, p.w.cell? ⟨a, 3, none⟩ = some fv := fun p => cell_at 3 (p.blk hb5 (fun e => hra _ e rfl))
  have y3 : ∀ p : Ch (fun b => fv.ownBlock = some b) W5, p.w.frozen? ⟨a, 3, none⟩ = false := fun p => frozen_at 3 (p.blk hb5 (fun e => hra _ e rfl))
  refine wp_region_lch (fun b => fv.ownBlock = some b) (by kernel_rfl) (by repeat constructor) (by kernel_rfl) (by kernel_rfl) (fun p hp => ?_)
  have hrp : p.w.ownsRow 0 3 1 fv A.free.length (A.free.map intV) := rowKeep hr5 (fun k hk => by rw [hp])
  clear hp
  (repeat (first | (refine wpMix_skip rfl rfl ?_) | (refine wpMix_step (fun K hK => ?_); go_simp; (with_reducible (refine hK _ _ ?_)); clear hK K)))
  refine wpMix_step (fun K hK => ?_); go_simp
  refine ⟨⟨p.alloc _, rfl⟩, hK _ _ ?_⟩; clear hK K
  refine wpMix_append rfl _ _ 67 rfl 3 i0 (.int .i64 0) 1 8 Try.underlying67 hi hz0 hz1 hz2 rfl (by decide) fv A.free.length (A.free.map intV) rfl (hrp.alloc _) ⟨p.w.heap.size, 0, none⟩ 1 1 [.int .i64 sl] rfl rfl (cell_one_new _ _ _) (by simp [Value.oneCell']) (by decide) (by unfold maxLen; omega) (by omega) ?_
  intro k cap w' hown hgrow hat hlt
  obtain ⟨q, hq⟩ : ∃ q : Ch (fun b => fv.ownBlock = some b) W5, w' = q.w := ⟨(p.alloc _).grown hgrow (fun b _ e => e), rfl⟩
  have hqs : p.w.heap.size + 1 ≤ q.w.heap.size := by have := hgrow.size; rw [hq] at this; simpa using this
  have Hps : Hid (W5.heap.size ≤ p.w.heap.size) := p.size
  subst hq
  refine ⟨⟨q, rfl⟩, ?_⟩
  have Hat : Hid (fv.ownBlock = some k ∨ k = (p.w.alloc (.cells #[.int .i64 sl] 3)).heap.size) := hat
  have Hlt : Hid (k < q.w.heap.size) := hlt
  clear hgrow hrp hqs hlt hat
  (repeat (first | (refine wpMix_skip rfl rfl ?_) | (refine wpMix_step (fun K hK => ?_); go_simp; (with_reducible (refine hK _ _ ?_)); clear hK K)))
  refine wpMix_nil ?_
  refine last_step (fun K hK => ?_); go_simp; (with_reducible (refine hK _ _ ?_)); clear hK K
  go_wp2_with fail
  rw [rounds_succ]
  go_wp2_with fail
  go_ret
  obtain ⟨r, hr'⟩ := fin5 ((q.mono (T := (fun b => b = a ∨ b = g ∨ b = t ∨ fv.ownBlock = some b ∨ w.heap.size ≤ b)) (fun b _ e => .inr (.inr (.inr (.inl e))))).set a 3 (.slice (some ⟨k, 0, none⟩) (A.free.length + 1) cap) (fun _ => .inl rfl))
  have hsz : ∀ k, k = (p.w.alloc (.cells #[.int .i64 sl] 3)).heap.size → W5.heap.size ≤ k ∧ w.heap.size ≤ k := fun k hk => by
    have h1 := Hps.out
    have h2 := Hsz5.out
    rw [hk]; simp; omega
  have hka : k ≠ a := by
    rcases Hat.out with h | h
    · exact hra k h
    · have := (hsz k h).1; have := lt_of_blk hb5; omega
  have hkg : k ≠ g := by
    rcases Hat.out with h | h
    · exact hrg k h
    · have := (hsz k h).1; have := hG.lt; omega
  have hkt : k ≠ t := by
    rcases Hat.out with h | h
    · exact hrt k h
    · have := (hsz k h).1; have := ht5.lt; omega
  refine ⟨rfl, r, hr', .slice (some ⟨k, 0, none⟩) (A.free.length + 1) cap, k, rfl, ?_, hr' ▸ ⟨?_, ?_, ?_, ?_, Hne.out⟩⟩
  · rcases Hat.out with h | h
    · exact .inl h
    · exact .inr (hsz k h).2
  · have := heap_set_same (q.blk hb5 (fun e => hra _ e rfl)) 3 (.slice (some ⟨k, 0, none⟩) (A.free.length + 1) cap)
    simpa [freedA] using this
  · refine MapAt.keep hG ?_
    show (World.setCell q.w _ _).heap[g]? = _
    rw [heap_set_other (Ne.symm hag)]
    exact q.same _ hG.lt (fun e => hrg _ e rfl)
  · refine MapAt.keep ht5 ?_
    show (World.setCell q.w _ _).heap[t]? = _
    rw [heap_set_other (Ne.symm hat')]
    exact q.same _ ht5.lt (fun e => hrt _ e rfl)
  · have : (A.free ++ [sl]).length = A.free.length + 1 := by simp
    show World.ownsRow _ 0 3 1 _ (A.free ++ [sl]).length ((A.free ++ [sl]).map intV)
    rw [this, List.map_append]
    refine rowKeep hown (fun b hb => ?_)
    have : b = k := by simpa [Value.ownBlock] using hb.symm
    subst this
    show (World.setCell q.w _ _).heap[b]? = _
    rw [heap_set_other hka]
end Go.Proofs.Cob

namespace Go.Proofs.Cob
open Go Go.RowKit Go.Cob
set_option linter.unusedSimpArgs false
set_option linter.unusedVariables false

/-- A store whose free slots are counted. -/
structure StN (w : World) (I : Ids) (A : ArenaSt) (L : List (Key × Cl)) (F : Nat → Prop) : Prop where
  st : StM w I A L F
  fl : ((A.free.length + A.taken.length : Nat) : Int) ≤ A.fresh
theorem StN.few {w : World} {I : Ids} {A : ArenaSt} {L : List (Key × Cl)} {F : Nat → Prop} (h : StN w I A L F) : A.free.length ≤ 1048576 := by
  have h1 := h.fl; have h2 := h.st.hi; have h3 := h.st.top; omega

theorem aput_length {α β : Type} [DecidableEq α] (l : List (α × β)) (k : α) (v : β) : (aput l k v).length ≤ l.length + 1 := by
  induction l with
  | nil => simp [aput]
  | cons p l ih => simp only [aput]; split <;> simp; omega
theorem adel_length {α β : Type} [DecidableEq α] (l : List (α × β)) (k : α) (v : β) (h : aget l k = some v) : (adel l k).length + 1 = l.length := by
  obtain ⟨l1, l2, e1, e2, -⟩ := aget_cases h
  rw [e2, e1]; simp; omega
theorem adel_sub {α β : Type} [DecidableEq α] {l : List (α × β)} {k : α} : (adel l k).Sublist l := by
  induction l with
  | nil => exact .slnil
  | cons p l ih =>
    simp only [adel]
    split
    · exact List.sublist_cons_self ..
    · exact ih.cons_cons _

theorem take_fl {A A' : ArenaSt} {s : Int} (h : takeA A = some (s, A')) (fl : ((A.free.length + A.taken.length : Nat) : Int) ≤ A.fresh) : ((A'.free.length + A'.taken.length : Nat) : Int) ≤ A'.fresh := by
  unfold takeA at h
  split at h
  · split at h
    · cases h
    · simp only [Option.some.injEq, Prod.mk.injEq] at h
      obtain ⟨rfl, rfl⟩ := h
      have := aput_length A.taken A.fresh true
      simp only
      omega
  · rename_i hf
    simp only [Option.some.injEq, Prod.mk.injEq] at h
    obtain ⟨rfl, rfl⟩ := h
    have := aput_length A.taken (A.free.getLastD 0) true
    have := List.length_pos_iff.2 hf
    simp only [List.length_dropLast]
    omega
theorem freed_fl {A : ArenaSt} {sl gen : Int} (h : liveA A sl gen = true) (fl : ((A.free.length + A.taken.length : Nat) : Int) ≤ A.fresh) : (((freedA A sl).free.length + (freedA A sl).taken.length : Nat) : Int) ≤ (freedA A sl).fresh := by
  unfold liveA at h
  cases hg : aget A.taken sl with
  | none => rw [hg] at h; simp at h
  | some b =>
    have := adel_length A.taken sl b hg
    simp only [freedA, List.length_append, List.length_cons, List.length_nil]
    omega

def dropM (A : ArenaSt) (L : List (Key × Cl)) (k : Key) : ArenaSt × List (Key × Cl) :=
  match aget L k with
  | none => (A, L)
  | some z => (if liveA A z.sl z.gen then freedA A z.sl else A, adel L k)

theorem foot_del {I : Ids} {fv : Value} {l : List (Key × Slot)} {k : Key} {b : Nat} (h : Foot I fv (adel l k) b) : Foot I fv l b := by
  unfold Foot at *
  rcases h with h | h | h | h | h | h | ⟨p, hp, h⟩
  · exact .inl h
  · exact .inr (.inl h)
  · exact .inr (.inr (.inl h))
  · exact .inr (.inr (.inr (.inl h)))
  · exact .inr (.inr (.inr (.inr (.inl h))))
  · exact .inr (.inr (.inr (.inr (.inr (.inl h)))))
  · exact .inr (.inr (.inr (.inr (.inr (.inr ⟨p, adel_sub.subset hp, h⟩)))))

theorem StoreAt.delete {w : World} {I : Ids} {fv : Value} {A : ArenaSt} {l : List (Key × Slot)} (h : StoreAt w I fv A l) {k : Key} {ob : Obj} (hM : MapAt keyV slotV (putO w I.m ob) I.m (adel l k)) : StoreAt (putO w I.m ob) I fv A (adel l k) := by
  have hrow : ∀ b, fv.ownBlock = some b → b ≠ I.m := fun b hb => by
    obtain ⟨cur, hc⟩ := rowBlk h.ar.2.2.2.1 hb
    exact fun e => h.mp.ne_cells hc e.symm
  refine ⟨?_, ?_, hM, ?_, ?_, h.mg, h.mt⟩
  · rw [putO_other _ (fun e => h.mp.ne_cells h.st e.symm)]; exact h.st
  · exact h.ar.keep (putO_other _ (fun e => h.mp.ne_cells h.ar.1 e.symm)) (putO_other _ (Ne.symm h.mg)) (putO_other _ (Ne.symm h.mt)) (fun b hb => putO_other _ (hrow b hb))
  · intro p hp
    have := h.slots p (adel_sub.subset hp)
    show (putO w I.m ob).heap[_]? = _
    rw [putO_other _ (fun e => h.mp.ne_cells this e.symm)]; exact this
  · exact h.nodup.sublist (adel_sub.map _)

theorem arenaFree_any (a g t h : Nat) (fv : Value) (A : ArenaSt) (sl gen : Int) (w : World) (hA : ArenaAt w a g t fv A) (hh : w.heap[h]? = some (.cells #[.int .i64 sl, .int .i64 gen] 143 (0, 0))) (hlen : A.free.length ≤ 1048576) :
    Calls Try.prog 196 #[.pointer (some ⟨a, 0, none⟩), one143 h] w fun e w' => e = .returned (.int .i64 (if liveA A sl gen then 0 else 51)) ∧ ∃ p : Ch (fun b => b = a ∨ b = g ∨ b = t ∨ fv.ownBlock = some b) w, w' = p.w ∧
      ∃ fv', (∀ b, fv'.ownBlock = some b → fv.ownBlock = some b ∨ w.heap.size ≤ b) ∧ ArenaAt p.w a g t fv' (if liveA A sl gen then freedA A sl else A) := by
  cases hl : liveA A sl gen
  · refine (arenaFree_not a g t h fv A sl gen w hA hh hl).mono ?_
    rintro e w' ⟨rfl, p, rfl⟩
    exact ⟨rfl, p.up _, rfl, fv, fun b hb => .inl hb, hA.ext p⟩
  · refine (arenaFree_ok a g t h fv A sl gen w hA hh hl hlen).mono ?_
    rintro e w' ⟨rfl, p, rfl, fv', k, hk, hk2, hA'⟩
    refine ⟨rfl, p, rfl, fv', fun b hb => ?_, hA'⟩
    have : k = b := Option.some.inj (hk.symm.trans hb)
    subst this
    exact hk2

theorem StoreAt.arena2 {w : World} {I : Ids} {fv fv' : Value} {A A' : ArenaSt} {l : List (Key × Slot)} (h : StoreAt w I fv A l) (p : Ch (fun b => b = I.a ∨ b = I.g ∨ b = I.t ∨ fv.ownBlock = some b) w) (hA : ArenaAt p.w I.a I.g I.t fv' A') : StoreAt p.w I fv' A' l := by
  have nk : ∀ {b : Nat} {c : Array Value} {t : TypeId}, w.heap[b]? = some (.cells c t (0, 0)) → t ≠ 200 → t ≠ 3 → ¬ (b = I.a ∨ b = I.g ∨ b = I.t ∨ fv.ownBlock = some b) := fun hb t1 t2 hh => by
    rcases hh with h' | h' | h' | h'
    · exact blkNe hb h.ar.1 t1 h'
    · exact h.ar.2.1.ne_cells hb h'.symm
    · exact h.ar.2.2.1.ne_cells hb h'.symm
    · obtain ⟨cur, hc⟩ := rowBlk h.ar.2.2.2.1 h'
      exact blkNe hb hc t2 rfl
  have nm : ¬ (I.m = I.a ∨ I.m = I.g ∨ I.m = I.t ∨ fv.ownBlock = some I.m) := fun hh => by
    rcases hh with h' | h' | h' | h'
    · exact h.mp.ne_cells h.ar.1 h'
    · exact h.mg h'
    · exact h.mt h'
    · obtain ⟨cur, hc⟩ := rowBlk h.ar.2.2.2.1 h'
      exact h.mp.ne_cells hc rfl
  exact ⟨p.blk h.st (nk h.st (by decide) (by decide)), hA, h.mp.keep (p.same _ h.mp.lt nm), fun q hq => p.blk (h.slots q hq) (nk (h.slots q hq) (by decide) (by decide)), h.nodup, h.mg, h.mt⟩

set_option maxRecDepth 4000 in
set_option maxHeartbeats 1600000 in
theorem drop_m (I : Ids) (A : ArenaSt) (L : List (Key × Cl)) (F : Nat → Prop) (k : Key) (w : World) (h : StN w I A L F) (hF : ∀ b, w.heap.size ≤ b → F b) (z0 : Cl) (hz0 : aget L k = some z0) :
    Calls Try.prog 130 #[.pointer (some ⟨I.s, 0, none⟩), keyV k] w fun e w' => e = .returned (.tuple #[]) ∧ ∃ p : Ch F w, w' = p.w ∧ StN p.w I (dropM A L k).1 (dropM A L k).2 F := by
  have hfew := h.few
  have hfl := h.fl
  obtain ⟨⟨⟨fv, l, h1, h2, h3⟩, h4, h5, h6⟩, h7⟩ := h
  have hm : aget L k = (aget l k).map Slot.cl := by rw [← h2]; exact aget_map (fun z => Slot.cl z) l k
  obtain ⟨z, hz⟩ : ∃ z, aget l k = some z := by
    rw [hz0] at hm
    cases hg : aget l k with
    | none => rw [hg] at hm; simp at hm
    | some z => exact ⟨z, rfl⟩
  have hzc : z0 = z.cl := by rw [hz0, hz] at hm; simpa using hm
  have hD : dropM A L k = (if liveA A z.sl z.gen then freedA A z.sl else A, adel L k) := by unfold dropM; rw [hz0, hzc]
  rw [hD]
  obtain ⟨kd, ka, kb, ks⟩ := k
  obtain ⟨W, hW⟩ : ∃ W, W = w.alloc (.cells (keyCells kd ka kb ks) 23) := ⟨_, rfl⟩
  have hkb : W.heap[w.heap.size]? = some (.cells (keyCells kd ka kb ks) 23 (0, 0)) := by rw [hW]; exact heap_alloc_at _ _
  have hS : StoreAt W I fv A l := by rw [hW]; exact h1.alloc _
  have fin : ∀ p : Ch F W, ∃ q : Ch F w, p.w = q.w := fun p => ⟨((Ch.refl _ w).alloc _).onto hW p (fun b hb h => h), rfl⟩
  have hWs : W.heap.size = w.heap.size + 1 := by rw [hW]; simp
  have hbF : ∀ b, b = I.a ∨ b = I.g ∨ b = I.t ∨ fv.ownBlock = some b → F b := fun b hb => h3 b (by unfold Foot; rcases hb with h | h | h | h <;> simp [h])
  have hmF : F I.m := h3 _ (by simp [Foot])
  go_enter Try.func130, Try.ntmps130
  clear h1
  go_wp2_with fail
  rw [← hW]
  have HWs : Hid (W.heap.size = w.heap.size + 1) := hWs
  clear hW hWs hm hz0 hzc hD
  have hzW := hS.slots _ (aget_mem hz)
  have hne := hS.ne hzW
  obtain ⟨n1, n2, n3, n4, n5, n6⟩ := hne
  have hArW := hS.ar
  have nk : ∀ {b : Nat} {c : Array Value} {t : TypeId}, W.heap[b]? = some (.cells c t (0, 0)) → t ≠ 200 → t ≠ 3 → ¬ (b = I.a ∨ b = I.g ∨ b = I.t ∨ fv.ownBlock = some b) := fun hb t1 t2 hh => by
    rcases hh with h | h | h | h
    · exact blkNe hb hS.ar.1 t1 h
    · exact hS.ar.2.1.ne_cells hb h.symm
    · exact hS.ar.2.2.1.ne_cells hb h.symm
    · obtain ⟨cur, hc⟩ := rowBlk hS.ar.2.2.2.1 h
      exact blkNe hb hc t2 rfl
  have nm : ¬ (I.m = I.a ∨ I.m = I.g ∨ I.m = I.t ∨ fv.ownBlock = some I.m) := fun hh => by
    rcases hh with h | h | h | h
    · exact hS.mp.ne_cells hS.ar.1 h
    · exact hS.mg h
    · exact hS.mt h
    · obtain ⟨cur, hc⟩ := rowBlk hS.ar.2.2.2.1 h
      exact hS.mp.ne_cells hc rfl
  have k0 : ∀ p : Ch (fun b => b = I.a ∨ b = I.g ∨ b = I.t ∨ fv.ownBlock = some b) W, p.w.cell? ⟨w.heap.size, 0, none⟩ = some (.int .i64 kd) := fun p => cell_at 0 (p.blk hkb (nk hkb (by decide) (by decide)))
  have k1 : ∀ p : Ch (fun b => b = I.a ∨ b = I.g ∨ b = I.t ∨ fv.ownBlock = some b) W, p.w.cell? ⟨w.heap.size, 1, none⟩ = some (.int .i64 ka) := fun p => cell_at 1 (p.blk hkb (nk hkb (by decide) (by decide)))
  have k2 : ∀ p : Ch (fun b => b = I.a ∨ b = I.g ∨ b = I.t ∨ fv.ownBlock = some b) W, p.w.cell? ⟨w.heap.size, 2, none⟩ = some (.int .i64 kb) := fun p => cell_at 2 (p.blk hkb (nk hkb (by decide) (by decide)))
  have k3 : ∀ p : Ch (fun b => b = I.a ∨ b = I.g ∨ b = I.t ∨ fv.ownBlock = some b) W, p.w.cell? ⟨w.heap.size, 3, none⟩ = some (.string ks) := fun p => cell_at 3 (p.blk hkb (nk hkb (by decide) (by decide)))
  have m0 : ∀ p : Ch (fun b => b = I.a ∨ b = I.g ∨ b = I.t ∨ fv.ownBlock = some b) W, p.w.cell? ⟨I.s, 0, none⟩ = some (.pointer (some ⟨I.a, 0, none⟩)) := fun p => cell_at 0 (p.blk hS.st (nk hS.st (by decide) (by decide)))
  have m1 : ∀ p : Ch (fun b => b = I.a ∨ b = I.g ∨ b = I.t ∨ fv.ownBlock = some b) W, p.w.cell? ⟨I.s, 1, none⟩ = some (.map (some I.m)) := fun p => cell_at 1 (p.blk hS.st (nk hS.st (by decide) (by decide)))
  have z0 : ∀ p : Ch (fun b => b = I.a ∨ b = I.g ∨ b = I.t ∨ fv.ownBlock = some b) W, p.w.cell? ⟨z.x, 0, none⟩ = some (.int .i64 z.sl) := fun p => cell_at 0 (p.blk hzW (nk hzW (by decide) (by decide)))
  have z1 : ∀ p : Ch (fun b => b = I.a ∨ b = I.g ∨ b = I.t ∨ fv.ownBlock = some b) W, p.w.cell? ⟨z.x, 1, none⟩ = some (.int .i64 z.gen) := fun p => cell_at 1 (p.blk hzW (nk hzW (by decide) (by decide)))
  have hMp : ∀ p : Ch (fun b => b = I.a ∨ b = I.g ∨ b = I.t ∨ fv.ownBlock = some b) W, MapAt keyV slotV p.w I.m l := fun p => hS.mp.keep (p.same _ hS.mp.lt nm)
  refine wp_region_ch (fun b => b = I.a ∨ b = I.g ∨ b = I.t ∨ fv.ownBlock = some b) (by kernel_rfl) (by kernel_rfl) (fun p hp => ?_)
  have hAp : ArenaAt p.w I.a I.g I.t fv A := hS.ar.keep (by rw [hp]) (by rw [hp]) (by rw [hp]) (fun b _ => by rw [hp])
  clear hp
  (repeat (first | (refine wpMix_skip rfl rfl ?_) | (refine wpMix_step (fun K hK => ?_); go_simp; (with_reducible (refine hK _ _ ?_)); clear hK K)))
  refine wpMix_look (K := key_law) (encV := slotV) (k := ⟨kd, ka, kb, ks⟩) (l := l) (c := false) rfl _ _ rfl Try.underlying56 z178 rfl rfl (fun w' ⟨q, hq⟩ => by rw [hq]; exact hMp q) (v := .pointer (some ⟨z.x, 0, none⟩)) (by rw [hz]; rfl) ?_
  (repeat (first | (refine wpMix_skip rfl rfl ?_) | (refine wpMix_step (fun K hK => ?_); go_simp; (with_reducible (refine hK _ _ ?_)); clear hK K)))
  refine wpMix_step (fun K hK => ?_); go_simp
  refine ⟨⟨p.alloc _, rfl⟩, hK _ _ ?_⟩; clear hK K
  (repeat (first | (refine wpMix_skip rfl rfl ?_) | (refine wpMix_step (fun K hK => ?_); go_simp; (with_reducible (refine hK _ _ ?_)); clear hK K)))
  refine wpMix_step (fun K hK => ?_); go_simp
  refine (arenaFree_any I.a I.g I.t p.w.heap.size fv A z.sl z.gen _ (hAp.ext ((Ch.refl NoS p.w).alloc _)) (heap_alloc_at _ _) hfew).mono ?_
  rintro e w' ⟨rfl, q, rfl, fv', hfv', hA'⟩
  generalize (if liveA A z.sl z.gen = true then (0 : Int) else 51) = rv
  have Hfv : Hid (∀ b, fv'.ownBlock = some b → fv.ownBlock = some b ∨ (p.w.alloc (.cells #[.int .i64 z.sl, .int .i64 z.gen] 143)).heap.size ≤ b) := hfv'
  have Hps : Hid (W.heap.size ≤ p.w.heap.size) := p.size
  obtain ⟨r, hr⟩ : ∃ r : Ch (fun b => b = I.a ∨ b = I.g ∨ b = I.t ∨ fv.ownBlock = some b) W, q.w = r.w := ⟨(p.alloc (.cells #[.int .i64 z.sl, .int .i64 z.gen] 143)).then q (fun _ _ h => h), rfl⟩
  rw [hr] at hA'
  rw [hr]
  have hS1 := hS.arena2 r hA'
  have hk1 := r.blk hkb (nk hkb (by decide) (by decide))
  have fin1 : ∀ q : Ch F r.w, ∃ q' : Ch F w, q.w = q'.w := fun q => fin ((r.mono (T := F) (fun b _ hb => hbF b hb)).then q (fun _ _ h => h))
  refine ⟨⟨r, rfl⟩, hK _ _ ?_⟩; clear hK K hfv' hr
  refine wpMix_nil ?_
  clear k0 k1 k2 k3 m0 m1 z0 z1 hMp hAp hA' fin hS hArW hkb hzW
  generalize r.w = W1 at hS1 hk1 fin1 ⊢
  go_wp2_with fail
  have k0 : ∀ p : Ch (fun b => b = I.m) W1, p.w.cell? ⟨w.heap.size, 0, none⟩ = some (.int .i64 kd) := fun p => cell_at 0 (p.blk hk1 (fun e => hS1.mp.ne_cells hk1 e.symm))
  have k1 : ∀ p : Ch (fun b => b = I.m) W1, p.w.cell? ⟨w.heap.size, 1, none⟩ = some (.int .i64 ka) := fun p => cell_at 1 (p.blk hk1 (fun e => hS1.mp.ne_cells hk1 e.symm))
  have k2 : ∀ p : Ch (fun b => b = I.m) W1, p.w.cell? ⟨w.heap.size, 2, none⟩ = some (.int .i64 kb) := fun p => cell_at 2 (p.blk hk1 (fun e => hS1.mp.ne_cells hk1 e.symm))
  have k3 : ∀ p : Ch (fun b => b = I.m) W1, p.w.cell? ⟨w.heap.size, 3, none⟩ = some (.string ks) := fun p => cell_at 3 (p.blk hk1 (fun e => hS1.mp.ne_cells hk1 e.symm))
  have m1 : ∀ p : Ch (fun b => b = I.m) W1, p.w.cell? ⟨I.s, 1, none⟩ = some (.map (some I.m)) := fun p => cell_at 1 (p.blk hS1.st (fun e => hS1.mp.ne_cells hS1.st e.symm))
  refine wp_region_ch (fun b => b = I.m) (by kernel_rfl) (by kernel_rfl) (fun s hs => ?_)
  have hS2 : StoreAt s.w I fv' _ l := hS1.keep (fun b _ => by rw [hs])
  clear hs
  (repeat (first | (refine wpMix_skip rfl rfl ?_) | (refine wpMix_step (fun K hK => ?_); go_simp; (with_reducible (refine hK _ _ ?_)); clear hK K)))
  refine wpMix_del (K := key_law) (encV := slotV) (k := ⟨kd, ka, kb, ks⟩) (l := l) rfl _ _ _ rfl Try.underlying56 rfl rfl hS2.mp (fun ob hM => ⟨⟨s.putO I.m ob (fun _ => rfl), rfl⟩, ?_⟩)
  refine wpMix_nil ?_
  have hS3 := hS2.delete hM
  obtain ⟨r2, hr2⟩ := fin1 (((s.mono (T := F) (fun b _ e => e ▸ hmF))).putO I.m ob (fun _ => hmF))
  go_end0
  refine ⟨rfl, r2, hr2, hr2 ▸ ⟨⟨⟨fv', _, hS3, ?_, ?_⟩, ?_, ?_, ?_⟩, ?_⟩⟩
  · exact (adel_map (fun z => Slot.cl z) l _).trans (by rw [← h2])
  · intro b hb
    have hb2 := foot_del hb
    unfold Foot at hb2
    have h3' := h3 b
    unfold Foot at h3'
    rcases hb2 with h | h | h | h | h | h | h
    · exact h3' (.inl h)
    · exact h3' (.inr (.inl h))
    · exact h3' (.inr (.inr (.inl h)))
    · exact h3' (.inr (.inr (.inr (.inl h))))
    · exact h3' (.inr (.inr (.inr (.inr (.inl h)))))
    · rcases Hfv.out b h with h | h
      · exact h3' (.inr (.inr (.inr (.inr (.inr (.inl h))))))
      · refine hF b ?_
        have h1 := Hps.out; have h2 := HWs.out
        simp at h; omega
    · exact h3' (.inr (.inr (.inr (.inr (.inr (.inr h))))))
  · split <;> simpa [freedA] using h4
  · split <;> simpa [freedA] using h5
  · split <;> simpa [freedA] using h6
  · split
    · rename_i hl; exact freed_fl hl h7
    · exact h7
end Go.Proofs.Cob

namespace Go.Proofs.Cob
open Go Go.RowKit Go.Cob
set_option linter.unusedSimpArgs false
set_option linter.unusedVariables false

structure KeyCell (w : World) (b o : Nat) (k : Key) : Prop where
  c0 : w.cell? ⟨b, o, none⟩ = some (.int .i64 k.kind)
  c1 : w.cell? ⟨b, o + 1, none⟩ = some (.int .i64 k.a)
  c2 : w.cell? ⟨b, o + 2, none⟩ = some (.int .i64 k.b)
  c3 : w.cell? ⟨b, o + 3, none⟩ = some (.string k.s)
/-- A slice whose elements are these keys. -/
def KeysIn (w : World) (fa : Option Addr) (ks : List Key) : Prop :=
  ks = [] ∨ ∃ b off, fa = some ⟨b, off, none⟩ ∧ ∀ i k, ks[i]? = some k → KeyCell w b (off + i * 4) k
theorem KeyCell.keep {w w' : World} {b o : Nat} {k : Key} (h : KeyCell w b o k) (e : w'.heap[b]? = w.heap[b]?) : KeyCell w' b o k := by
  have hc : ∀ i, w'.cell? ⟨b, i, none⟩ = w.cell? ⟨b, i, none⟩ := fun i => World.cell?_of_block (a := ⟨b, i, none⟩) e
  exact ⟨(hc _).trans h.c0, (hc _).trans h.c1, (hc _).trans h.c2, (hc _).trans h.c3⟩
theorem KeyCell.lt {w : World} {b o : Nat} {k : Key} (h : KeyCell w b o k) : b < w.heap.size := by
  have := World.block_lt_of_cell? w _ h.c0
  exact this
theorem KeysIn.keep {w w' : World} {fa : Option Addr} {ks : List Key} (h : KeysIn w fa ks) (e : ∀ a, fa = some a → a.block < w.heap.size → w'.heap[a.block]? = w.heap[a.block]?) : KeysIn w' fa ks := by
  rcases h with h | ⟨b, off, rfl, h⟩
  · exact .inl h
  · exact .inr ⟨b, off, rfl, fun i k hk => (h i k hk).keep (e _ rfl (h i k hk).lt)⟩
theorem KeysIn.ext {w : World} {fa : Option Addr} {ks : List Key} (h : KeysIn w fa ks) (p : Ext w) : KeysIn p.w fa ks := h.keep fun a _ hl => p.same _ hl id
theorem KeysIn.ch {w : World} {fa : Option Addr} {ks : List Key} {T : Nat → Prop} (h : KeysIn w fa ks) (p : Ch T w) (hT : ∀ a, fa = some a → ¬ T a.block) : KeysIn p.w fa ks := h.keep fun a ha hl => p.same _ hl (hT a ha)
theorem KeysIn.take {w : World} {fa : Option Addr} {ks : List Key} (h : KeysIn w fa ks) (n : Nat) : KeysIn w fa (ks.take n) := by
  rcases h with rfl | ⟨b, off, rfl, h⟩
  · exact .inl (by simp)
  · refine .inr ⟨b, off, rfl, fun i k hk => h i k ?_⟩
    rw [List.getElem?_take] at hk
    split at hk
    · exact hk
    · cases hk
/-- One element. -/
theorem KeysIn.get {w : World} {fa : Option Addr} {ks : List Key} (h : KeysIn w fa ks) {i : Nat} (hi : i < ks.length) : ∃ x, ks[i]? = some x ∧ ∃ b off, fa = some ⟨b, off, none⟩ ∧ KeyCell w b (off + i * 4) x := by
  rcases h with rfl | ⟨b, off, rfl, h⟩
  · simp at hi
  · exact ⟨ks[i], List.getElem?_eq_getElem hi, b, off, rfl, h i _ (List.getElem?_eq_getElem hi)⟩
/-- A slice that was just built of one key. -/
theorem KeysIn.built (w : World) (k : Key) : KeysIn (w.alloc (.cells (keyCells k.kind k.a k.b k.s) 23)) (some ⟨w.heap.size, 0, none⟩) [k] := by
  refine .inr ⟨w.heap.size, 0, rfl, fun i k' hk => ?_⟩
  have hb := heap_alloc_at w (.cells (keyCells k.kind k.a k.b k.s) 23)
  match i, hk with
  | 0, hk =>
    have : k = k' := by simpa using hk
    subst this
    exact ⟨cell_at 0 hb, cell_at 1 hb, cell_at 2 hb, cell_at 3 hb⟩

set_option maxHeartbeats 800000 in
theorem index_any (fa : Option Addr) (n cap : Nat) (ks : List Key) (k : Key) (w : World) (h : KeysIn w fa ks) (hn : n = ks.length) (hb : n < 4611686018427387904) :
    Calls Try.prog 197 #[.slice fa n cap, keyV k] w fun e w' => ∃ r : Int, e = .returned (.int .i64 r) ∧ (0 ≤ r ↔ k ∈ ks) ∧ ∃ p : Ext w, w' = p.w := by
  obtain ⟨kd, ka, kb, ks'⟩ := k
  obtain ⟨W, hW⟩ : ∃ W, W = w.alloc (.cells (keyCells kd ka kb ks') 23) := ⟨_, rfl⟩
  have hkb : W.heap[w.heap.size]? = some (.cells (keyCells kd ka kb ks') 23 (0, 0)) := by rw [hW]; exact heap_alloc_at _ _
  have hk' : KeysIn W fa ks := by rw [hW]; exact h.ext ((Ch.refl NoS w).alloc _)
  have fin : ∀ p : Ext W, ∃ q : Ext w, p.w = q.w := fun p => ⟨((Ch.refl NoS w).alloc _).onto hW p (fun b hb h => h), rfl⟩
  have hEq := run_eq_key
  have HN : Hid (n = ks.length) := hn
  clear h hn
  go_enter Try.func197, Try.ntmps197
  go_wp2_with fail
  rw [← hW]
  clear hW
  go_loopw [8] (fun v w' => (∃ p : Ext W, w' = p.w) ∧ ∃ i : Nat, v = .int .i64 i ∧ i ≤ n ∧ ∀ k' ∈ ks.take i, k' ≠ ⟨kd, ka, kb, ks'⟩) (fun v _ => n - (intOf v).toNat)
  case atStart => exact ⟨⟨Ch.refl NoS _, rfl⟩, 0, rfl, by omega, by simp⟩
  case round =>
    obtain ⟨⟨p, rfl⟩, i, rfl, hi, hne⟩ := hrel
    have Hne : Hid (∀ k' ∈ ks.take i, k' ≠ (⟨kd, ka, kb, ks'⟩ : Key)) := hne
    clear hne
    by_cases h1 : i < n
    · have h1' : i < ks.length := by have := HN.out; omega
      obtain ⟨⟨xd, xa, xb, xs⟩, hx, b, off, rfl, hc⟩ := (hk'.ext p).get h1'
      have hkb' := p.blkE hkb
      have finp : ∀ q : Ext p.w, ∃ q' : Ext W, q.w = q'.w := fun q => ⟨p.thenE q, rfl⟩
      have hfin : ∀ q : Ext p.w, ∃ q' : Ext w, q.w = q'.w := fun q => fin (p.thenE q)
      have Hx : Hid (ks[i]? = some ⟨xd, xa, xb, xs⟩) := hx
      clear h1' hx hk' hkb fin
      generalize p.w = W1 at *
      clear p
      have k0 : ∀ q : Ext W1, q.w.cell? ⟨w.heap.size, 0, none⟩ = some (.int .i64 kd) := fun q => cell_at 0 (q.blkE hkb')
      have k1 : ∀ q : Ext W1, q.w.cell? ⟨w.heap.size, 1, none⟩ = some (.int .i64 ka) := fun q => cell_at 1 (q.blkE hkb')
      have k2 : ∀ q : Ext W1, q.w.cell? ⟨w.heap.size, 2, none⟩ = some (.int .i64 kb) := fun q => cell_at 2 (q.blkE hkb')
      have k3 : ∀ q : Ext W1, q.w.cell? ⟨w.heap.size, 3, none⟩ = some (.string ks') := fun q => cell_at 3 (q.blkE hkb')
      have x0 : ∀ q : Ext W1, q.w.cell? ⟨b, off + i * 4, none⟩ = some (.int .i64 xd) := fun q => (hc.keep (q.same _ hc.lt id)).c0
      have x1 : ∀ q : Ext W1, q.w.cell? ⟨b, off + i * 4 + 1, none⟩ = some (.int .i64 xa) := fun q => (hc.keep (q.same _ hc.lt id)).c1
      have x2 : ∀ q : Ext W1, q.w.cell? ⟨b, off + i * 4 + 2, none⟩ = some (.int .i64 xb) := fun q => (hc.keep (q.same _ hc.lt id)).c2
      have x3 : ∀ q : Ext W1, q.w.cell? ⟨b, off + i * 4 + 3, none⟩ = some (.string xs) := fun q => (hc.keep (q.same _ hc.lt id)).c3
      clear hkb'
      have hE : ∀ w, (Op.equalIn 10000 23 (.agg #[.int .i64 kd, .int .i64 ka, .int .i64 kb, .string ks']) (.agg #[.int .i64 xd, .int .i64 xa, .int .i64 xb, .string xs])).run Try.prog w = .ok (decide ((⟨kd, ka, kb, ks'⟩ : Key) = ⟨xd, xa, xb, xs⟩)) w := hEq ⟨kd, ka, kb, ks'⟩ ⟨xd, xa, xb, xs⟩
      clear hEq
      by_cases hk : (⟨kd, ka, kb, ks'⟩ : Key) = ⟨xd, xa, xb, xs⟩
      · rw [decide_eq_true hk] at hE
        have Hk : Hid ((⟨kd, ka, kb, ks'⟩ : Key) = ⟨xd, xa, xb, xs⟩) := hk
        clear hk
        go_wp2_with fail
        refine wp_region_ch NoS (by kernel_rfl) (by kernel_rfl) (fun q hq => ?_)
        clear hq
        (repeat (first | (refine wpMix_skip rfl rfl ?_) | (refine wpMix_step (fun K hK => ?_); go_simp; (with_reducible (refine hK _ _ ?_)); clear hK K)))
        refine wpMix_nil ?_
        go_wp2_with fail
        go_ret
        refine ⟨i, rfl, ?_, hfin q⟩
        have : (⟨kd, ka, kb, ks'⟩ : Key) ∈ ks := by rw [Hk.out]; exact List.mem_of_getElem? Hx.out
        simp [this]
      · rw [decide_eq_false hk] at hE
        have Hk : Hid (¬ (⟨kd, ka, kb, ks'⟩ : Key) = ⟨xd, xa, xb, xs⟩) := hk
        clear hk
        go_wp2_with fail
        refine wp_region_ch NoS (by kernel_rfl) (by kernel_rfl) (fun q hq => ?_)
        clear hq
        (repeat (first | (refine wpMix_skip rfl rfl ?_) | (refine wpMix_step (fun K hK => ?_); go_simp; (with_reducible (refine hK _ _ ?_)); clear hK K)))
        refine wpMix_nil ?_
        go_wp2_with fail
        go_roundw
        case rel =>
          refine ⟨finp q, i + 1, by go_num, by omega, ?_⟩
          have h2 : i < ks.length := by have := HN.out; omega
          rw [List.take_add_one, Hx.out]
          intro k' hk'
          rcases List.mem_append.1 hk' with h | h
          · exact Hne.out k' h
          · have : k' = ⟨xd, xa, xb, xs⟩ := by simpa using h
            rw [this]
            exact fun e => Hk.out e.symm
        case measure => simp [intOf]; omega
    · go_wp2_with fail
      go_ret
      refine ⟨-1, rfl, ?_, fin p⟩
      have h2 : ks.take i = ks := List.take_of_length_le (by have := HN.out; omega)
      have h3 := Hne.out
      rw [h2] at h3
      have : (⟨kd, ka, kb, ks'⟩ : Key) ∉ ks := fun h => h3 _ h rfl
      simp [this]

set_option maxRecDepth 4000 in
theorem contains_any (fa : Option Addr) (n cap : Nat) (ks : List Key) (k : Key) (w : World) (h : KeysIn w fa ks) (hn : n = ks.length) (hb : n < 4611686018427387904) :
    Calls Try.prog 131 #[.slice fa n cap, keyV k] w fun e w' => e = .returned (.bool (decide (k ∈ ks))) ∧ ∃ p : Ext w, w' = p.w := by
  obtain ⟨kd, ka, kb, ks'⟩ := k
  have h1 : KeysIn (w.alloc (.cells (keyCells kd ka kb ks') 23)) fa ks := h.ext ((Ch.refl NoS w).alloc _)
  have HN : Hid (n = ks.length) := hn
  clear hn
  go_enter Try.func131, Try.ntmps131
  go_wp2_with (go_at_call 197; go_must (refine (index_any fa n cap ks ⟨kd, ka, kb, ks'⟩ (w.alloc (.cells (keyCells kd ka kb ks') 23)) h1 HN.out hb).mono ?_); rintro e w' ⟨r, rfl, hr, p, rfl⟩)
  go_ret
  refine ⟨?_, ((Ch.refl NoS w).alloc _).thenE p, rfl⟩
  by_cases hk : (⟨kd, ka, kb, ks'⟩ : Key) ∈ ks
  · have := hr.2 hk
    simp [hk, this]
  · have : ¬ 0 ≤ r := fun e => hk (hr.1 e)
    simp [hk, this]
end Go.Proofs.Cob

namespace Go.Proofs.Cob
open Go Go.RowKit Go.Cob
set_option linter.unusedSimpArgs false
set_option linter.unusedVariables false

/-- May these keys be unlocked? -/
def okU (L : List (Key × Cl)) (who : Int) : List Key → List Key → Bool
  | _, [] => true
  | seen, k :: ks => holdsM L k who && !decide (k ∈ seen) && okU L who (seen ++ [k]) ks
def unl1 (S : ArenaSt × List (Key × Cl)) (k : Key) : ArenaSt × List (Key × Cl) :=
  match aget S.2 k with
  | none => S
  | some z => if stampZ (unlockZ z.wd) == 0 then dropM S.1 (aput S.2 k { z with wd := unlockZ z.wd }) k else (S.1, aput S.2 k { z with wd := unlockZ z.wd })
def unlM (A : ArenaSt) (L : List (Key × Cl)) (who : Int) (ks : List Key) : Int × ArenaSt × List (Key × Cl) :=
  if okU L who [] ks then (0, ks.foldl unl1 (A, L)) else (51, A, L)

theorem drop_cons {α : Type} {l : List α} {i : Nat} {x : α} (h : l[i]? = some x) : l.drop i = x :: l.drop (i + 1) := by
  obtain ⟨h1, h2⟩ := List.getElem?_eq_some_iff.1 h
  rw [List.drop_eq_getElem_cons h1, h2]
theorem take_snoc {α : Type} {l : List α} {i : Nat} {x : α} (h : l[i]? = some x) : l.take (i + 1) = l.take i ++ [x] := by rw [List.take_add_one, h]; rfl

theorem StN.ext {w : World} {I : Ids} {A : ArenaSt} {L : List (Key × Cl)} {F : Nat → Prop} (h : StN w I A L F) (p : Ext w) : StN p.w I A L F := ⟨h.st.ext p, h.fl⟩
theorem okU_spec {L : List (Key × Cl)} {who : Int} : ∀ {ks seen : List Key}, okU L who seen ks = true → ks.Nodup ∧ (∀ k ∈ ks, holdsM L k who = true ∧ k ∉ seen)
  | [], seen, _ => ⟨.nil, by simp⟩
  | k :: ks, seen, h => by
    simp only [okU, Bool.and_eq_true, Bool.not_eq_true', decide_eq_false_iff_not] at h
    obtain ⟨⟨h1, h2⟩, h3⟩ := h
    obtain ⟨i1, i2⟩ := okU_spec h3
    refine ⟨List.nodup_cons.2 ⟨fun hk => (i2 k hk).2 (by simp), i1⟩, fun x hx => ?_⟩
    rcases List.mem_cons.1 hx with rfl | hx
    · exact ⟨h1, h2⟩
    · exact ⟨(i2 x hx).1, fun hs => (i2 x hx).2 (by simp [hs])⟩

theorem aget_adel_ne {α β : Type} [DecidableEq α] (l : List (α × β)) {k k' : α} (h : k ≠ k') : aget (adel l k) k' = aget l k' := by
  induction l with
  | nil => rfl
  | cons p l ih =>
    simp only [adel]
    split
    · rename_i hp; rw [aget_cons, if_neg (by rw [hp]; exact h)]
    · rw [aget_cons, aget_cons, ih]
theorem unl1_ne (S : ArenaSt × List (Key × Cl)) {k k' : Key} (h : k ≠ k') : aget (unl1 S k).2 k' = aget S.2 k' := by
  unfold unl1
  cases hg : aget S.2 k with
  | none => rfl
  | some z =>
    simp only
    split
    · unfold dropM
      rw [aget_aput, if_pos rfl]
      simp only
      rw [aget_adel_ne _ h, aget_aput, if_neg h]
    · rw [aget_aput, if_neg h]
theorem holds_some {L : List (Key × Cl)} {k : Key} {who : Int} (h : holdsM L k who = true) : ∃ z, aget L k = some z := by
  unfold holdsM at h
  cases hg : aget L k with
  | none => rw [hg] at h; cases h
  | some z => exact ⟨z, rfl⟩


set_option maxRecDepth 4000 in
set_option maxHeartbeats 3200000 in
theorem unlock_mw (I : Ids) (A : ArenaSt) (L : List (Key × Cl)) (F : Nat → Prop) (who : Int) (fa : Option Addr) (n cap : Nat) (ks : List Key) (w : World) (h : StN w I A L F) (hF : ∀ b, w.heap.size ≤ b → F b)
    (hk : KeysIn w fa ks) (hfa : ks = [] ∨ ∀ a, fa = some a → ¬ F a.block) (hn : n = ks.length) (hcap : n ≤ cap) (hb : n < 4611686018427387904) :
    Calls Try.prog 32 #[.pointer (some ⟨I.s, 0, none⟩), .int .i64 who, .slice fa n cap] w fun e w' => e = .returned (.int .i64 (unlM A L who ks).1) ∧ ∃ p : Ch F w, w' = p.w ∧ StN p.w I (unlM A L who ks).2.1 (unlM A L who ks).2.2 F := by
  have HN : Hid (n = ks.length) := hn
  clear hn
  go_enter Try.func32, Try.ntmps32
  go_wp2_with fail
  go_loopw [14] (fun v w' => (∃ p : Ext w, w' = p.w) ∧ ∃ i : Nat, v = .int .i64 i ∧ i ≤ n ∧ okU L who (ks.take i) (ks.drop i) = okU L who [] ks) (fun v _ => n - (intOf v).toNat)
  case atStart => exact ⟨⟨Ch.refl NoS _, rfl⟩, 0, rfl, by omega, rfl⟩
  case round =>
    obtain ⟨⟨p, rfl⟩, i, rfl, hi, hne⟩ := hrel
    have Hne : Hid (okU L who (ks.take i) (ks.drop i) = okU L who [] ks) := hne
    clear hne
    by_cases h1 : i < n
    · have h1' : i < ks.length := by have := HN.out; omega
      obtain ⟨⟨xd, xa, xb, xs⟩, hx, b, off, rfl, hc⟩ := (hk.ext p).get h1'
      have hkp := hk.ext p
      have hst := h.st.ext p
      have hfin : ∀ q : Ext p.w, ∃ q' : Ext w, q.w = q'.w := fun q => ⟨p.thenE q, rfl⟩
      have Hx : Hid (ks[i]? = some ⟨xd, xa, xb, xs⟩) := hx
      have hcap' : i ≤ cap := by omega
      have hbad : (holdsM L ⟨xd, xa, xb, xs⟩ who && !decide ((⟨xd, xa, xb, xs⟩ : Key) ∈ ks.take i)) = false → okU L who [] ks = false := fun hb => by
        rw [← Hne.out, drop_cons hx, okU, hb]; rfl
      have hgood : (holdsM L ⟨xd, xa, xb, xs⟩ who && !decide ((⟨xd, xa, xb, xs⟩ : Key) ∈ ks.take i)) = true → okU L who (ks.take (i + 1)) (ks.drop (i + 1)) = okU L who [] ks := fun hb => by
        rw [← Hne.out, drop_cons hx, okU, hb, take_snoc hx]; simp
      have HBad : Hid _ := hbad
      have HGood : Hid _ := hgood
      have hfin' : okU L who [] ks = false → ∀ q : Ext w, unlM A L who ks = (51, A, L) ∧ ∃ p : Ch F w, q.w = p.w ∧ StN p.w I A L F := fun ho q => ⟨by unfold unlM; rw [ho]; rfl, q.up F, rfl, ⟨h.st.ext q, h.fl⟩⟩
      have HFin : Hid _ := hfin'
      clear h1' hx hk h hbad hgood hfin' hfa
      generalize p.w = W1 at *
      clear p
      have y0 := hc.c0
      have y1 := hc.c1
      have y2 := hc.c2
      have y3 := hc.c3
      go_wp2_with fail
      obtain ⟨W2, hW2⟩ : ∃ W2, W2 = W1.alloc (.cells (keyCells xd xa xb xs) 23) := ⟨_, rfl⟩
      have hkb : W2.heap[W1.heap.size]? = some (.cells (keyCells xd xa xb xs) 23 (0, 0)) := by rw [hW2]; exact heap_alloc_at _ _
      have hst2 : StM W2 I A L F := by rw [hW2]; exact hst.ext ((Ch.refl NoS W1).alloc _)
      have hkp2 : KeysIn W2 (some ⟨b, off, none⟩) ks := by rw [hW2]; exact hkp.ext ((Ch.refl NoS W1).alloc _)
      have hfin2 : ∀ q : Ext W2, ∃ q' : Ext w, q.w = q'.w := fun q => hfin (((Ch.refl NoS W1).alloc _).onto hW2 q (fun _ _ h => h))
      rw [← hW2]
      clear hW2 hst hkp hfin y0 y1 y2 y3 hc
      have k0 : ∀ q : Ext W2, q.w.cell? ⟨W1.heap.size, 0, none⟩ = some (.int .i64 xd) := fun q => cell_at 0 (q.blkE hkb); have k1 : ∀ q : Ext W2, q.w.cell? ⟨W1.heap.size, 1, none⟩ = some (.int .i64 xa) := fun q => cell_at 1 (q.blkE hkb); have k2 : ∀ q : Ext W2, q.w.cell? ⟨W1.heap.size, 2, none⟩ = some (.int .i64 xb) := fun q => cell_at 2 (q.blkE hkb); have k3 : ∀ q : Ext W2, q.w.cell? ⟨W1.heap.size, 3, none⟩ = some (.string xs) := fun q => cell_at 3 (q.blkE hkb)
      cases hh : holdsM L ⟨xd, xa, xb, xs⟩ who
      · refine wp_region_ch NoS (by kernel_rfl) (by kernel_rfl) (fun q hq => ?_)
        clear hq
        (repeat (first | (refine wpMix_skip rfl rfl ?_) | (refine wpMix_step (fun K hK => ?_); go_simp; (with_reducible (refine hK _ _ ?_)); clear hK K)))
        refine wpMix_step (fun K hK => ?_); go_simp; have hcall := holds_m I A L F ⟨xd, xa, xb, xs⟩ who q.w (hst2.ext q); rw [hh] at hcall; refine (Calls.inCh hcall).mono ?_; clear hcall; rintro e w' ⟨rfl, q, rfl⟩; refine ⟨⟨q, rfl⟩, hK _ _ ?_⟩; clear hK K
        (repeat (first | (refine wpMix_skip rfl rfl ?_) | (refine wpMix_step (fun K hK => ?_); go_simp; (with_reducible (refine hK _ _ ?_)); clear hK K)))
        refine wpMix_nil ?_
        have HX : Hid _ := HBad.out (by rw [hh]; rfl)
        go_wp2_with fail
        go_ret
        obtain ⟨q', hq'⟩ := hfin2 q
        obtain ⟨e1, p', hp', hS⟩ := HFin.out HX.out q'
        rw [e1]
        exact ⟨rfl, p', hq'.trans hp', hS⟩
      · cases hm : decide ((⟨xd, xa, xb, xs⟩ : Key) ∈ ks.take i)
        all_goals
          have Hm : Hid _ := hm
          have Htl : Hid (i = (ks.take i).length) := by have := HN.out; show i = _; simp; omega
          clear hm
          refine wp_region_ch NoS (by kernel_rfl) (by kernel_rfl) (fun q hq => ?_)
          clear hq
          (repeat (first | (refine wpMix_skip rfl rfl ?_) | (refine wpMix_step (fun K hK => ?_); go_simp; (with_reducible (refine hK _ _ ?_)); clear hK K)))
          refine wpMix_step (fun K hK => ?_); go_simp; have hcall := holds_m I A L F ⟨xd, xa, xb, xs⟩ who q.w (hst2.ext q); rw [hh] at hcall; refine (Calls.inCh hcall).mono ?_; clear hcall; rintro e w' ⟨rfl, q, rfl⟩; refine ⟨⟨q, rfl⟩, hK _ _ ?_⟩; clear hK K
          (repeat (first | (refine wpMix_skip rfl rfl ?_) | (refine wpMix_step (fun K hK => ?_); go_simp; (with_reducible (refine hK _ _ ?_)); clear hK K)))
          refine wpMix_step (fun K hK => ?_); go_simp
          have hcall := contains_any (some ⟨b, off, none⟩) i cap (ks.take i) ⟨xd, xa, xb, xs⟩ q.w ((hkp2.ext q).take i) Htl.out (by omega)
          rw [Hm.out] at hcall
          refine (Calls.inCh hcall).mono ?_
          clear hcall
          rintro e w' ⟨rfl, q, rfl⟩
          refine ⟨⟨q, rfl⟩, hK _ _ ?_⟩; clear hK K
          (repeat (first | (refine wpMix_skip rfl rfl ?_) | (refine wpMix_step (fun K hK => ?_); go_simp; (with_reducible (refine hK _ _ ?_)); clear hK K)))
          refine wpMix_nil ?_
        · have HX : Hid _ := HGood.out (by rw [hh, Hm.out]; rfl)
          have Hq : Hid _ := hfin2 q
          clear hh
          go_wp2_with fail
          go_roundw
          case rel => exact ⟨Hq.out, i + 1, by go_num, by omega, HX.out⟩
          case measure => simp [intOf]; omega
        · have HX : Hid _ := HBad.out (by rw [hh, Hm.out]; rfl)
          clear hh
          go_wp2_with fail
          go_ret
          obtain ⟨q', hq'⟩ := hfin2 q
          obtain ⟨e1, p', hp', hS⟩ := HFin.out HX.out q'
          rw [e1]
          exact ⟨rfl, p', hq'.trans hp', hS⟩
    · have h2 := Hne.out
      rw [List.drop_eq_nil_of_le (by have := HN.out; omega)] at h2
      have hok : okU L who [] ks = true := h2.symm
      have HOk : Hid _ := hok
      obtain ⟨hnd, hhs⟩ := okU_spec hok
      have Hnd : Hid ks.Nodup := hnd
      have Hhs : Hid (∀ k ∈ ks, ∃ z, aget L k = some z) := fun k hk => holds_some (hhs k hk).1
      clear h2 hok hnd hhs Hne
      have hst := h.ext p
      have hkp := hk.ext p
      have fin : ∀ q : Ch F p.w, ∃ q' : Ch F w, q.w = q'.w := fun q => ⟨(p.up F).then q (fun _ _ h => h), rfl⟩
      have hF1 : ∀ b, p.w.heap.size ≤ b → F b := fun b hb => hF b (by have := p.size; omega)
      clear h hk hF
      generalize p.w = W1 at *
      clear p
      go_wp2_with fail
      go_loopw [34] (fun v w' => ∃ (q : Ch F W1) (i : Nat) (S : ArenaSt × List (Key × Cl)), w' = q.w ∧ v = .int .i64 i ∧ i ≤ n ∧ StN q.w I S.1 S.2 F ∧ (ks.drop i).foldl unl1 S = ks.foldl unl1 (A, L) ∧ ∀ k ∈ ks.drop i, ∃ z, aget S.2 k = some z) (fun v _ => n - (intOf v).toNat)
      case atStart => exact ⟨Ch.refl F W1, 0, (A, L), rfl, rfl, by omega, hst, rfl, Hhs.out⟩
      case round =>
        obtain ⟨q, i, S, rfl, rfl, hi2, hS, hfold, hall⟩ := hrel
        have Hfold : Hid _ := hfold
        have Hall : Hid _ := hall
        clear hfold hall
        by_cases h2 : i < n
        · have h2' : i < ks.length := by have := HN.out; omega
          have hkq := hkp.ch q (hfa.resolve_left (fun e => by rw [e] at h2'; simp at h2'))
          obtain ⟨⟨xd, xa, xb, xs⟩, hx, b, off, rfl, hc⟩ := hkq.get h2'
          have Hx : Hid (ks[i]? = some ⟨xd, xa, xb, xs⟩) := hx
          have hz0 : ∃ z, aget S.2 ⟨xd, xa, xb, xs⟩ = some z := Hall.out _ (by rw [drop_cons hx]; exact List.mem_cons_self ..)
          have hfinq : ∀ r : Ch F q.w, ∃ r' : Ch F W1, r.w = r'.w := fun r => ⟨q.then r (fun _ _ h => h), rfl⟩
          have hFq : ∀ b, q.w.heap.size ≤ b → F b := fun b hb => hF1 b (by have := q.size; omega)
          clear h2' hx hkq
          generalize q.w = W3 at *
          clear q
          have y0 := hc.c0
          have y1 := hc.c1
          have y2 := hc.c2
          have y3 := hc.c3
          go_wp2_with fail
          obtain ⟨W4, hW4⟩ : ∃ W4, W4 = W3.alloc (.cells (keyCells xd xa xb xs) 23) := ⟨_, rfl⟩
          obtain ⟨kb', hkb'⟩ : ∃ kb', kb' = W3.heap.size := ⟨_, rfl⟩
          have hkb : W4.heap[kb']? = some (.cells (keyCells xd xa xb xs) 23 (0, 0)) := by rw [hW4, hkb']; exact heap_alloc_at _ _
          have hS4 : StN W4 I S.1 S.2 F := by rw [hW4]; exact hS.ext ((Ch.refl NoS W3).alloc _)
          have hfin4 : ∀ q : Ch F W4, ∃ q' : Ch F W1, q.w = q'.w := fun q => hfinq (((Ch.refl F W3).alloc _).onto hW4 q (fun _ _ h => h))
          have hF4 : ∀ b, W4.heap.size ≤ b → F b := fun b hb => hFq b (by rw [hW4] at hb; simp at hb; omega)
          rw [← hkb', ← hW4]
          clear hkb' hW4 hS hfinq hFq y0 y1 y2 y3 hc
          clear W3
          obtain ⟨⟨⟨fv, l, g1, g2, g3⟩, g4, g5, g6⟩, g7⟩ := hS4
          have hm : aget S.2 ⟨xd, xa, xb, xs⟩ = (aget l ⟨xd, xa, xb, xs⟩).map Slot.cl := by rw [← g2]; exact aget_map (fun z => Slot.cl z) l _
          obtain ⟨z, hz⟩ : ∃ z, aget l ⟨xd, xa, xb, xs⟩ = some z := by
            obtain ⟨z0, hz0⟩ := hz0
            rw [hz0] at hm
            cases hg : aget l ⟨xd, xa, xb, xs⟩ with
            | none => rw [hg] at hm; simp at hm
            | some z => exact ⟨z, rfl⟩
          rw [hz] at hm
          have Hm : Hid (aget S.2 ⟨xd, xa, xb, xs⟩ = some z.cl) := hm
          clear hm hz0
          have k0 : ∀ q : Ext W4, q.w.cell? ⟨kb', 0, none⟩ = some (.int .i64 xd) := fun q => cell_at 0 (q.blkE hkb); have k1 : ∀ q : Ext W4, q.w.cell? ⟨kb', 1, none⟩ = some (.int .i64 xa) := fun q => cell_at 1 (q.blkE hkb); have k2 : ∀ q : Ext W4, q.w.cell? ⟨kb', 2, none⟩ = some (.int .i64 xb) := fun q => cell_at 2 (q.blkE hkb); have k3 : ∀ q : Ext W4, q.w.cell? ⟨kb', 3, none⟩ = some (.string xs) := fun q => cell_at 3 (q.blkE hkb)
          have m1 : ∀ p : Ext W4, p.w.cell? ⟨I.s, 1, none⟩ = some (.map (some I.m)) := fun p => cell_at 1 (g1.ext p).st
          have hMp : ∀ p : Ext W4, MapAt keyV slotV p.w I.m l := fun p => (g1.ext p).mp
          refine wp_region_ch NoS (by kernel_rfl) (by kernel_rfl) (fun p hp => ?_)
          clear hp
          (repeat (first | (refine wpMix_skip rfl rfl ?_) | (refine wpMix_step (fun K hK => ?_); go_simp; (with_reducible (refine hK _ _ ?_)); clear hK K)))
          refine wpMix_look (K := key_law) (encV := slotV) (k := ⟨xd, xa, xb, xs⟩) (l := l) (c := false) rfl _ _ rfl Try.underlying56 z178 rfl rfl (fun w' ⟨q, hq⟩ => by rw [hq]; exact hMp q) (v := .pointer (some ⟨z.x, 0, none⟩)) (by rw [hz]; rfl) ?_
          (repeat (first | (refine wpMix_skip rfl rfl ?_) | (refine wpMix_step (fun K hK => ?_); go_simp; (with_reducible (refine hK _ _ ?_)); clear hK K)))
          refine wpMix_nil ?_
          have hS5 := g1.ext p
          have hkb5 := p.blkE hkb
          have hfin5 : ∀ q : Ch F p.w, ∃ q' : Ch F W1, q.w = q'.w := fun q => hfin4 ((p.up F).then q (fun _ _ h => h))
          have hF5 : ∀ b, p.w.heap.size ≤ b → F b := fun b hb => hF4 b (by have := p.size; omega)
          clear k0 k1 k2 k3 m1 hMp hfin4 hF4 g1 hkb
          generalize p.w = W5 at *
          clear p W4
          have hzS := hS5.slots _ (aget_mem hz)
          have hxF : F z.x := g3 z.x (.inr (.inr (.inr (.inr (.inr (.inr ⟨_, aget_mem hz, rfl⟩))))))
          have hne : kb' ≠ z.x := blkNe hkb5 hzS (by decide)
          have z2 := cell_at 2 hzS
          have f2 := frozen_at 2 hzS
          have k0 := cell_at 0 hkb5
          have k1 := cell_at 1 hkb5
          have k2 := cell_at 2 hkb5
          have k3 := cell_at 3 hkb5
          have hS6 := hS5.setSlot (z' := { z with wd := unlockZ z.wd }) hz rfl ((Ch.refl (fun b => b = z.x) W5).set z.x 2 (.int .u64 (unlockZ z.wd)) (fun _ => rfl)) (by
            have := heap_set_same hzS 2 (.int .u64 (unlockZ z.wd))
            simpa using this)
          have hN6 : StN (W5.setCell ⟨z.x, 2, none⟩ (.int .u64 (unlockZ z.wd))) I S.1 (aput S.2 ⟨xd, xa, xb, xs⟩ { z.cl with wd := unlockZ z.wd }) F := by
            refine ⟨⟨⟨fv, _, hS6, ?_, ?_⟩, g4, g5, g6⟩, g7⟩
            · exact (aput_map (fun z => Slot.cl z) l _ _).trans (by rw [← g2])
            · intro b hb
              rcases foot_put hb with hb | rfl
              · exact g3 b hb
              · exact hxF
          have hfin6 : ∀ q : Ch F (W5.setCell ⟨z.x, 2, none⟩ (.int .u64 (unlockZ z.wd))), ∃ q' : Ch F W1, q.w = q'.w := fun q => hfin5 (((Ch.refl F W5).set z.x 2 _ (fun _ => hxF)).then q (fun _ _ h => h))
          have hF6 : ∀ b, (W5.setCell ⟨z.x, 2, none⟩ (.int .u64 (unlockZ z.wd))).heap.size ≤ b → F b := fun b hb => hF5 b (by simpa using hb)
          have HS : Hid _ := hz
          clear hS5 hS6 hzS hkb5 hz hfin5 hF5
          have hun : unl1 S ⟨xd, xa, xb, xs⟩ = if stampZ (unlockZ z.wd) == 0 then dropM S.1 (aput S.2 ⟨xd, xa, xb, xs⟩ { z.cl with wd := unlockZ z.wd }) ⟨xd, xa, xb, xs⟩ else (S.1, aput S.2 ⟨xd, xa, xb, xs⟩ { z.cl with wd := unlockZ z.wd }) := by unfold unl1; rw [Hm.out]
          have hnext : (ks.drop (i + 1)).foldl unl1 (unl1 S ⟨xd, xa, xb, xs⟩) = ks.foldl unl1 (A, L) := by
            rw [← Hfold.out, drop_cons Hx.out]; rfl
          have hall' : ∀ k ∈ ks.drop (i + 1), ∃ z, aget (unl1 S ⟨xd, xa, xb, xs⟩).2 k = some z := fun k hk => by
            have hnd := Hnd.out
            rw [← List.take_append_drop i ks, drop_cons Hx.out, List.nodup_append] at hnd
            have h3 := (List.nodup_cons.1 hnd.2.1).1
            have hne' : (⟨xd, xa, xb, xs⟩ : Key) ≠ k := fun e => h3 (by rw [e]; exact hk)
            rw [unl1_ne S hne']
            exact Hall.out k (by rw [drop_cons Hx.out]; exact List.mem_cons_of_mem _ hk)
          have Hun : Hid _ := hun
          have Hnext : Hid _ := hnext
          have Hall' : Hid _ := hall'
          clear hun hnext hall'
          cases hs : (stampZ (unlockZ z.wd) == 0)
          · go_wp2_with (first
              | (go_at_call 132; go_must (refine (unlock_any _ _).mono ?_); rintro e w' ⟨rfl, rfl⟩)
              | (go_at_call 119; go_must (refine (stamp_any _ _).mono ?_); rintro e w' ⟨rfl, rfl⟩))
            have Hq : Hid _ := hfin6 (Ch.refl F _)
            have HN6 : Hid _ := hN6
            have Hs : Hid _ := hs
            clear hs hN6 hfin6 hF6
            go_roundw
            case rel =>
              obtain ⟨q', hq'⟩ := Hq.out
              have e := Hun.out
              rw [Hs.out] at e
              have hN := HN6.out
              refine ⟨q', i + 1, unl1 S ⟨xd, xa, xb, xs⟩, hq', by go_num, by omega, ?_, Hnext.out, Hall'.out⟩
              rw [← hq', e]
              exact hN
            case measure => simp [intOf]; omega
          · go_wp2_with (first
              | (go_at_call 132; go_must (refine (unlock_any _ _).mono ?_); rintro e w' ⟨rfl, rfl⟩)
              | (go_at_call 119; go_must (refine (stamp_any _ _).mono ?_); rintro e w' ⟨rfl, rfl⟩)
              | (go_at_call 130; go_must (refine (drop_m I S.1 (aput S.2 ⟨xd, xa, xb, xs⟩ { z.cl with wd := unlockZ z.wd }) F ⟨xd, xa, xb, xs⟩ _ hN6 hF6 { z.cl with wd := unlockZ z.wd } (by rw [aget_aput, if_pos rfl])).mono ?_); rintro e w' ⟨rfl, p, rfl, hN7⟩))
            have Hq : Hid _ := hfin6 p
            have HN6 : Hid _ := hN7
            have Hs : Hid _ := hs
            clear hs hN7 hN6 hfin6 hF6
            go_roundw
            case rel =>
              obtain ⟨q', hq'⟩ := Hq.out
              have e := Hun.out
              rw [Hs.out] at e
              have hN := HN6.out
              refine ⟨q', i + 1, unl1 S ⟨xd, xa, xb, xs⟩, hq', by go_num, by omega, ?_, Hnext.out, Hall'.out⟩
              rw [← hq', e]
              exact hN
            case measure => simp [intOf]; omega
        · go_wp2_with fail
          go_ret
          have h3 := Hfold.out
          rw [List.drop_eq_nil_of_le (by have := HN.out; omega)] at h3
          have e : unlM A L who ks = (0, S) := by unfold unlM; rw [HOk.out, if_pos rfl, ← h3]; rfl
          obtain ⟨q', hq'⟩ := fin q
          rw [e]
          exact ⟨rfl, q', hq', hq' ▸ hS⟩
theorem unlock_m (I : Ids) (A : ArenaSt) (L : List (Key × Cl)) (F : Nat → Prop) (who : Int) (fa : Option Addr) (n cap : Nat) (ks : List Key) (w : World) (h : StN w I A L F) (hF : ∀ b, w.heap.size ≤ b → F b)
    (hk : KeysIn w fa ks) (hfa : ∀ a, fa = some a → ¬ F a.block) (hn : n = ks.length) (hcap : n ≤ cap) (hb : n < 4611686018427387904) :
    Calls Try.prog 32 #[.pointer (some ⟨I.s, 0, none⟩), .int .i64 who, .slice fa n cap] w fun e w' => e = .returned (.int .i64 (unlM A L who ks).1) ∧ ∃ p : Ch F w, w' = p.w ∧ StN p.w I (unlM A L who ks).2.1 (unlM A L who ks).2.2 F :=
  unlock_mw I A L F who fa n cap ks w h hF hk (.inr hfa) hn hcap hb
end Go.Proofs.Cob

namespace Go.Proofs.Cob
open Go Go.RowKit Go.Cob
set_option linter.unusedSimpArgs false
set_option linter.unusedVariables false

def fr1 (S : Nat × ArenaSt × List (Key × Cl)) (k : Key) : Nat × ArenaSt × List (Key × Cl) :=
  match aget S.2.2 k with
  | none => S
  | some z => if goneB z.wd && freeB z.wd then (S.1 + 1, dropM S.2.1 S.2.2 k) else S
def freeM (A : ArenaSt) (L : List (Key × Cl)) (ks : List Key) : Nat × ArenaSt × List (Key × Cl) := ks.foldl fr1 (0, A, L)

set_option maxRecDepth 4000 in
set_option maxHeartbeats 3200000 in
theorem free_mw (I : Ids) (A : ArenaSt) (L : List (Key × Cl)) (F : Nat → Prop) (fa : Option Addr) (n cap : Nat) (ks : List Key) (w : World) (h : StN w I A L F) (hF : ∀ b, w.heap.size ≤ b → F b)
    (hk : KeysIn w fa ks) (hfa : ks = [] ∨ ∀ a, fa = some a → ¬ F a.block) (hn : n = ks.length) (hb : n < 4611686018427387904) :
    Calls Try.prog 31 #[.pointer (some ⟨I.s, 0, none⟩), .slice fa n cap] w fun e w' => e = .returned (.int .i64 (freeM A L ks).1) ∧ ∃ p : Ch F w, w' = p.w ∧ StN p.w I (freeM A L ks).2.1 (freeM A L ks).2.2 F := by
  have HN : Hid (n = ks.length) := hn
  clear hn
  go_enter Try.func31, Try.ntmps31
  go_wp2_with fail
  go_loopw [5, 11] (fun c v w' => ∃ (q : Ch F w) (i : Nat) (S : Nat × ArenaSt × List (Key × Cl)), w' = q.w ∧ v = .int .i64 i ∧ c = .int .i64 S.1 ∧ S.1 ≤ i ∧ i ≤ n ∧ StN q.w I S.2.1 S.2.2 F ∧ (ks.drop i).foldl fr1 S = freeM A L ks) (fun _ v _ => n - (intOf v).toNat)
  case atStart => exact ⟨Ch.refl F w, 0, (0, A, L), rfl, rfl, rfl, by simp, by omega, h, rfl⟩
  case round =>
    obtain ⟨q, i, S, rfl, rfl, rfl, hSi, hi2, hS, hfold⟩ := hrel
    have Hfold : Hid _ := hfold
    clear hfold
    by_cases h2 : i < n
    · have h2' : i < ks.length := by have := HN.out; omega
      have hkq := hk.ch q (hfa.resolve_left (fun e => by rw [e] at h2'; simp at h2'))
      obtain ⟨⟨xd, xa, xb, xs⟩, hx, b, off, rfl, hc⟩ := hkq.get h2'
      have Hx : Hid (ks[i]? = some ⟨xd, xa, xb, xs⟩) := hx
      have hfinq : ∀ r : Ch F q.w, ∃ r' : Ch F w, r.w = r'.w := fun r => ⟨q.then r (fun _ _ h => h), rfl⟩
      have hFq : ∀ b, q.w.heap.size ≤ b → F b := fun b hb => hF b (by have := q.size; omega)
      have hnext : (ks.drop (i + 1)).foldl fr1 (fr1 S ⟨xd, xa, xb, xs⟩) = freeM A L ks := by
        rw [← Hfold.out, drop_cons hx]; rfl
      have Hnext : Hid _ := hnext
      clear h2' hx hkq h hF hk hnext
      generalize q.w = W3 at *
      clear q
      have y0 := hc.c0
      have y1 := hc.c1
      have y2 := hc.c2
      have y3 := hc.c3
      go_wp2_with fail
      obtain ⟨W4, hW4⟩ : ∃ W4, W4 = W3.alloc (.cells (keyCells xd xa xb xs) 23) := ⟨_, rfl⟩
      obtain ⟨kb', hkb'⟩ : ∃ kb', kb' = W3.heap.size := ⟨_, rfl⟩
      have hkb : W4.heap[kb']? = some (.cells (keyCells xd xa xb xs) 23 (0, 0)) := by rw [hW4, hkb']; exact heap_alloc_at _ _
      have hS4 : StN W4 I S.2.1 S.2.2 F := by rw [hW4]; exact hS.ext ((Ch.refl NoS W3).alloc _)
      have hfin4 : ∀ q : Ch F W4, ∃ q' : Ch F w, q.w = q'.w := fun q => hfinq (((Ch.refl F W3).alloc _).onto hW4 q (fun _ _ h => h))
      have hF4 : ∀ b, W4.heap.size ≤ b → F b := fun b hb => hFq b (by rw [hW4] at hb; simp at hb; omega)
      rw [← hkb', ← hW4]
      clear hkb' hW4 hS hfinq hFq y0 y1 y2 y3 hc
      clear W3
      have HSN : Hid _ := hS4
      obtain ⟨⟨⟨fv, l, g1, g2, g3⟩, g4, g5, g6⟩, g7⟩ := hS4
      have hm : aget S.2.2 ⟨xd, xa, xb, xs⟩ = (aget l ⟨xd, xa, xb, xs⟩).map Slot.cl := by rw [← g2]; exact aget_map (fun z => Slot.cl z) l _
      have Hm : Hid _ := hm
      clear hm
      have k0 : ∀ q : Ext W4, q.w.cell? ⟨kb', 0, none⟩ = some (.int .i64 xd) := fun q => cell_at 0 (q.blkE hkb); have k1 : ∀ q : Ext W4, q.w.cell? ⟨kb', 1, none⟩ = some (.int .i64 xa) := fun q => cell_at 1 (q.blkE hkb); have k2 : ∀ q : Ext W4, q.w.cell? ⟨kb', 2, none⟩ = some (.int .i64 xb) := fun q => cell_at 2 (q.blkE hkb); have k3 : ∀ q : Ext W4, q.w.cell? ⟨kb', 3, none⟩ = some (.string xs) := fun q => cell_at 3 (q.blkE hkb)
      have m1 : ∀ p : Ext W4, p.w.cell? ⟨I.s, 1, none⟩ = some (.map (some I.m)) := fun p => cell_at 1 (g1.ext p).st
      have hMp : ∀ p : Ext W4, MapAt keyV slotV p.w I.m l := fun p => (g1.ext p).mp
      cases hz : aget l ⟨xd, xa, xb, xs⟩ with
      | none =>
        have hfr : fr1 S ⟨xd, xa, xb, xs⟩ = S := by unfold fr1; rw [Hm.out, hz]; rfl
        have Hfr : Hid _ := hfr
        clear hfr
        refine wp_region_ch NoS (by kernel_rfl) (by kernel_rfl) (fun p hp => ?_); clear hp; (repeat (first | (refine wpMix_skip rfl rfl ?_) | (refine wpMix_step (fun K hK => ?_); go_simp; (with_reducible (refine hK _ _ ?_)); clear hK K))); refine wpMix_look (K := key_law) (encV := slotV) (k := ⟨xd, xa, xb, xs⟩) (l := l) (c := false) rfl _ _ rfl Try.underlying56 z178 rfl rfl (fun w' ⟨q, hq⟩ => by rw [hq]; exact hMp q) (v := .pointer none) (by rw [hz]; rfl) ?_; (repeat (first | (refine wpMix_skip rfl rfl ?_) | (refine wpMix_step (fun K hK => ?_); go_simp; (with_reducible (refine hK _ _ ?_)); clear hK K))); refine wpMix_nil ?_
        have Hq : Hid (∃ q' : Ch F w, p.w = q'.w) := hfin4 (p.up F)
        have HS5 : Hid (StN p.w I S.2.1 S.2.2 F) := HSN.out.ext p
        clear hz hfin4 hF4
        go_wp2_with fail
        go_roundw
        case rel =>
          obtain ⟨q', hq'⟩ := Hq.out
          have h3 := Hnext.out
          rw [Hfr.out] at h3
          exact ⟨q', i + 1, S, hq', by go_num, rfl, by omega, by omega, hq' ▸ HS5.out, h3⟩
        case measure => simp [intOf]; omega
      | some z =>
        have hzS : ∀ p : Ext W4, SlotIn p.w z := fun p => (g1.ext p).slots _ (aget_mem hz)
        refine wp_region_ch NoS (by kernel_rfl) (by kernel_rfl) (fun p hp => ?_); clear hp; (repeat (first | (refine wpMix_skip rfl rfl ?_) | (refine wpMix_step (fun K hK => ?_); go_simp; (with_reducible (refine hK _ _ ?_)); clear hK K))); refine wpMix_look (K := key_law) (encV := slotV) (k := ⟨xd, xa, xb, xs⟩) (l := l) (c := false) rfl _ _ rfl Try.underlying56 z178 rfl rfl (fun w' ⟨q, hq⟩ => by rw [hq]; exact hMp q) (v := .pointer (some ⟨z.x, 0, none⟩)) (by rw [hz]; rfl) ?_; (repeat (first | (refine wpMix_skip rfl rfl ?_) | (refine wpMix_step (fun K hK => ?_); go_simp; (with_reducible (refine hK _ _ ?_)); clear hK K))); refine wpMix_nil ?_
        have hzp := hzS p
        have hkp := p.blkE hkb
        have HS5 : Hid (StN p.w I S.2.1 S.2.2 F) := HSN.out.ext p
        have hfin5 : ∀ q : Ch F p.w, ∃ q' : Ch F w, q.w = q'.w := fun q => hfin4 ((p.up F).then q (fun _ _ h => h))
        have hF5 : ∀ b, p.w.heap.size ≤ b → F b := fun b hb => hF4 b (by have := p.size; omega)
        have hfr : fr1 S ⟨xd, xa, xb, xs⟩ = if goneB z.wd && freeB z.wd then (S.1 + 1, dropM S.2.1 S.2.2 ⟨xd, xa, xb, xs⟩) else S := by unfold fr1; rw [Hm.out, hz]; rfl
        have hag : aget S.2.2 ⟨xd, xa, xb, xs⟩ = some z.cl := by rw [Hm.out, hz]; rfl
        have Hfr : Hid _ := hfr
        have Hag : Hid _ := hag
        clear hfr hag k0 k1 k2 k3 m1 hMp hzS hfin4 hF4 hz g1 hkb HSN
        generalize p.w = W5 at *
        clear p W4
        have k0 : ∀ p : Ext W5, p.w.cell? ⟨kb', 0, none⟩ = some (.int .i64 xd) := fun p => cell_at 0 (p.blkE hkp)
        have k1 : ∀ p : Ext W5, p.w.cell? ⟨kb', 1, none⟩ = some (.int .i64 xa) := fun p => cell_at 1 (p.blkE hkp)
        have k2 : ∀ p : Ext W5, p.w.cell? ⟨kb', 2, none⟩ = some (.int .i64 xb) := fun p => cell_at 2 (p.blkE hkp)
        have k3 : ∀ p : Ext W5, p.w.cell? ⟨kb', 3, none⟩ = some (.string xs) := fun p => cell_at 3 (p.blkE hkp)
        cases hgo : goneB z.wd
        · have hf2 : fr1 S ⟨xd, xa, xb, xs⟩ = S := by rw [Hfr.out, hgo]; rfl
          have Hf2 : Hid _ := hf2
          clear hf2
          go_wp2_with (go_at_call 129; go_must (have hcc := slotAbsent_any _ _ _ _ _ _ _ hzp; rw [hgo] at hcc; refine hcc.mono ?_); clear hcc; rintro e w' ⟨rfl, p, rfl⟩)
          have Hq : Hid (∃ q' : Ch F w, p.w = q'.w) := hfin5 (p.up F)
          have HS6 : Hid (StN p.w I S.2.1 S.2.2 F) := HS5.out.ext p
          go_roundw
          case rel =>
            obtain ⟨q', hq'⟩ := Hq.out
            have h3 := Hnext.out
            rw [Hf2.out] at h3
            exact ⟨q', i + 1, S, hq', by go_num, rfl, by omega, by omega, hq' ▸ HS6.out, h3⟩
          case measure => simp [intOf]; omega
        · cases hfe : freeB z.wd
          · have hf2 : fr1 S ⟨xd, xa, xb, xs⟩ = S := by rw [Hfr.out, hgo, hfe]; rfl
            have Hf2 : Hid _ := hf2
            clear hf2
            go_wp2_with (first
              | (go_at_call 129; go_must (have hcc := slotAbsent_any _ _ _ _ _ _ _ hzp; rw [hgo] at hcc; refine hcc.mono ?_); clear hcc; rintro e w' ⟨rfl, p, rfl⟩)
              | (go_at_call 121; go_must (have hcc := locked_any _ _ _ _ _ _ _ (show SlotIn p.w z from p.blkE hzp); rw [hfe] at hcc; refine hcc.mono ?_); clear hcc; rintro e w' ⟨rfl, rfl⟩))
            have Hq : Hid (∃ q' : Ch F w, p.w = q'.w) := hfin5 (p.up F)
            have HS6 : Hid (StN p.w I S.2.1 S.2.2 F) := HS5.out.ext p
            go_roundw
            case rel =>
              obtain ⟨q', hq'⟩ := Hq.out
              have h3 := Hnext.out
              rw [Hf2.out] at h3
              exact ⟨q', i + 1, S, hq', by go_num, rfl, by omega, by omega, hq' ▸ HS6.out, h3⟩
            case measure => simp [intOf]; omega
          · have hf2 : fr1 S ⟨xd, xa, xb, xs⟩ = (S.1 + 1, dropM S.2.1 S.2.2 ⟨xd, xa, xb, xs⟩) := by rw [Hfr.out, hgo, hfe]; rfl
            have Hf2 : Hid _ := hf2
            clear hf2
            go_wp2_with (first
              | (go_at_call 129; go_must (have hcc := slotAbsent_any _ _ _ _ _ _ _ hzp; rw [hgo] at hcc; refine hcc.mono ?_); clear hcc; rintro e w' ⟨rfl, p, rfl⟩)
              | (go_at_call 121; go_must (have hcc := locked_any _ _ _ _ _ _ _ (show SlotIn p.w z from p.blkE hzp); rw [hfe] at hcc; refine hcc.mono ?_); clear hcc; rintro e w' ⟨rfl, rfl⟩)
              | (go_at_call 130; go_must (refine (drop_m I S.2.1 S.2.2 F ⟨xd, xa, xb, xs⟩ p.w (HS5.out.ext p) (fun b hb => hF5 b (by have := p.size; omega)) z.cl Hag.out).mono ?_); rintro e w' ⟨rfl, r, rfl, hN7⟩))
            have Hq : Hid (∃ q' : Ch F w, r.w = q'.w) := hfin5 ((p.up F).then r (fun _ _ h => h))
            have HS6 : Hid _ := hN7
            go_roundw
            case rel =>
              obtain ⟨q', hq'⟩ := Hq.out
              have h3 := Hnext.out
              rw [Hf2.out] at h3
              have h6 := HS6.out
              exact ⟨q', i + 1, (S.1 + 1, dropM S.2.1 S.2.2 ⟨xd, xa, xb, xs⟩), hq', by go_num, by go_num, by simp; omega, by omega, hq' ▸ h6, h3⟩
            case measure => simp [intOf]; omega
    · go_wp2_with fail
      go_ret
      have h3 := Hfold.out
      rw [List.drop_eq_nil_of_le (by have := HN.out; omega)] at h3
      have e : freeM A L ks = S := h3.symm
      rw [e]
      exact ⟨rfl, q, rfl, hS⟩
theorem free_m (I : Ids) (A : ArenaSt) (L : List (Key × Cl)) (F : Nat → Prop) (fa : Option Addr) (n cap : Nat) (ks : List Key) (w : World) (h : StN w I A L F) (hF : ∀ b, w.heap.size ≤ b → F b)
    (hk : KeysIn w fa ks) (hfa : ∀ a, fa = some a → ¬ F a.block) (hn : n = ks.length) (hb : n < 4611686018427387904) :
    Calls Try.prog 31 #[.pointer (some ⟨I.s, 0, none⟩), .slice fa n cap] w fun e w' => e = .returned (.int .i64 (freeM A L ks).1) ∧ ∃ p : Ch F w, w' = p.w ∧ StN p.w I (freeM A L ks).2.1 (freeM A L ks).2.2 F :=
  free_mw I A L F fa n cap ks w h hF hk (.inr hfa) hn hb
end Go.Proofs.Cob
