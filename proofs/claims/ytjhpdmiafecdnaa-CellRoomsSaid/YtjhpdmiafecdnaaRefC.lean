/-
  The reference's store (layer 9): Read, Holds, Still.
-/
import Derived.Test.YtjhpdmiafecdnaaRefB
namespace Go.Proofs.Cob
open Go Go.RowKit Go.Cob
set_option linter.unusedSimpArgs false
set_option linter.unusedVariables false

theorem cell_alloc_ne {w : World} {o : Obj} {b i : Nat} (h : b ≠ w.heap.size) : (w.alloc o).cell? ⟨b, i, none⟩ = w.cell? ⟨b, i, none⟩ := by
  refine World.cell?_of_block (a := ⟨b, i, none⟩) ?_
  show (w.heap.push o)[b]? = _
  rw [Array.getElem?_push, if_neg h]
def getR (cs : List RC) (k : Key) : Option (Nat × RC) := (findR cs k).bind fun i => (cs[i]?).map fun c => (i, c)
theorem getR_some {cs : List RC} {k : Key} {i : Nat} {c : RC} (h : getR cs k = some (i, c)) : idxR cs k = i ∧ cs[i]? = some c ∧ c.k = k := by
  unfold getR at h
  cases hf : findR cs k with
  | none => rw [hf] at h; cases h
  | some j =>
    obtain ⟨c', hc', hk⟩ := findR_some hf
    rw [hf] at h
    simp only [Option.bind_some, hc', Option.map_some, Option.some.injEq, Prod.mk.injEq] at h
    obtain ⟨rfl, rfl⟩ := h
    exact ⟨by unfold idxR; rw [hf], hc', hk⟩
theorem getR_none {cs : List RC} {k : Key} (h : getR cs k = none) : idxR cs k = -1 := by
  unfold getR at h
  cases hf : findR cs k with
  | none => unfold idxR; rw [hf]
  | some j =>
    obtain ⟨c', hc', hk⟩ := findR_some hf
    rw [hf] at h
    simp [hc'] at h

def refRead (cs : List RC) (k : Key) : Value × Int :=
  match getR cs k with
  | none => (seenV 0 ⟨#[]⟩ false, 0)
  | some (_, c) => if c.locked then (seenV 0 ⟨#[]⟩ false, 60) else (seenV c.wd c.text c.has, 0)

set_option maxRecDepth 4000 in
set_option maxHeartbeats 1600000 in
theorem refRead_any (r : Nat) (v : Value) (room : Int) (cs : List RC) (k : Key) (w : World) (h : RefAt w r v room cs) (hb : cs.length < 4611686018427387904) :
    Calls Try.prog 123 #[.pointer (some ⟨r, 0, none⟩), keyV k] w fun e w' => e = .returned (.tuple #[(refRead cs k).1, .int .i64 (refRead cs k).2]) ∧ ∃ p : Ext w, w' = p.w := by
  obtain ⟨kd, ka, kb, ks'⟩ := k
  have hR := (h.ext ((Ch.refl NoS w).alloc (.cells (keyCells kd ka kb ks') 23))).ext ((Ch.refl NoS _).alloc (.cells #[.int .u64 0, .string ⟨#[]⟩, .bool false] 37))
  have hR' : RefAt ((w.alloc (.cells (keyCells kd ka kb ks') 23)).alloc (.cells #[.int .u64 0, .string ⟨#[]⟩, .bool false] 37)) r v room cs := hR
  have hob : ((w.alloc (.cells (keyCells kd ka kb ks') 23)).alloc (.cells #[.int .u64 0, .string ⟨#[]⟩, .bool false] 37)).heap[w.heap.size + 1]? = some (.cells #[.int .u64 0, .string ⟨#[]⟩, .bool false] 37 (0, 0)) := heap_alloc_eq _ (by simp)
  have fin : ∀ p : Ch (fun b => w.heap.size ≤ b) ((w.alloc (.cells (keyCells kd ka kb ks') 23)).alloc (.cells #[.int .u64 0, .string ⟨#[]⟩, .bool false] 37)), ∃ q : Ext w, p.w = q.w := fun p =>
    ⟨(((Ch.refl NoS w).alloc _).alloc _).then p (fun b hb h => absurd h (by omega)), rfl⟩
  clear h hR
  cases hg : getR cs ⟨kd, ka, kb, ks'⟩ with
  | none =>
    have hix := getR_none hg
    have e : refRead cs ⟨kd, ka, kb, ks'⟩ = (seenV 0 ⟨#[]⟩ false, 0) := by unfold refRead; rw [hg]
    rw [e]
    clear e hg
    go_enter Try.func123, Try.ntmps123
    go_wp2_with ((go_at_call 98; go_must (have hcc := find_any r v room cs ⟨kd, ka, kb, ks'⟩ _ hR' hb; rw [hix] at hcc; refine hcc.mono ?_); clear hcc; rintro e w' ⟨rfl, p, rfl⟩); have hR1 := hR'.ext p; have hob1 := p.blkE hob; have fin1 : ∀ q : Ch (fun b => w.heap.size ≤ b) p.w, ∃ r : Ext w, q.w = r.w := fun q => fin ((p.up _).then q (fun _ _ h => h)); have hsz1 : w.heap.size + 1 < p.w.heap.size := lt_of_blk hob1; clear hR' hob fin; generalize p.w = W1 at hR1 hob1 fin1 hsz1 ⊢; clear p; have nc0 := cell_at 0 hob1; have nc1 := cell_at 1 hob1; have nc2 := cell_at 2 hob1; have nf0 := frozen_at 0 hob1; have nf1 := frozen_at 1 hob1; have nf2 := frozen_at 2 hob1)
    refine bodyPost_ret (v := .tuple #[seenV 0 ⟨#[]⟩ false, .int .i64 0]) (by simp [results, Try.results123, go_sem, nc0, nc1, nc2, nf0, nf1, nf2]) rfl ⟨rfl, ?_⟩
    exact fin1 ((((Ch.refl _ W1).set (w.heap.size + 1) 0 _ (fun _ => by omega)).set (w.heap.size + 1) 1 _ (fun _ => by omega)).set (w.heap.size + 1) 2 _ (fun _ => by omega))
  | some ic =>
    obtain ⟨i, c⟩ := ic
    obtain ⟨hix, hx, hck⟩ := getR_some hg
    obtain ⟨⟨xd, xa, xb, xs⟩, xw, xh, xt, xl, xo⟩ := c
    clear hck
    have hi : i < cs.length := (List.getElem?_eq_some_iff.1 hx).1
    have hne : ∀ i, w.heap.size + 1 ≠ i ∨ True := fun _ => .inr trivial
    cases xl
    · have e : refRead cs ⟨kd, ka, kb, ks'⟩ = (seenV xw xt xh, 0) := by unfold refRead; rw [hg]; rfl
      rw [e]
      clear e hg hne
      have Hx : Hid _ := hx
      clear hx
      go_enter Try.func123, Try.ntmps123
      go_wp2_with ((go_at_call 98; go_must (have hcc := find_any r v room cs ⟨kd, ka, kb, ks'⟩ _ hR' hb; rw [hix] at hcc; refine hcc.mono ?_); clear hcc; rintro e w' ⟨rfl, p, rfl⟩); have hR1 := hR'.ext p; have hob1 := p.blkE hob; have fin1 : ∀ q : Ch (fun b => w.heap.size ≤ b) p.w, ∃ r : Ext w, q.w = r.w := fun q => fin ((p.up _).then q (fun _ _ h => h)); have hsz1 : w.heap.size + 1 < p.w.heap.size := lt_of_blk hob1; clear hR' hob fin; generalize p.w = W1 at hR1 hob1 fin1 hsz1 ⊢; clear p; have nc0 := cell_at 0 hob1; have nc1 := cell_at 1 hob1; have nc2 := cell_at 2 hob1; have nf0 := frozen_at 0 hob1; have nf1 := frozen_at 1 hob1; have nf2 := frozen_at 2 hob1; have hx := Hx.out; obtain ⟨g, cap, hv, hc, hfz⟩ := (hR1).get hx; have hst := (hR1).st; rw [hv] at hst; have s1 := cell_at 1 hst; have x0 := hc.c0; have x1 := hc.c1; have x2 := hc.c2; have x3 := hc.c3; have x4 := hc.c4; have x5 := hc.c5; have x6 := hc.c6; have x7 := hc.c7; have x8 := hc.c8; clear hx)
      have hne1 : w.heap.size + 1 ≠ W1.heap.size := by omega
      refine bodyPost_ret (v := .tuple #[seenV xw xt xh, .int .i64 0]) (by simp [results, Try.results123, go_sem, nc0, nc1, nc2, nf0, nf1, nf2, cell_alloc_ne, hne1]) rfl ⟨rfl, ?_⟩
      exact fin1 (((((Ch.refl _ W1).set (w.heap.size + 1) 0 _ (fun _ => by omega)).set (w.heap.size + 1) 1 _ (fun _ => by omega)).set (w.heap.size + 1) 2 _ (fun _ => by omega)).alloc _)
    · have e : refRead cs ⟨kd, ka, kb, ks'⟩ = (seenV 0 ⟨#[]⟩ false, 60) := by unfold refRead; rw [hg]; rfl
      rw [e]
      clear e hg hne
      have Hx : Hid _ := hx
      clear hx
      go_enter Try.func123, Try.ntmps123
      go_wp2_with ((go_at_call 98; go_must (have hcc := find_any r v room cs ⟨kd, ka, kb, ks'⟩ _ hR' hb; rw [hix] at hcc; refine hcc.mono ?_); clear hcc; rintro e w' ⟨rfl, p, rfl⟩); have hR1 := hR'.ext p; have hob1 := p.blkE hob; have fin1 : ∀ q : Ch (fun b => w.heap.size ≤ b) p.w, ∃ r : Ext w, q.w = r.w := fun q => fin ((p.up _).then q (fun _ _ h => h)); have hsz1 : w.heap.size + 1 < p.w.heap.size := lt_of_blk hob1; clear hR' hob fin; generalize p.w = W1 at hR1 hob1 fin1 hsz1 ⊢; clear p; have nc0 := cell_at 0 hob1; have nc1 := cell_at 1 hob1; have nc2 := cell_at 2 hob1; have nf0 := frozen_at 0 hob1; have nf1 := frozen_at 1 hob1; have nf2 := frozen_at 2 hob1; have hx := Hx.out; obtain ⟨g, cap, hv, hc, hfz⟩ := (hR1).get hx; have hst := (hR1).st; rw [hv] at hst; have s1 := cell_at 1 hst; have x0 := hc.c0; have x1 := hc.c1; have x2 := hc.c2; have x3 := hc.c3; have x4 := hc.c4; have x5 := hc.c5; have x6 := hc.c6; have x7 := hc.c7; have x8 := hc.c8; clear hx)
      have hne1 : w.heap.size + 1 ≠ W1.heap.size := by omega
      refine bodyPost_ret (v := .tuple #[seenV 0 ⟨#[]⟩ false, .int .i64 60]) (by simp [results, Try.results123, go_sem, nc0, nc1, nc2, nf0, nf1, nf2, cell_alloc_ne, hne1]) rfl ⟨rfl, ?_⟩
      exact fin1 (((((Ch.refl _ W1).set (w.heap.size + 1) 0 _ (fun _ => by omega)).set (w.heap.size + 1) 1 _ (fun _ => by omega)).set (w.heap.size + 1) 2 _ (fun _ => by omega)).alloc _)

/-! ### Holds -/
def refHolds (cs : List RC) (k : Key) (who : Int) : Bool := match getR cs k with | none => false | some (_, c) => c.locked && (c.who == who)

set_option maxRecDepth 4000 in
set_option maxHeartbeats 1600000 in
theorem refHolds_any (r : Nat) (v : Value) (room : Int) (cs : List RC) (k : Key) (who : Int) (w : World) (h : RefAt w r v room cs) (hb : cs.length < 4611686018427387904) :
    Calls Try.prog 194 #[.pointer (some ⟨r, 0, none⟩), keyV k, .int .i64 who] w fun e w' => e = .returned (.bool (refHolds cs k who)) ∧ ∃ p : Ext w, w' = p.w := by
  obtain ⟨kd, ka, kb, ks'⟩ := k
  have hR' : RefAt (w.alloc (.cells (keyCells kd ka kb ks') 23)) r v room cs := h.ext ((Ch.refl NoS w).alloc _)
  have fin : ∀ p : Ext (w.alloc (.cells (keyCells kd ka kb ks') 23)), ∃ q : Ext w, p.w = q.w := fun p => ⟨((Ch.refl NoS w).alloc _).thenE p, rfl⟩
  clear h
  cases hg : getR cs ⟨kd, ka, kb, ks'⟩ with
  | none =>
    have hix := getR_none hg
    have e : refHolds cs ⟨kd, ka, kb, ks'⟩ who = false := by unfold refHolds; rw [hg]
    rw [e]
    clear e hg
    go_enter Try.func194, Try.ntmps194
    go_wp2_with (go_at_call 98; go_must (have hcc := find_any r v room cs ⟨kd, ka, kb, ks'⟩ _ hR' hb; rw [hix] at hcc; refine hcc.mono ?_); clear hcc; rintro e w' ⟨rfl, p, rfl⟩)
    go_ret
    exact ⟨rfl, fin p⟩
  | some ic =>
    obtain ⟨i, c⟩ := ic
    obtain ⟨hix, hx, hck⟩ := getR_some hg
    obtain ⟨⟨xd, xa, xb, xs⟩, xw, xh, xt, xl, xo⟩ := c
    have e : refHolds cs ⟨kd, ka, kb, ks'⟩ who = (xl && (xo == who)) := by unfold refHolds; rw [hg]
    rw [e]
    have hi : i < cs.length := (List.getElem?_eq_some_iff.1 hx).1
    clear e hg hck
    have Hx : Hid _ := hx
    clear hx
    cases xl
    · go_enter Try.func194, Try.ntmps194
      go_wp2_with ((go_at_call 98; go_must (have hcc := find_any r v room cs ⟨kd, ka, kb, ks'⟩ _ hR' hb; rw [hix] at hcc; refine hcc.mono ?_); clear hcc; rintro e w' ⟨rfl, p, rfl⟩); have hR1 := hR'.ext p; have hx := Hx.out; obtain ⟨g, cap, hv, hc, hfz⟩ := (hR1).get hx; have hst := (hR1).st; rw [hv] at hst; have s1 := cell_at 1 hst; have x0 := hc.c0; have x1 := hc.c1; have x2 := hc.c2; have x3 := hc.c3; have x4 := hc.c4; have x5 := hc.c5; have x6 := hc.c6; have x7 := hc.c7; have x8 := hc.c8; clear hx)
      go_ret
      exact ⟨rfl, fin p⟩
    · go_enter Try.func194, Try.ntmps194
      go_wp2_with ((go_at_call 98; go_must (have hcc := find_any r v room cs ⟨kd, ka, kb, ks'⟩ _ hR' hb; rw [hix] at hcc; refine hcc.mono ?_); clear hcc; rintro e w' ⟨rfl, p, rfl⟩); have hR1 := hR'.ext p; have hx := Hx.out; obtain ⟨g, cap, hv, hc, hfz⟩ := (hR1).get hx; have hst := (hR1).st; rw [hv] at hst; have s1 := cell_at 1 hst; have x0 := hc.c0; have x1 := hc.c1; have x2 := hc.c2; have x3 := hc.c3; have x4 := hc.c4; have x5 := hc.c5; have x6 := hc.c6; have x7 := hc.c7; have x8 := hc.c8; clear hx)
      go_ret
      exact ⟨rfl, fin p⟩
end Go.Proofs.Cob
