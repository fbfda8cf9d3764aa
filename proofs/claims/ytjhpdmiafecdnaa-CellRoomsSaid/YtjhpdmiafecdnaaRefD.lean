/-
  The reference's store (layer 9): Still, Install.
-/
import Derived.Test.YtjhpdmiafecdnaaRefC
namespace Go.Proofs.Cob
open Go Go.RowKit Go.Cob
set_option linter.unusedSimpArgs false
set_option linter.unusedVariables false

def refStill (cs : List RC) (k : Key) (who vw : Int) (has : Bool) : Bool :=
  match getR cs k with
  | none => !has
  | some (_, c) => if c.locked && (c.who != who) then false else if c.has != has then false else (c.wd == vw) || (!has && (c.wd == 0))

set_option maxRecDepth 4000 in
set_option maxHeartbeats 3200000 in
theorem refStill_any (r : Nat) (v : Value) (room : Int) (cs : List RC) (k : Key) (who vw : Int) (vs : ByteArray) (has : Bool) (w : World) (h : RefAt w r v room cs) (hb : cs.length < 4611686018427387904) :
    Calls Try.prog 127 #[.pointer (some ⟨r, 0, none⟩), keyV k, .int .i64 who, seenV vw vs has] w fun e w' => e = .returned (.bool (refStill cs k who vw has)) ∧ ∃ p : Ext w, w' = p.w := by
  obtain ⟨kd, ka, kb, ks'⟩ := k
  obtain ⟨W, hW⟩ : ∃ W, W = (w.alloc (.cells (keyCells kd ka kb ks') 23)).alloc (.cells #[.int .u64 vw, .string vs, .bool has] 37) := ⟨_, rfl⟩
  have hR' : RefAt W r v room cs := by rw [hW]; exact (h.ext ((Ch.refl NoS w).alloc (.cells (keyCells kd ka kb ks') 23))).ext ((Ch.refl NoS _).alloc _)
  have hob : W.heap[w.heap.size + 1]? = some (.cells #[.int .u64 vw, .string vs, .bool has] 37 (0, 0)) := by rw [hW]; exact heap_alloc_eq _ (by simp)
  have hkb : W.heap[w.heap.size]? = some (.cells (keyCells kd ka kb ks') 23 (0, 0)) := by rw [hW]; exact heap_alloc_blk _ (heap_alloc_at _ _)
  have fin : ∀ p : Ext W, ∃ q : Ext w, p.w = q.w := fun p => ⟨(((Ch.refl NoS w).alloc _).alloc _).onto hW p (fun b hb h => h), rfl⟩
  have k0 := cell_at 0 hkb
  have k1 := cell_at 1 hkb
  have k2 := cell_at 2 hkb
  have k3 := cell_at 3 hkb
  clear h hkb
  cases hg : getR cs ⟨kd, ka, kb, ks'⟩ with
  | none =>
    have hix := getR_none hg
    have e : refStill cs ⟨kd, ka, kb, ks'⟩ who vw has = !has := by unfold refStill; rw [hg]
    rw [e]
    clear e hg
    go_enter Try.func127, Try.ntmps127
    go_wp2_with fail
    rw [← hW]
    clear hW
    go_wp2_with ((go_at_call 98; go_must (have hcc := find_any r v room cs ⟨kd, ka, kb, ks'⟩ _ hR' hb; rw [hix] at hcc; refine hcc.mono ?_); clear hcc; rintro e w' ⟨rfl, p, rfl⟩); have o0 := cell_at 0 (p.blkE hob); have o2 := cell_at 2 (p.blkE hob))
    go_ret
    exact ⟨rfl, fin p⟩
  | some ic =>
    obtain ⟨i, c⟩ := ic
    obtain ⟨hix, hx, hck⟩ := getR_some hg
    obtain ⟨⟨xd, xa, xb, xs⟩, xw, xh, xt, xl, xo⟩ := c
    have e : refStill cs ⟨kd, ka, kb, ks'⟩ who vw has = (if xl && (xo != who) then false else if xh != has then false else (xw == vw) || (!has && (xw == 0))) := by unfold refStill; rw [hg]
    have He : Hid _ := e
    have hi : i < cs.length := (List.getElem?_eq_some_iff.1 hx).1
    clear e hg hck
    have Hx : Hid _ := hx
    clear hx
    go_enter Try.func127, Try.ntmps127
    go_wp2_with fail
    rw [← hW]
    clear hW
    cases xl <;> cases xh <;> cases has
    all_goals
      cases h1 : (xo != who)
      all_goals
        cases h2 : (xw == vw)
        all_goals
          go_wp2_with ((go_at_call 98; go_must (have hcc := find_any r v room cs ⟨kd, ka, kb, ks'⟩ _ hR' hb; rw [hix] at hcc; refine hcc.mono ?_); clear hcc; rintro e w' ⟨rfl, p, rfl⟩); have o0 := cell_at 0 (p.blkE hob); have o2 := cell_at 2 (p.blkE hob); have ol := lt_of_blk (p.blkE hob); have on : w.heap.size + 1 ≠ p.w.heap.size := Nat.ne_of_lt ol; have hR1 := hR'.ext p; have hx := Hx.out; obtain ⟨g, cap, hv, hc, hfz⟩ := (hR1).get hx; have hst := (hR1).st; rw [hv] at hst; have s1 := cell_at 1 hst; have x0 := hc.c0; have x1 := hc.c1; have x2 := hc.c2; have x3 := hc.c3; have x4 := hc.c4; have x5 := hc.c5; have x6 := hc.c6; have x7 := hc.c7; have x8 := hc.c8; clear hx)
          go_ret
          refine ⟨?_, fin (p.alloc _)⟩
          rw [He.out]
          first | rfl | (rw [h1, h2]; rfl) | (simp [h1, h2]; done)
end Go.Proofs.Cob
