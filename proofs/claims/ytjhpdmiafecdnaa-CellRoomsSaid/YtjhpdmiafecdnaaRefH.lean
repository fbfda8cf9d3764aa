/-
  The reference's store (layer 9): Free, of one key.
-/
import Derived.Test.YtjhpdmiafecdnaaRefG
namespace Go.Proofs.Cob
open Go Go.RowKit Go.Cob
set_option linter.unusedSimpArgs false
set_option linter.unusedVariables false

def refFree (cs : List RC) (k : Key) : Int × List RC :=
  match getR cs k with
  | none => (0, cs)
  | some (i, c) => if c.has || c.locked then (0, cs) else (1, cs.eraseIdx i)

set_option maxRecDepth 4000 in
set_option maxHeartbeats 3200000 in
theorem refFree_any (r : Nat) (room : Int) (cs : List RC) (G : Nat → Prop) (k : Key) (w : World) (h : RefM w r room cs G) (hG : ∀ b, w.heap.size ≤ b → G b) (hb : cs.length < 1000000000000) :
    Calls Try.prog 128 #[.pointer (some ⟨r, 0, none⟩), keyV k] w fun e w' => e = .returned (.int .i64 (refFree cs k).1) ∧ ∃ p : Ch G w, w' = p.w ∧ RefM p.w r room (refFree cs k).2 G := by
  obtain ⟨kd, ka, kb, ks'⟩ := k
  obtain ⟨⟨v, h1, h2⟩, h3⟩ := h
  have hR' : RefAt (w.alloc (.cells (keyCells kd ka kb ks') 23)) r v room cs := h1.ext ((Ch.refl NoS w).alloc _)
  have fin : ∀ p : Ch G (w.alloc (.cells (keyCells kd ka kb ks') 23)), ∃ q : Ch G w, p.w = q.w := fun p => ⟨((Ch.refl _ w).alloc _).then p (fun b hb h => h), rfl⟩
  have hG1 : ∀ b, (w.alloc (.cells (keyCells kd ka kb ks') 23)).heap.size ≤ b → G b := fun b hb => hG b (by simp at hb; omega)
  cases hg : getR cs ⟨kd, ka, kb, ks'⟩ with
  | none =>
    have hix := getR_none hg
    have e : refFree cs ⟨kd, ka, kb, ks'⟩ = (0, cs) := by unfold refFree; rw [hg]
    rw [e]
    clear e hg h1
    go_enter Try.func128, Try.ntmps128
    go_wp2_with (go_at_call 98; go_must (have hcc := find_any r v room cs ⟨kd, ka, kb, ks'⟩ _ hR' (by omega); rw [hix] at hcc; refine hcc.mono ?_); clear hcc; rintro e w' ⟨rfl, p, rfl⟩)
    go_ret
    obtain ⟨s, hs⟩ := fin (p.up G)
    exact ⟨rfl, s, hs, by rw [← show p.w = s.w from hs]; exact ⟨⟨v, hR'.ext p, h2⟩, h3⟩⟩
  | some ic =>
    obtain ⟨i, c⟩ := ic
    obtain ⟨hix, hx, hck⟩ := getR_some hg
    have e : refFree cs ⟨kd, ka, kb, ks'⟩ = if c.has || c.locked then (0, cs) else (1, cs.eraseIdx i) := by unfold refFree; rw [hg]
    rw [e]
    have hi : i < cs.length := (List.getElem?_eq_some_iff.1 hx).1
    obtain ⟨⟨xd, xa, xb, xs⟩, xw, xh, xt, xl, xo⟩ := c
    have Hx : Hid _ := hx
    clear e hg hck hx h1
    cases xh <;> cases xl
    case some.false.false =>
      simp only [Bool.or_self, Bool.false_eq_true, if_false]
      go_enter Try.func128, Try.ntmps128
      go_wp2_with fail
      go_at_call 98
      have hcc := find_any r v room cs ⟨kd, ka, kb, ks'⟩ _ hR' (by omega)
      rw [hix] at hcc
      refine hcc.mono ?_
      clear hcc
      rintro e w' ⟨rfl, p, rfl⟩
      have hR2 := hR'.ext p
      have fin2 : ∀ s : Ch G p.w, ∃ s' : Ch G w, s.w = s'.w := fun s => fin ((p.up G).then s (fun _ _ h => h))
      have hG2 : ∀ b, p.w.heap.size ≤ b → G b := fun b hb => hG1 b (by have := p.size; omega)
      clear hR' fin hG1
      generalize p.w = W2 at *
      clear p
      obtain ⟨g, cap, hv, hc, hfz⟩ := hR2.get Hx.out
      have HM : Hid (RefM W2 r room cs G) := ⟨⟨v, hR2, h2⟩, h3⟩
      rw [hv] at hR2
      have s1 := cell_at 1 hR2.st
      have x5 := hc.c5
      have x7 := hc.c7
      clear hR2 hc hv
      go_wp2_with (go_at_call 195; go_must (refine (refDrop_any r room cs G i _ HM.out hG2 hb hi).mono ?_); rintro e w' ⟨rfl, q, rfl, hM⟩; have HM2 : Hid _ := hM; clear hM)
      go_ret
      obtain ⟨s, hs⟩ := fin2 q
      exact ⟨rfl, s, hs, hs ▸ HM2.out⟩
    all_goals
      simp only [Bool.or_self, Bool.or_true, Bool.true_or, Bool.or_false, if_true]
      go_enter Try.func128, Try.ntmps128
      go_wp2_with fail
      go_at_call 98
      have hcc := find_any r v room cs ⟨kd, ka, kb, ks'⟩ _ hR' (by omega)
      rw [hix] at hcc
      refine hcc.mono ?_
      clear hcc
      rintro e w' ⟨rfl, p, rfl⟩
      have hR2 := hR'.ext p
      have fin2 : ∀ s : Ch G p.w, ∃ s' : Ch G w, s.w = s'.w := fun s => fin ((p.up G).then s (fun _ _ h => h))
      clear hR' fin hG1
      generalize p.w = W2 at *
      clear p
      obtain ⟨g, cap, hv, hc, hfz⟩ := hR2.get Hx.out
      have HM : Hid (RefM W2 r room cs G) := ⟨⟨v, hR2, h2⟩, h3⟩
      rw [hv] at hR2
      have s1 := cell_at 1 hR2.st
      have x5 := hc.c5
      have x7 := hc.c7
      clear hR2 hc hv
      go_wp2_with fail
      go_ret
      obtain ⟨s, hs⟩ := fin2 (Ch.refl G W2)
      exact ⟨rfl, s, hs, hs ▸ HM.out⟩
end Go.Proofs.Cob
