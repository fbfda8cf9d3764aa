/-
  An act's smallness.
-/
import Derived.Test.YtjhpdmiafecdnaaActs
import Derived.Test.YtjhpdmiafecdnaaFree
import Derived.WalkKit
namespace Go.Proofs.Cob
open Go Go.RowKit Go.Cob
set_option linter.unusedSimpArgs false
set_option linter.unusedVariables false

abbrev actCells (a : Act) : Array Value := #[.int .i64 a.kind, .int .i64 a.who, .int .i64 a.key.kind, .int .i64 a.key.a, .int .i64 a.key.b, .string a.key.s, .slice a.kfa a.keys.length a.kcap, .int .u64 a.stamp, .int .u64 a.sw, .string a.stx, .bool a.sh]
abbrev actV (a : Act) : Value := .agg (actCells a)
def smallB (a : Act) : Bool := !(decide (10 < a.keys.length)) && !(decide (100 < a.key.s.size)) && !(decide (200 < a.stx.size)) && a.keys.all fun k => !(decide (100 < k.s.size))

set_option maxRecDepth 4000 in
set_option maxHeartbeats 1600000 in
theorem small_any (a : Act) (w : World) (h : KeysIn w a.kfa a.keys) : Calls Try.prog 29 #[actV a] w fun e w' => e = .returned (.bool (smallB a)) ∧ ∃ p : Ext w, w' = p.w := by
  obtain ⟨kind, who, ⟨kd, ka, kb, ks⟩, kfa, kcap, keys, stamp, sw, stx, sh⟩ := a
  obtain ⟨W, hW⟩ : ∃ W, W = w.alloc (.cells (actCells ⟨kind, who, ⟨kd, ka, kb, ks⟩, kfa, kcap, keys, stamp, sw, stx, sh⟩) 43) := ⟨_, rfl⟩
  have hb : W.heap[w.heap.size]? = some (.cells (actCells ⟨kind, who, ⟨kd, ka, kb, ks⟩, kfa, kcap, keys, stamp, sw, stx, sh⟩) 43 (0, 0)) := by rw [hW]; exact heap_alloc_at _ _
  have hK : KeysIn W kfa keys := by rw [hW]; exact h.ext ((Ch.refl NoS w).alloc _)
  have fin : ∀ p : Ext W, ∃ q : Ext w, p.w = q.w := fun p => ⟨((Ch.refl NoS w).alloc _).onto hW p (fun b hb h => h), rfl⟩
  have c6 : W.cell? ⟨w.heap.size, 6, none⟩ = some (.slice kfa keys.length kcap) := cell_at 6 hb
  by_cases h1 : (10 : Int) < (keys.length : Int)
  · have e : smallB ⟨kind, who, ⟨kd, ka, kb, ks⟩, kfa, kcap, keys, stamp, sw, stx, sh⟩ = false := by
      have : 10 < keys.length := by omega
      simp [smallB, this]
    rw [e]
    clear e
    go_enter Try.func29, Try.ntmps29
    go_wp2_with fail
    rw [← hW]
    go_ret
    exact ⟨rfl, fin (Ch.refl NoS W)⟩
  by_cases h2 : (100 : Int) < (ks.size : Int)
  · have e : smallB ⟨kind, who, ⟨kd, ka, kb, ks⟩, kfa, kcap, keys, stamp, sw, stx, sh⟩ = false := by
      have : 100 < ks.size := by omega
      simp [smallB, this]
    rw [e]
    clear e
    go_enter Try.func29, Try.ntmps29
    go_wp2_with fail
    rw [← hW]
    go_ret
    exact ⟨rfl, fin (Ch.refl NoS W)⟩
  by_cases h3 : (200 : Int) < (stx.size : Int)
  · have e : smallB ⟨kind, who, ⟨kd, ka, kb, ks⟩, kfa, kcap, keys, stamp, sw, stx, sh⟩ = false := by
      have : 200 < stx.size := by omega
      simp [smallB, this]
    rw [e]
    clear e
    go_enter Try.func29, Try.ntmps29
    go_wp2_with fail
    rw [← hW]
    go_ret
    exact ⟨rfl, fin (Ch.refl NoS W)⟩
  have e : smallB ⟨kind, who, ⟨kd, ka, kb, ks⟩, kfa, kcap, keys, stamp, sw, stx, sh⟩ = keys.all fun k => !(decide (100 < k.s.size)) := by
    have g1 : ¬ 10 < keys.length := by omega
    have g2 : ¬ 100 < ks.size := by omega
    have g3 : ¬ 200 < stx.size := by omega
    simp only [smallB, g1, g2, g3, decide_false, Bool.not_false, Bool.true_and]
  rw [e]
  clear e
  go_enter Try.func29, Try.ntmps29
  go_wp2_with fail
  rw [← hW]
  clear hW
  go_loopw [3] (fun v w' => w' = W ∧ ∃ i : Nat, v = .int .i64 i ∧ i ≤ keys.length ∧ ∀ k ∈ keys.take i, ¬ 100 < k.s.size) (fun v _ => keys.length - (intOf v).toNat)
  case atStart => exact ⟨rfl, 0, rfl, by omega, by simp⟩
  case round =>
    obtain ⟨rfl, i, rfl, hi, hne⟩ := hrel
    have Hne : Hid _ := hne
    clear hne
    by_cases h4 : i < keys.length
    · obtain ⟨⟨xd, xa, xb, xs⟩, hx, b, off, rfl, hc⟩ := hK.get h4
      have Hx : Hid _ := hx
      clear hx
      have x3 := hc.c3
      by_cases h5 : (100 : Int) < (xs.size : Int)
      · go_wp2_with fail
        go_ret
        refine ⟨?_, fin (Ch.refl NoS _)⟩
        have : (keys.all fun k => !(decide (100 < k.s.size))) = false := by
          rw [List.all_eq_false]
          refine ⟨_, List.mem_of_getElem? Hx.out, ?_⟩
          have : 100 < xs.size := by omega
          simp [this]
        rw [this]; rfl
      · go_wp2_with fail
        go_roundw
        case rel =>
          refine ⟨by first | trivial | rfl, i + 1, by go_num, by omega, ?_⟩
          rw [take_snoc Hx.out]
          intro k hk
          rcases List.mem_append.1 hk with h | h
          · exact Hne.out k h
          · have : k = ⟨xd, xa, xb, xs⟩ := by simpa using h
            rw [this]
            show ¬ 100 < xs.size
            omega
        case measure => simp [intOf]; omega
    · go_wp2_with fail
      go_ret
      refine ⟨?_, fin (Ch.refl NoS _)⟩
      have h5 : keys.take i = keys := List.take_of_length_le (by omega)
      have h6 := Hne.out
      rw [h5] at h6
      have : (keys.all fun k => !(decide (100 < k.s.size))) = true := by
        rw [List.all_eq_true]
        intro k hk
        have := h6 k hk
        simp [this]
      rw [this]; rfl
end Go.Proofs.Cob
