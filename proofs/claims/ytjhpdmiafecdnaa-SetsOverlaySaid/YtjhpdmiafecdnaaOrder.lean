/-
  The order of keys.
-/
import Derived.Test.YtjhpdmiafecdnaaCellF
import Derived.Lib.Bytealg
import Derived.Handy
namespace Go.Proofs.Cob
open Go Go.RowKit Go.Cob
set_option linter.unusedSimpArgs false
set_option linter.unusedVariables false

def cmpI (x y : Int) : Int := if x < y then -1 else if y < x then 1 else 0

theorem cmpI_any (x y : Int) (w : World) : Calls Try.prog 111 #[.int .i64 x, .int .i64 y] w fun e w' => e = .returned (.int .i64 (cmpI x y)) ∧ w = w' := by
  have nan : ∀ z : Int, (z != z) = false := fun z => by simp
  have nx := nan x
  have ny := nan y
  clear nan
  rcases Int.lt_trichotomy x y with h | h | h
  · have e : cmpI x y = -1 := by unfold cmpI; rw [if_pos h]
    rw [e]
    clear e
    go_enter Try.func111, Try.ntmps111
    go_wp2
    go_ret
    exact ⟨rfl, rfl⟩
  · subst h
    have e : cmpI x x = 0 := by unfold cmpI; simp
    rw [e]
    clear e
    go_enter Try.func111, Try.ntmps111
    go_wp2
    go_ret
    exact ⟨rfl, rfl⟩
  · have h' : ¬ x < y := by omega
    have e : cmpI x y = 1 := by unfold cmpI; rw [if_neg h', if_pos h]
    rw [e]
    clear e
    go_enter Try.func111, Try.ntmps111
    go_wp2
    go_ret
    exact ⟨rfl, rfl⟩

def cmpS (a b : ByteArray) : Int := Lib.compareBytes a.data.toList b.data.toList

theorem call223 (a b : ByteArray) (w : World) : (callFunc 223 #[.string a, .string b]).run Try.prog w = .ok (.value (.int .i64 (cmpS a b))) w := by
  rw [run_callFunc_extern Try.func223 (by kernel_rfl) (by kernel_rfl) (by kernel_rfl) (e := Extern.BytealgCompare.compare) (by kernel_rfl), Lib.run_compareString]
  rfl
theorem cmpS_any0 (a b : ByteArray) (w : World) : Calls Try.prog 192 #[.string a, .string b] w fun e w' => e = .returned (.int .i64 (cmpS a b)) ∧ w = w' := by
  have hc := call223 a b
  go_enter Try.func192, Try.ntmps192
  go_wp2
  go_ret
  exact ⟨rfl, rfl⟩
theorem cmpS_any (a b : ByteArray) (w : World) : Calls Try.prog 112 #[.string a, .string b] w fun e w' => e = .returned (.int .i64 (cmpS a b)) ∧ w = w' := by
  go_enter Try.func112, Try.ntmps112
  go_wp2_with (go_at_call 192; go_must (refine (cmpS_any0 _ _ _).mono ?_); rintro e w' ⟨rfl, rfl⟩)
  go_ret
  exact ⟨rfl, rfl⟩

def or4 (x0 x1 x2 x3 : Int) : Int := if x0 ≠ 0 then x0 else if x1 ≠ 0 then x1 else if x2 ≠ 0 then x2 else x3

set_option maxHeartbeats 800000 in
theorem or_any (g : Nat) (x0 x1 x2 x3 : Int) (w : World) (hb : w.heap[g]? = some (.cells #[.int .i64 x0, .int .i64 x1, .int .i64 x2, .int .i64 x3] 3 (0, 0))) :
    Calls Try.prog 110 #[.slice (some ⟨g, 0, none⟩) 4 4] w fun e w' => e = .returned (.int .i64 (or4 x0 x1 x2 x3)) ∧ w = w' := by
  have c0 := cell_at 0 hb
  have c1 := cell_at 1 hb
  have c2 := cell_at 2 hb
  have c3 := cell_at 3 hb
  clear hb
  by_cases h0 : x0 = 0
  · by_cases h1 : x1 = 0
    · by_cases h2 : x2 = 0
      · have e : or4 x0 x1 x2 x3 = x3 := by simp [or4, h0, h1, h2]
        rw [e]
        clear e
        subst h0 h1 h2
        by_cases h3 : x3 = 0
        · subst h3
          go_enter Try.func110, Try.ntmps110
          go_wp2
          go_rounds 6
          all_goals (go_ret; exact ⟨rfl, rfl⟩)
        · have h3' : (x3 != 0) = true := by simpa using h3
          clear h3
          go_enter Try.func110, Try.ntmps110
          go_wp2
          go_rounds 6
          all_goals (go_ret; exact ⟨rfl, rfl⟩)
      · have e : or4 x0 x1 x2 x3 = x2 := by simp [or4, h0, h1, h2]
        rw [e]
        clear e
        subst h0 h1
        have h3' : (x2 != 0) = true := by simpa using h2
        clear h2
        go_enter Try.func110, Try.ntmps110
        go_wp2
        go_rounds 6
        all_goals (go_ret; exact ⟨rfl, rfl⟩)
    · have e : or4 x0 x1 x2 x3 = x1 := by simp [or4, h0, h1]
      rw [e]
      clear e
      subst h0
      have h3' : (x1 != 0) = true := by simpa using h1
      clear h1
      go_enter Try.func110, Try.ntmps110
      go_wp2
      go_rounds 6
      all_goals (go_ret; exact ⟨rfl, rfl⟩)
  · have e : or4 x0 x1 x2 x3 = x0 := by simp [or4, h0]
    rw [e]
    clear e
    have h3' : (x0 != 0) = true := by simpa using h0
    clear h0
    go_enter Try.func110, Try.ntmps110
    go_wp2
    go_rounds 6
    all_goals (go_ret; exact ⟨rfl, rfl⟩)

def ordK (a b : Key) : Int := or4 (cmpI a.kind b.kind) (cmpI a.a b.a) (cmpI a.b b.b) (cmpS a.s b.s)

set_option maxHeartbeats 800000 in
theorem order_any (a b : Key) (w : World) : Calls Try.prog 22 #[keyV a, keyV b] w fun e w' => e = .returned (.int .i64 (ordK a b)) ∧ ∃ p : Ext w, w' = p.w := by
  obtain ⟨W, hW⟩ : ∃ W, W = (w.alloc (.cells (keyCells a.kind a.a a.b a.s) 23)).alloc (.cells (keyCells b.kind b.a b.b b.s) 23) := ⟨_, rfl⟩
  have ha : W.heap[w.heap.size]? = some (.cells (keyCells a.kind a.a a.b a.s) 23 (0, 0)) := by rw [hW]; exact heap_alloc_blk _ (heap_alloc_at _ _)
  have hb : W.heap[w.heap.size + 1]? = some (.cells (keyCells b.kind b.a b.b b.s) 23 (0, 0)) := by rw [hW]; exact heap_alloc_eq _ (by simp)
  have fin : ∀ p : Ext W, ∃ q : Ext w, p.w = q.w := fun p => ⟨(((Ch.refl NoS w).alloc _).alloc _).onto hW p (fun b hb h => h), rfl⟩
  have a0 : ∀ p : Ext W, p.w.cell? ⟨w.heap.size, 0, none⟩ = some (.int .i64 a.kind) := fun p => cell_at 0 (p.blkE ha)
  have a1 : ∀ p : Ext W, p.w.cell? ⟨w.heap.size, 1, none⟩ = some (.int .i64 a.a) := fun p => cell_at 1 (p.blkE ha)
  have a2 : ∀ p : Ext W, p.w.cell? ⟨w.heap.size, 2, none⟩ = some (.int .i64 a.b) := fun p => cell_at 2 (p.blkE ha)
  have a3 : ∀ p : Ext W, p.w.cell? ⟨w.heap.size, 3, none⟩ = some (.string a.s) := fun p => cell_at 3 (p.blkE ha)
  have b0 : ∀ p : Ext W, p.w.cell? ⟨w.heap.size + 1, 0, none⟩ = some (.int .i64 b.kind) := fun p => cell_at 0 (p.blkE hb)
  have b1 : ∀ p : Ext W, p.w.cell? ⟨w.heap.size + 1, 1, none⟩ = some (.int .i64 b.a) := fun p => cell_at 1 (p.blkE hb)
  have b2 : ∀ p : Ext W, p.w.cell? ⟨w.heap.size + 1, 2, none⟩ = some (.int .i64 b.b) := fun p => cell_at 2 (p.blkE hb)
  have b3 : ∀ p : Ext W, p.w.cell? ⟨w.heap.size + 1, 3, none⟩ = some (.string b.s) := fun p => cell_at 3 (p.blkE hb)
  go_enter Try.func22, Try.ntmps22
  go_wp2_with fail
  rw [← hW]
  clear hW
  refine wp_region_ch NoS (by kernel_rfl) (by kernel_rfl) (fun p hp => ?_)
  clear hp
  (repeat (first | (refine wpMix_skip rfl rfl ?_) | (refine wpMix_step (fun K hK => ?_); go_simp; (with_reducible (refine hK _ _ ?_)); clear hK K)))
  refine wpMix_step (fun K hK => ?_); go_simp; refine (cmpI_any _ _ _).mono ?_; rintro e w' ⟨rfl, rfl⟩; refine ⟨⟨p, rfl⟩, hK _ _ ?_⟩; clear hK K
  (repeat (first | (refine wpMix_skip rfl rfl ?_) | (refine wpMix_step (fun K hK => ?_); go_simp; (with_reducible (refine hK _ _ ?_)); clear hK K)))
  refine wpMix_step (fun K hK => ?_); go_simp; refine (cmpI_any _ _ _).mono ?_; rintro e w' ⟨rfl, rfl⟩; refine ⟨⟨p, rfl⟩, hK _ _ ?_⟩; clear hK K
  (repeat (first | (refine wpMix_skip rfl rfl ?_) | (refine wpMix_step (fun K hK => ?_); go_simp; (with_reducible (refine hK _ _ ?_)); clear hK K)))
  refine wpMix_step (fun K hK => ?_); go_simp; refine (cmpI_any _ _ _).mono ?_; rintro e w' ⟨rfl, rfl⟩; refine ⟨⟨p, rfl⟩, hK _ _ ?_⟩; clear hK K
  (repeat (first | (refine wpMix_skip rfl rfl ?_) | (refine wpMix_step (fun K hK => ?_); go_simp; (with_reducible (refine hK _ _ ?_)); clear hK K)))
  refine wpMix_step (fun K hK => ?_); go_simp; refine (cmpS_any _ _ _).mono ?_; rintro e w' ⟨rfl, rfl⟩; refine ⟨⟨p, rfl⟩, hK _ _ ?_⟩; clear hK K
  (repeat (first | (refine wpMix_skip rfl rfl ?_) | (refine wpMix_step (fun K hK => ?_); go_simp; (with_reducible (refine hK _ _ ?_)); clear hK K)))
  refine wpMix_step (fun K hK => ?_); go_simp
  refine ⟨⟨p.alloc _, rfl⟩, hK _ _ ?_⟩; clear hK K
  (repeat (first | (refine wpMix_skip rfl rfl ?_) | (refine wpMix_step (fun K hK => ?_); go_simp; (with_reducible (refine hK _ _ ?_)); clear hK K)))
  refine wpMix_step (fun K hK => ?_); go_simp
  refine (or_any _ _ _ _ _ _ (heap_alloc_at _ _)).mono ?_
  rintro e w' ⟨rfl, rfl⟩
  refine ⟨⟨p.alloc _, rfl⟩, hK _ _ ?_⟩; clear hK K
  (repeat (first | (refine wpMix_skip rfl rfl ?_) | (refine wpMix_step (fun K hK => ?_); go_simp; (with_reducible (refine hK _ _ ?_)); clear hK K)))
  refine wpMix_nil ?_
  go_wp2
  go_ret
  exact ⟨rfl, fin (p.alloc _)⟩
end Go.Proofs.Cob
