/-
  CellOrders: the walk.
-/
import Derived.Test.YtjhpdmiafecdnaaAwake
import Derived.Test.YtjhpdmiafecdnaaOrderB
namespace Go.Proofs.Cob
open Go Go.RowKit Go.Cob
set_option linter.unusedSimpArgs false
set_option linter.unusedVariables false

/-! ### the order's own laws -/
theorem cmpI_swap (x y : Int) : cmpI y x = -cmpI x y := by unfold cmpI; split <;> split <;> (try split) <;> omega
theorem cmpI_range (x y : Int) : cmpI x y = -1 ∨ cmpI x y = 0 ∨ cmpI x y = 1 := by unfold cmpI; split <;> (try split) <;> simp
theorem cmpI_trans (x y z : Int) (h1 : cmpI x y ≤ 0) (h2 : cmpI y z ≤ 0) : cmpI x z ≤ 0 ∧ (cmpI x z = 0 → cmpI x y = 0 ∧ cmpI y z = 0) := by
  unfold cmpI at *
  constructor
  · revert h1 h2; split <;> split <;> split <;> (try split) <;> (try split) <;> (try split) <;> omega
  · intro h; revert h1 h2 h; split <;> split <;> split <;> (try split) <;> (try split) <;> (try split) <;> omega

theorem cmpL_swap : ∀ a b : List UInt8, Lib.compareBytes b a = -Lib.compareBytes a b
  | [], [] => rfl
  | [], _ :: _ => rfl
  | _ :: _, [] => rfl
  | x :: a, y :: b => by
    simp only [Lib.compareBytes]
    have := cmpL_swap a b
    by_cases h1 : x < y
    · have h2 : ¬ y < x := fun h => by have := UInt8.lt_iff_toNat_lt.mp h; have := UInt8.lt_iff_toNat_lt.mp h1; omega
      simp [h1, h2]
    · by_cases h2 : y < x <;> simp [h1, h2, this]
theorem cmpL_range : ∀ a b : List UInt8, Lib.compareBytes a b = -1 ∨ Lib.compareBytes a b = 0 ∨ Lib.compareBytes a b = 1
  | [], [] => .inr (.inl rfl)
  | [], _ :: _ => .inl rfl
  | _ :: _, [] => .inr (.inr rfl)
  | x :: a, y :: b => by
    simp only [Lib.compareBytes]
    split
    · simp
    · split
      · simp
      · exact cmpL_range a b
theorem cmpL_zero : ∀ a b : List UInt8, Lib.compareBytes a b = 0 ↔ a = b
  | [], [] => by simp [Lib.compareBytes]
  | [], _ :: _ => by simp [Lib.compareBytes]
  | _ :: _, [] => by simp [Lib.compareBytes]
  | x :: a, y :: b => by
    simp only [Lib.compareBytes]
    by_cases h1 : x < y
    · have hn : x ≠ y := by rintro rfl; exact UInt8.lt_irrefl _ h1
      simp [h1, hn]
    · by_cases h2 : y < x
      · have hn : x ≠ y := by rintro rfl; exact UInt8.lt_irrefl _ h2
        simp [h1, h2, hn]
      · have he : x = y := by
          apply UInt8.toNat_inj.mp
          rw [UInt8.lt_iff_toNat_lt] at h1 h2
          omega
        subst he
        simp [h1, cmpL_zero a b]
theorem cmpL_trans : ∀ a b c : List UInt8, Lib.compareBytes a b ≤ 0 → Lib.compareBytes b c ≤ 0 → Lib.compareBytes a c ≤ 0
  | [], _, [], _, _ => by simp [Lib.compareBytes]
  | [], _, _ :: _, _, _ => by simp [Lib.compareBytes]
  | _ :: _, [], _, h, _ => by simp [Lib.compareBytes] at h
  | _ :: _, _ :: _, [], _, h => by simp [Lib.compareBytes] at h
  | x :: a, y :: b, z :: c, h1, h2 => by
    simp only [Lib.compareBytes] at *
    have ih := cmpL_trans a b c
    simp only [UInt8.lt_iff_toNat_lt] at *
    revert h1 h2
    split <;> split <;> split <;> (try split) <;> (try split) <;> (try split) <;> intro h1 h2 <;> first | omega | exact ih h1 h2

theorem or4_swap (a b : Key) : ordK b a = -ordK a b := by
  unfold ordK or4 cmpS
  rw [cmpI_swap a.kind, cmpI_swap a.a, cmpI_swap a.b, cmpL_swap a.s.data.toList]
  have h1 := cmpI_range a.kind b.kind
  have h2 := cmpI_range a.a b.a
  have h3 := cmpI_range a.b b.b
  split <;> split <;> (try split) <;> (try split) <;> (try split) <;> (try split) <;> omega
theorem ordK_range (a b : Key) : ordK a b = -1 ∨ ordK a b = 0 ∨ ordK a b = 1 := by
  unfold ordK or4
  split
  · exact cmpI_range _ _
  · split
    · exact cmpI_range _ _
    · split
      · exact cmpI_range _ _
      · exact cmpL_range _ _
theorem ordK_zero (a b : Key) : ordK a b = 0 ↔ a = b := by
  obtain ⟨a1, a2, a3, a4⟩ := a
  obtain ⟨b1, b2, b3, b4⟩ := b
  have e4 : a4 = b4 ↔ a4.data.toList = b4.data.toList := by
    constructor
    · rintro rfl; rfl
    · intro h; exact ByteArray.ext (Array.toList_inj.mp h)
  unfold ordK or4 cmpS
  simp only [Key.mk.injEq]
  rw [e4, ← cmpL_zero, ← cmpI_zero a1, ← cmpI_zero a2, ← cmpI_zero a3]
  split
  · simp_all
  · split
    · simp_all
    · split <;> simp_all
def orL (p q : Int) : Int := if p ≠ 0 then p else q
theorem lexT {p q r P Q R : Int} (h : p ≤ 0 → q ≤ 0 → r ≤ 0 ∧ (r = 0 → p = 0 ∧ q = 0)) (H : P ≤ 0 → Q ≤ 0 → R ≤ 0) (h1 : orL p P ≤ 0) (h2 : orL q Q ≤ 0) : orL r R ≤ 0 := by
  unfold orL at *
  have a1 : p ≤ 0 := by split at h1 <;> omega
  have a2 : q ≤ 0 := by split at h2 <;> omega
  obtain ⟨a3, a4⟩ := h a1 a2
  by_cases hr : r = 0
  · obtain ⟨rfl, rfl⟩ := a4 hr
    simp at h1 h2
    simp [hr, H h1 h2]
  · simp [hr, a3]
theorem ordK_trans (a b c : Key) (h1 : ordK a b ≤ 0) (h2 : ordK b c ≤ 0) : ordK a c ≤ 0 :=
  lexT (cmpI_trans a.kind b.kind c.kind) (lexT (cmpI_trans a.a b.a c.a) (lexT (cmpI_trans a.b b.b c.b) (cmpL_trans a.s.data.toList b.s.data.toList c.s.data.toList))) h1 h2

/-! ### the walk -/
abbrev kCells (k : Key) : Array Value := keyCells k.kind k.a k.b k.s


set_option maxHeartbeats 3200000 in
theorem cellOrders_any (a b c : Key) (w : World) : Calls Try.prog 3 #[keyV a, keyV b, keyV c] w fun e w' => e = .returned (.bool true) ∧ ∃ p : Ext w, w' = p.w := by
  obtain ⟨W, hW⟩ : ∃ W, W = ((w.alloc (.cells (kCells a) 23)).alloc (.cells (kCells b) 23)).alloc (.cells (kCells c) 23) := ⟨_, rfl⟩
  have ha : W.heap[w.heap.size]? = some (.cells (kCells a) 23 (0, 0)) := by rw [hW]; exact heap_alloc_blk _ (heap_alloc_blk _ (heap_alloc_at _ _))
  have hb : W.heap[w.heap.size + 1]? = some (.cells (kCells b) 23 (0, 0)) := by rw [hW]; exact heap_alloc_blk _ (heap_alloc_eq _ (by simp))
  have hc : W.heap[w.heap.size + 1 + 1]? = some (.cells (kCells c) 23 (0, 0)) := by rw [hW]; exact heap_alloc_eq _ (by simp)
  have fin : ∀ p : Ext W, ∃ q : Ext w, p.w = q.w := fun p => ⟨((((Ch.refl NoS w).alloc _).alloc _).alloc _).onto hW p (fun b hb h => h), rfl⟩
  have ak0 : ∀ p : Ext W, p.w.cell? ⟨w.heap.size, 0, none⟩ = some (.int .i64 a.kind) := fun p => cell_at 0 (p.blkE ha); have ak1 : ∀ p : Ext W, p.w.cell? ⟨w.heap.size, 1, none⟩ = some (.int .i64 a.a) := fun p => cell_at 1 (p.blkE ha); have ak2 : ∀ p : Ext W, p.w.cell? ⟨w.heap.size, 2, none⟩ = some (.int .i64 a.b) := fun p => cell_at 2 (p.blkE ha); have ak3 : ∀ p : Ext W, p.w.cell? ⟨w.heap.size, 3, none⟩ = some (.string a.s) := fun p => cell_at 3 (p.blkE ha)
  have bk0 : ∀ p : Ext W, p.w.cell? ⟨w.heap.size + 1, 0, none⟩ = some (.int .i64 b.kind) := fun p => cell_at 0 (p.blkE hb); have bk1 : ∀ p : Ext W, p.w.cell? ⟨w.heap.size + 1, 1, none⟩ = some (.int .i64 b.a) := fun p => cell_at 1 (p.blkE hb); have bk2 : ∀ p : Ext W, p.w.cell? ⟨w.heap.size + 1, 2, none⟩ = some (.int .i64 b.b) := fun p => cell_at 2 (p.blkE hb); have bk3 : ∀ p : Ext W, p.w.cell? ⟨w.heap.size + 1, 3, none⟩ = some (.string b.s) := fun p => cell_at 3 (p.blkE hb)
  have ck0 : ∀ p : Ext W, p.w.cell? ⟨w.heap.size + 1 + 1, 0, none⟩ = some (.int .i64 c.kind) := fun p => cell_at 0 (p.blkE hc); have ck1 : ∀ p : Ext W, p.w.cell? ⟨w.heap.size + 1 + 1, 1, none⟩ = some (.int .i64 c.a) := fun p => cell_at 1 (p.blkE hc); have ck2 : ∀ p : Ext W, p.w.cell? ⟨w.heap.size + 1 + 1, 2, none⟩ = some (.int .i64 c.b) := fun p => cell_at 2 (p.blkE hc); have ck3 : ∀ p : Ext W, p.w.cell? ⟨w.heap.size + 1 + 1, 3, none⟩ = some (.string c.s) := fun p => cell_at 3 (p.blkE hc)
  go_enter Try.func3, Try.ntmps3
  go_wp2_with fail
  rw [← hW]
  clear hW
  by_cases hA : (500 : Int) < a.s.size
  · go_wp2_with ((go_at_call 21; go_must (refine (awake_any _).mono ?_); rintro e w' ⟨rfl, p, rfl⟩); replace ha := p.blkE ha; replace hb := p.blkE hb; replace hc := p.blkE hc; replace fin : ∀ q : Ext p.w, ∃ r : Ext w, q.w = r.w := fun q => fin (p.thenE q); clear ak0 ak1 ak2 ak3 bk0 bk1 bk2 bk3 ck0 ck1 ck2 ck3; generalize p.w = W at ha hb hc fin ⊢; clear p; have ak0 : ∀ p : Ext W, p.w.cell? ⟨w.heap.size, 0, none⟩ = some (.int .i64 a.kind) := fun p => cell_at 0 (p.blkE ha); have ak1 : ∀ p : Ext W, p.w.cell? ⟨w.heap.size, 1, none⟩ = some (.int .i64 a.a) := fun p => cell_at 1 (p.blkE ha); have ak2 : ∀ p : Ext W, p.w.cell? ⟨w.heap.size, 2, none⟩ = some (.int .i64 a.b) := fun p => cell_at 2 (p.blkE ha); have ak3 : ∀ p : Ext W, p.w.cell? ⟨w.heap.size, 3, none⟩ = some (.string a.s) := fun p => cell_at 3 (p.blkE ha); have bk0 : ∀ p : Ext W, p.w.cell? ⟨w.heap.size + 1, 0, none⟩ = some (.int .i64 b.kind) := fun p => cell_at 0 (p.blkE hb); have bk1 : ∀ p : Ext W, p.w.cell? ⟨w.heap.size + 1, 1, none⟩ = some (.int .i64 b.a) := fun p => cell_at 1 (p.blkE hb); have bk2 : ∀ p : Ext W, p.w.cell? ⟨w.heap.size + 1, 2, none⟩ = some (.int .i64 b.b) := fun p => cell_at 2 (p.blkE hb); have bk3 : ∀ p : Ext W, p.w.cell? ⟨w.heap.size + 1, 3, none⟩ = some (.string b.s) := fun p => cell_at 3 (p.blkE hb); have ck0 : ∀ p : Ext W, p.w.cell? ⟨w.heap.size + 1 + 1, 0, none⟩ = some (.int .i64 c.kind) := fun p => cell_at 0 (p.blkE hc); have ck1 : ∀ p : Ext W, p.w.cell? ⟨w.heap.size + 1 + 1, 1, none⟩ = some (.int .i64 c.a) := fun p => cell_at 1 (p.blkE hc); have ck2 : ∀ p : Ext W, p.w.cell? ⟨w.heap.size + 1 + 1, 2, none⟩ = some (.int .i64 c.b) := fun p => cell_at 2 (p.blkE hc); have ck3 : ∀ p : Ext W, p.w.cell? ⟨w.heap.size + 1 + 1, 3, none⟩ = some (.string c.s) := fun p => cell_at 3 (p.blkE hc); have ak3' := ak3 (Ch.refl NoS W); have bk3' := bk3 (Ch.refl NoS W); have ck3' := ck3 (Ch.refl NoS W); simp only [Ch.refl_w] at ak3' bk3' ck3'); go_ret; exact ⟨rfl, fin (Ch.refl NoS _)⟩
  by_cases hB : (500 : Int) < b.s.size
  · go_wp2_with ((go_at_call 21; go_must (refine (awake_any _).mono ?_); rintro e w' ⟨rfl, p, rfl⟩); replace ha := p.blkE ha; replace hb := p.blkE hb; replace hc := p.blkE hc; replace fin : ∀ q : Ext p.w, ∃ r : Ext w, q.w = r.w := fun q => fin (p.thenE q); clear ak0 ak1 ak2 ak3 bk0 bk1 bk2 bk3 ck0 ck1 ck2 ck3; generalize p.w = W at ha hb hc fin ⊢; clear p; have ak0 : ∀ p : Ext W, p.w.cell? ⟨w.heap.size, 0, none⟩ = some (.int .i64 a.kind) := fun p => cell_at 0 (p.blkE ha); have ak1 : ∀ p : Ext W, p.w.cell? ⟨w.heap.size, 1, none⟩ = some (.int .i64 a.a) := fun p => cell_at 1 (p.blkE ha); have ak2 : ∀ p : Ext W, p.w.cell? ⟨w.heap.size, 2, none⟩ = some (.int .i64 a.b) := fun p => cell_at 2 (p.blkE ha); have ak3 : ∀ p : Ext W, p.w.cell? ⟨w.heap.size, 3, none⟩ = some (.string a.s) := fun p => cell_at 3 (p.blkE ha); have bk0 : ∀ p : Ext W, p.w.cell? ⟨w.heap.size + 1, 0, none⟩ = some (.int .i64 b.kind) := fun p => cell_at 0 (p.blkE hb); have bk1 : ∀ p : Ext W, p.w.cell? ⟨w.heap.size + 1, 1, none⟩ = some (.int .i64 b.a) := fun p => cell_at 1 (p.blkE hb); have bk2 : ∀ p : Ext W, p.w.cell? ⟨w.heap.size + 1, 2, none⟩ = some (.int .i64 b.b) := fun p => cell_at 2 (p.blkE hb); have bk3 : ∀ p : Ext W, p.w.cell? ⟨w.heap.size + 1, 3, none⟩ = some (.string b.s) := fun p => cell_at 3 (p.blkE hb); have ck0 : ∀ p : Ext W, p.w.cell? ⟨w.heap.size + 1 + 1, 0, none⟩ = some (.int .i64 c.kind) := fun p => cell_at 0 (p.blkE hc); have ck1 : ∀ p : Ext W, p.w.cell? ⟨w.heap.size + 1 + 1, 1, none⟩ = some (.int .i64 c.a) := fun p => cell_at 1 (p.blkE hc); have ck2 : ∀ p : Ext W, p.w.cell? ⟨w.heap.size + 1 + 1, 2, none⟩ = some (.int .i64 c.b) := fun p => cell_at 2 (p.blkE hc); have ck3 : ∀ p : Ext W, p.w.cell? ⟨w.heap.size + 1 + 1, 3, none⟩ = some (.string c.s) := fun p => cell_at 3 (p.blkE hc); have ak3' := ak3 (Ch.refl NoS W); have bk3' := bk3 (Ch.refl NoS W); have ck3' := ck3 (Ch.refl NoS W); simp only [Ch.refl_w] at ak3' bk3' ck3'); go_ret; exact ⟨rfl, fin (Ch.refl NoS _)⟩
  by_cases hC : (500 : Int) < c.s.size
  · go_wp2_with ((go_at_call 21; go_must (refine (awake_any _).mono ?_); rintro e w' ⟨rfl, p, rfl⟩); replace ha := p.blkE ha; replace hb := p.blkE hb; replace hc := p.blkE hc; replace fin : ∀ q : Ext p.w, ∃ r : Ext w, q.w = r.w := fun q => fin (p.thenE q); clear ak0 ak1 ak2 ak3 bk0 bk1 bk2 bk3 ck0 ck1 ck2 ck3; generalize p.w = W at ha hb hc fin ⊢; clear p; have ak0 : ∀ p : Ext W, p.w.cell? ⟨w.heap.size, 0, none⟩ = some (.int .i64 a.kind) := fun p => cell_at 0 (p.blkE ha); have ak1 : ∀ p : Ext W, p.w.cell? ⟨w.heap.size, 1, none⟩ = some (.int .i64 a.a) := fun p => cell_at 1 (p.blkE ha); have ak2 : ∀ p : Ext W, p.w.cell? ⟨w.heap.size, 2, none⟩ = some (.int .i64 a.b) := fun p => cell_at 2 (p.blkE ha); have ak3 : ∀ p : Ext W, p.w.cell? ⟨w.heap.size, 3, none⟩ = some (.string a.s) := fun p => cell_at 3 (p.blkE ha); have bk0 : ∀ p : Ext W, p.w.cell? ⟨w.heap.size + 1, 0, none⟩ = some (.int .i64 b.kind) := fun p => cell_at 0 (p.blkE hb); have bk1 : ∀ p : Ext W, p.w.cell? ⟨w.heap.size + 1, 1, none⟩ = some (.int .i64 b.a) := fun p => cell_at 1 (p.blkE hb); have bk2 : ∀ p : Ext W, p.w.cell? ⟨w.heap.size + 1, 2, none⟩ = some (.int .i64 b.b) := fun p => cell_at 2 (p.blkE hb); have bk3 : ∀ p : Ext W, p.w.cell? ⟨w.heap.size + 1, 3, none⟩ = some (.string b.s) := fun p => cell_at 3 (p.blkE hb); have ck0 : ∀ p : Ext W, p.w.cell? ⟨w.heap.size + 1 + 1, 0, none⟩ = some (.int .i64 c.kind) := fun p => cell_at 0 (p.blkE hc); have ck1 : ∀ p : Ext W, p.w.cell? ⟨w.heap.size + 1 + 1, 1, none⟩ = some (.int .i64 c.a) := fun p => cell_at 1 (p.blkE hc); have ck2 : ∀ p : Ext W, p.w.cell? ⟨w.heap.size + 1 + 1, 2, none⟩ = some (.int .i64 c.b) := fun p => cell_at 2 (p.blkE hc); have ck3 : ∀ p : Ext W, p.w.cell? ⟨w.heap.size + 1 + 1, 3, none⟩ = some (.string c.s) := fun p => cell_at 3 (p.blkE hc); have ak3' := ak3 (Ch.refl NoS W); have bk3' := bk3 (Ch.refl NoS W); have ck3' := ck3 (Ch.refl NoS W); simp only [Ch.refl_w] at ak3' bk3' ck3'); go_ret; exact ⟨rfl, fin (Ch.refl NoS _)⟩
  have la : a.s.size < 4611686018427387904 := by omega
  have lb : b.s.size < 4611686018427387904 := by omega
  have lc : c.s.size < 4611686018427387904 := by omega
  go_wp2_with ((go_at_call 21; go_must (refine (awake_any _).mono ?_); rintro e w' ⟨rfl, p, rfl⟩); replace ha := p.blkE ha; replace hb := p.blkE hb; replace hc := p.blkE hc; replace fin : ∀ q : Ext p.w, ∃ r : Ext w, q.w = r.w := fun q => fin (p.thenE q); clear ak0 ak1 ak2 ak3 bk0 bk1 bk2 bk3 ck0 ck1 ck2 ck3; generalize p.w = W at ha hb hc fin ⊢; clear p; have ak0 : ∀ p : Ext W, p.w.cell? ⟨w.heap.size, 0, none⟩ = some (.int .i64 a.kind) := fun p => cell_at 0 (p.blkE ha); have ak1 : ∀ p : Ext W, p.w.cell? ⟨w.heap.size, 1, none⟩ = some (.int .i64 a.a) := fun p => cell_at 1 (p.blkE ha); have ak2 : ∀ p : Ext W, p.w.cell? ⟨w.heap.size, 2, none⟩ = some (.int .i64 a.b) := fun p => cell_at 2 (p.blkE ha); have ak3 : ∀ p : Ext W, p.w.cell? ⟨w.heap.size, 3, none⟩ = some (.string a.s) := fun p => cell_at 3 (p.blkE ha); have bk0 : ∀ p : Ext W, p.w.cell? ⟨w.heap.size + 1, 0, none⟩ = some (.int .i64 b.kind) := fun p => cell_at 0 (p.blkE hb); have bk1 : ∀ p : Ext W, p.w.cell? ⟨w.heap.size + 1, 1, none⟩ = some (.int .i64 b.a) := fun p => cell_at 1 (p.blkE hb); have bk2 : ∀ p : Ext W, p.w.cell? ⟨w.heap.size + 1, 2, none⟩ = some (.int .i64 b.b) := fun p => cell_at 2 (p.blkE hb); have bk3 : ∀ p : Ext W, p.w.cell? ⟨w.heap.size + 1, 3, none⟩ = some (.string b.s) := fun p => cell_at 3 (p.blkE hb); have ck0 : ∀ p : Ext W, p.w.cell? ⟨w.heap.size + 1 + 1, 0, none⟩ = some (.int .i64 c.kind) := fun p => cell_at 0 (p.blkE hc); have ck1 : ∀ p : Ext W, p.w.cell? ⟨w.heap.size + 1 + 1, 1, none⟩ = some (.int .i64 c.a) := fun p => cell_at 1 (p.blkE hc); have ck2 : ∀ p : Ext W, p.w.cell? ⟨w.heap.size + 1 + 1, 2, none⟩ = some (.int .i64 c.b) := fun p => cell_at 2 (p.blkE hc); have ck3 : ∀ p : Ext W, p.w.cell? ⟨w.heap.size + 1 + 1, 3, none⟩ = some (.string c.s) := fun p => cell_at 3 (p.blkE hc); have ak3' := ak3 (Ch.refl NoS W); have bk3' := bk3 (Ch.refl NoS W); have ck3' := ck3 (Ch.refl NoS W); simp only [Ch.refl_w] at ak3' bk3' ck3')
  refine wp_region_ch NoS (by kernel_rfl) (by kernel_rfl) (fun q hq => ?_)
  clear hq
  (repeat (first | (refine wpMix_skip rfl rfl ?_) | (refine wpMix_step (fun K hK => ?_); go_simp; (with_reducible (refine hK _ _ ?_)); clear hK K)))
  refine wpMix_step (fun K hK => ?_); go_simp; refine (Calls.inCh (order_any a b _)).mono ?_; rintro e w' ⟨rfl, q, rfl⟩; refine ⟨⟨q, rfl⟩, hK _ _ ?_⟩; clear hK K
  (repeat (first | (refine wpMix_skip rfl rfl ?_) | (refine wpMix_step (fun K hK => ?_); go_simp; (with_reducible (refine hK _ _ ?_)); clear hK K)))
  refine wpMix_step (fun K hK => ?_); go_simp; refine (Calls.inCh (order_any b c _)).mono ?_; rintro e w' ⟨rfl, q, rfl⟩; refine ⟨⟨q, rfl⟩, hK _ _ ?_⟩; clear hK K
  (repeat (first | (refine wpMix_skip rfl rfl ?_) | (refine wpMix_step (fun K hK => ?_); go_simp; (with_reducible (refine hK _ _ ?_)); clear hK K)))
  refine wpMix_step (fun K hK => ?_); go_simp; refine (Calls.inCh (order_any a c _)).mono ?_; rintro e w' ⟨rfl, q, rfl⟩; refine ⟨⟨q, rfl⟩, hK _ _ ?_⟩; clear hK K
  (repeat (first | (refine wpMix_skip rfl rfl ?_) | (refine wpMix_step (fun K hK => ?_); go_simp; (with_reducible (refine hK _ _ ?_)); clear hK K)))
  refine wpMix_nil ?_
  have fin2 : ∀ p : Ext q.w, ∃ r : Ext w, p.w = r.w := fun r => fin (q.thenE r)
  have HX : Hid (∀ p : Ext q.w, (∀ i, p.w.cell? ⟨w.heap.size, i, none⟩ = (kCells a)[i]?) ∧ (∀ i, p.w.cell? ⟨w.heap.size + 1, i, none⟩ = (kCells b)[i]?)) := fun p => ⟨fun i => cell_at i (p.blkE (q.blkE ha)), fun i => cell_at i (p.blkE (q.blkE hb))⟩
  clear fin ha hb hc ak0 ak1 ak2 ak3 bk0 bk1 bk2 bk3 ck0 ck1 ck2 ck3
  generalize q.w = W at HX fin2 ⊢
  clear q
  have ak0' : W.cell? ⟨w.heap.size, 0, none⟩ = some (.int .i64 a.kind) := (HX.out (Ch.refl NoS W)).1 0; have ak1' : W.cell? ⟨w.heap.size, 1, none⟩ = some (.int .i64 a.a) := (HX.out (Ch.refl NoS W)).1 1; have ak2' : W.cell? ⟨w.heap.size, 2, none⟩ = some (.int .i64 a.b) := (HX.out (Ch.refl NoS W)).1 2; have ak3' : W.cell? ⟨w.heap.size, 3, none⟩ = some (.string a.s) := (HX.out (Ch.refl NoS W)).1 3; have bk0' : W.cell? ⟨w.heap.size + 1, 0, none⟩ = some (.int .i64 b.kind) := (HX.out (Ch.refl NoS W)).2 0; have bk1' : W.cell? ⟨w.heap.size + 1, 1, none⟩ = some (.int .i64 b.a) := (HX.out (Ch.refl NoS W)).2 1; have bk2' : W.cell? ⟨w.heap.size + 1, 2, none⟩ = some (.int .i64 b.b) := (HX.out (Ch.refl NoS W)).2 2; have bk3' : W.cell? ⟨w.heap.size + 1, 3, none⟩ = some (.string b.s) := (HX.out (Ch.refl NoS W)).2 3
  have hR := ordK_range a b
  have hZ := ordK_zero a b
  have hS := or4_swap a b
  have hT := ordK_trans a b c
  have cR := ref23_any a b
  have cS := order_any b a
  rw [hS] at cS
  have hE := run_eq_key a b
  clear hS
  generalize ordK b c = y at *
  generalize ordK a c = z at *
  generalize ordK a b = x at *
  have hd : decide (a = b) = (x == 0) := by by_cases h : a = b <;> simp [h, hZ]
  rw [hd] at hE
  clear hd
  have HZ : Hid (x = 0 ↔ a = b) := hZ
  have HT : Hid (x ≤ 0 → y ≤ 0 → z ≤ 0) := hT
  clear hZ hT
  rcases hR with rfl | rfl | rfl
  · by_cases hy : y ≤ 0
    · have hz : z ≤ 0 := HT.out (by omega) hy
      go_wp2_with (first
      | (go_at_call 23; go_must (refine (cR _ la lb).mono ?_); rintro e w' ⟨rfl, p, rfl⟩; replace HX : Hid (∀ q : Ext p.w, (∀ i, q.w.cell? ⟨w.heap.size, i, none⟩ = (kCells a)[i]?) ∧ (∀ i, q.w.cell? ⟨w.heap.size + 1, i, none⟩ = (kCells b)[i]?)) := fun q => HX.out (p.thenE q); replace fin2 : ∀ q : Ext p.w, ∃ r : Ext w, q.w = r.w := fun q => fin2 (p.thenE q); clear ak0' ak1' ak2' ak3' bk0' bk1' bk2' bk3'; generalize p.w = W at HX fin2 ⊢; clear p; have ak0' : W.cell? ⟨w.heap.size, 0, none⟩ = some (.int .i64 a.kind) := (HX.out (Ch.refl NoS W)).1 0; have ak1' : W.cell? ⟨w.heap.size, 1, none⟩ = some (.int .i64 a.a) := (HX.out (Ch.refl NoS W)).1 1; have ak2' : W.cell? ⟨w.heap.size, 2, none⟩ = some (.int .i64 a.b) := (HX.out (Ch.refl NoS W)).1 2; have ak3' : W.cell? ⟨w.heap.size, 3, none⟩ = some (.string a.s) := (HX.out (Ch.refl NoS W)).1 3; have bk0' : W.cell? ⟨w.heap.size + 1, 0, none⟩ = some (.int .i64 b.kind) := (HX.out (Ch.refl NoS W)).2 0; have bk1' : W.cell? ⟨w.heap.size + 1, 1, none⟩ = some (.int .i64 b.a) := (HX.out (Ch.refl NoS W)).2 1; have bk2' : W.cell? ⟨w.heap.size + 1, 2, none⟩ = some (.int .i64 b.b) := (HX.out (Ch.refl NoS W)).2 2; have bk3' : W.cell? ⟨w.heap.size + 1, 3, none⟩ = some (.string b.s) := (HX.out (Ch.refl NoS W)).2 3)
      | (go_at_call 22; go_must (refine (cS _).mono ?_); rintro e w' ⟨rfl, p, rfl⟩; replace HX : Hid (∀ q : Ext p.w, (∀ i, q.w.cell? ⟨w.heap.size, i, none⟩ = (kCells a)[i]?) ∧ (∀ i, q.w.cell? ⟨w.heap.size + 1, i, none⟩ = (kCells b)[i]?)) := fun q => HX.out (p.thenE q); replace fin2 : ∀ q : Ext p.w, ∃ r : Ext w, q.w = r.w := fun q => fin2 (p.thenE q); clear ak0' ak1' ak2' ak3' bk0' bk1' bk2' bk3'; generalize p.w = W at HX fin2 ⊢; clear p; have ak0' : W.cell? ⟨w.heap.size, 0, none⟩ = some (.int .i64 a.kind) := (HX.out (Ch.refl NoS W)).1 0; have ak1' : W.cell? ⟨w.heap.size, 1, none⟩ = some (.int .i64 a.a) := (HX.out (Ch.refl NoS W)).1 1; have ak2' : W.cell? ⟨w.heap.size, 2, none⟩ = some (.int .i64 a.b) := (HX.out (Ch.refl NoS W)).1 2; have ak3' : W.cell? ⟨w.heap.size, 3, none⟩ = some (.string a.s) := (HX.out (Ch.refl NoS W)).1 3; have bk0' : W.cell? ⟨w.heap.size + 1, 0, none⟩ = some (.int .i64 b.kind) := (HX.out (Ch.refl NoS W)).2 0; have bk1' : W.cell? ⟨w.heap.size + 1, 1, none⟩ = some (.int .i64 b.a) := (HX.out (Ch.refl NoS W)).2 1; have bk2' : W.cell? ⟨w.heap.size + 1, 2, none⟩ = some (.int .i64 b.b) := (HX.out (Ch.refl NoS W)).2 2; have bk3' : W.cell? ⟨w.heap.size + 1, 3, none⟩ = some (.string b.s) := (HX.out (Ch.refl NoS W)).2 3))
      go_ret
      exact ⟨rfl, fin2 (Ch.refl NoS W)⟩
    · go_wp2_with (first
      | (go_at_call 23; go_must (refine (cR _ la lb).mono ?_); rintro e w' ⟨rfl, p, rfl⟩; replace HX : Hid (∀ q : Ext p.w, (∀ i, q.w.cell? ⟨w.heap.size, i, none⟩ = (kCells a)[i]?) ∧ (∀ i, q.w.cell? ⟨w.heap.size + 1, i, none⟩ = (kCells b)[i]?)) := fun q => HX.out (p.thenE q); replace fin2 : ∀ q : Ext p.w, ∃ r : Ext w, q.w = r.w := fun q => fin2 (p.thenE q); clear ak0' ak1' ak2' ak3' bk0' bk1' bk2' bk3'; generalize p.w = W at HX fin2 ⊢; clear p; have ak0' : W.cell? ⟨w.heap.size, 0, none⟩ = some (.int .i64 a.kind) := (HX.out (Ch.refl NoS W)).1 0; have ak1' : W.cell? ⟨w.heap.size, 1, none⟩ = some (.int .i64 a.a) := (HX.out (Ch.refl NoS W)).1 1; have ak2' : W.cell? ⟨w.heap.size, 2, none⟩ = some (.int .i64 a.b) := (HX.out (Ch.refl NoS W)).1 2; have ak3' : W.cell? ⟨w.heap.size, 3, none⟩ = some (.string a.s) := (HX.out (Ch.refl NoS W)).1 3; have bk0' : W.cell? ⟨w.heap.size + 1, 0, none⟩ = some (.int .i64 b.kind) := (HX.out (Ch.refl NoS W)).2 0; have bk1' : W.cell? ⟨w.heap.size + 1, 1, none⟩ = some (.int .i64 b.a) := (HX.out (Ch.refl NoS W)).2 1; have bk2' : W.cell? ⟨w.heap.size + 1, 2, none⟩ = some (.int .i64 b.b) := (HX.out (Ch.refl NoS W)).2 2; have bk3' : W.cell? ⟨w.heap.size + 1, 3, none⟩ = some (.string b.s) := (HX.out (Ch.refl NoS W)).2 3)
      | (go_at_call 22; go_must (refine (cS _).mono ?_); rintro e w' ⟨rfl, p, rfl⟩; replace HX : Hid (∀ q : Ext p.w, (∀ i, q.w.cell? ⟨w.heap.size, i, none⟩ = (kCells a)[i]?) ∧ (∀ i, q.w.cell? ⟨w.heap.size + 1, i, none⟩ = (kCells b)[i]?)) := fun q => HX.out (p.thenE q); replace fin2 : ∀ q : Ext p.w, ∃ r : Ext w, q.w = r.w := fun q => fin2 (p.thenE q); clear ak0' ak1' ak2' ak3' bk0' bk1' bk2' bk3'; generalize p.w = W at HX fin2 ⊢; clear p; have ak0' : W.cell? ⟨w.heap.size, 0, none⟩ = some (.int .i64 a.kind) := (HX.out (Ch.refl NoS W)).1 0; have ak1' : W.cell? ⟨w.heap.size, 1, none⟩ = some (.int .i64 a.a) := (HX.out (Ch.refl NoS W)).1 1; have ak2' : W.cell? ⟨w.heap.size, 2, none⟩ = some (.int .i64 a.b) := (HX.out (Ch.refl NoS W)).1 2; have ak3' : W.cell? ⟨w.heap.size, 3, none⟩ = some (.string a.s) := (HX.out (Ch.refl NoS W)).1 3; have bk0' : W.cell? ⟨w.heap.size + 1, 0, none⟩ = some (.int .i64 b.kind) := (HX.out (Ch.refl NoS W)).2 0; have bk1' : W.cell? ⟨w.heap.size + 1, 1, none⟩ = some (.int .i64 b.a) := (HX.out (Ch.refl NoS W)).2 1; have bk2' : W.cell? ⟨w.heap.size + 1, 2, none⟩ = some (.int .i64 b.b) := (HX.out (Ch.refl NoS W)).2 2; have bk3' : W.cell? ⟨w.heap.size + 1, 3, none⟩ = some (.string b.s) := (HX.out (Ch.refl NoS W)).2 3))
      go_ret
      exact ⟨rfl, fin2 (Ch.refl NoS W)⟩
  · by_cases hy : y ≤ 0
    · have hz : z ≤ 0 := HT.out (by omega) hy
      go_wp2_with (first
      | (go_at_call 23; go_must (refine (cR _ la lb).mono ?_); rintro e w' ⟨rfl, p, rfl⟩; replace HX : Hid (∀ q : Ext p.w, (∀ i, q.w.cell? ⟨w.heap.size, i, none⟩ = (kCells a)[i]?) ∧ (∀ i, q.w.cell? ⟨w.heap.size + 1, i, none⟩ = (kCells b)[i]?)) := fun q => HX.out (p.thenE q); replace fin2 : ∀ q : Ext p.w, ∃ r : Ext w, q.w = r.w := fun q => fin2 (p.thenE q); clear ak0' ak1' ak2' ak3' bk0' bk1' bk2' bk3'; generalize p.w = W at HX fin2 ⊢; clear p; have ak0' : W.cell? ⟨w.heap.size, 0, none⟩ = some (.int .i64 a.kind) := (HX.out (Ch.refl NoS W)).1 0; have ak1' : W.cell? ⟨w.heap.size, 1, none⟩ = some (.int .i64 a.a) := (HX.out (Ch.refl NoS W)).1 1; have ak2' : W.cell? ⟨w.heap.size, 2, none⟩ = some (.int .i64 a.b) := (HX.out (Ch.refl NoS W)).1 2; have ak3' : W.cell? ⟨w.heap.size, 3, none⟩ = some (.string a.s) := (HX.out (Ch.refl NoS W)).1 3; have bk0' : W.cell? ⟨w.heap.size + 1, 0, none⟩ = some (.int .i64 b.kind) := (HX.out (Ch.refl NoS W)).2 0; have bk1' : W.cell? ⟨w.heap.size + 1, 1, none⟩ = some (.int .i64 b.a) := (HX.out (Ch.refl NoS W)).2 1; have bk2' : W.cell? ⟨w.heap.size + 1, 2, none⟩ = some (.int .i64 b.b) := (HX.out (Ch.refl NoS W)).2 2; have bk3' : W.cell? ⟨w.heap.size + 1, 3, none⟩ = some (.string b.s) := (HX.out (Ch.refl NoS W)).2 3)
      | (go_at_call 22; go_must (refine (cS _).mono ?_); rintro e w' ⟨rfl, p, rfl⟩; replace HX : Hid (∀ q : Ext p.w, (∀ i, q.w.cell? ⟨w.heap.size, i, none⟩ = (kCells a)[i]?) ∧ (∀ i, q.w.cell? ⟨w.heap.size + 1, i, none⟩ = (kCells b)[i]?)) := fun q => HX.out (p.thenE q); replace fin2 : ∀ q : Ext p.w, ∃ r : Ext w, q.w = r.w := fun q => fin2 (p.thenE q); clear ak0' ak1' ak2' ak3' bk0' bk1' bk2' bk3'; generalize p.w = W at HX fin2 ⊢; clear p; have ak0' : W.cell? ⟨w.heap.size, 0, none⟩ = some (.int .i64 a.kind) := (HX.out (Ch.refl NoS W)).1 0; have ak1' : W.cell? ⟨w.heap.size, 1, none⟩ = some (.int .i64 a.a) := (HX.out (Ch.refl NoS W)).1 1; have ak2' : W.cell? ⟨w.heap.size, 2, none⟩ = some (.int .i64 a.b) := (HX.out (Ch.refl NoS W)).1 2; have ak3' : W.cell? ⟨w.heap.size, 3, none⟩ = some (.string a.s) := (HX.out (Ch.refl NoS W)).1 3; have bk0' : W.cell? ⟨w.heap.size + 1, 0, none⟩ = some (.int .i64 b.kind) := (HX.out (Ch.refl NoS W)).2 0; have bk1' : W.cell? ⟨w.heap.size + 1, 1, none⟩ = some (.int .i64 b.a) := (HX.out (Ch.refl NoS W)).2 1; have bk2' : W.cell? ⟨w.heap.size + 1, 2, none⟩ = some (.int .i64 b.b) := (HX.out (Ch.refl NoS W)).2 2; have bk3' : W.cell? ⟨w.heap.size + 1, 3, none⟩ = some (.string b.s) := (HX.out (Ch.refl NoS W)).2 3))
      go_ret
      exact ⟨rfl, fin2 (Ch.refl NoS W)⟩
    · go_wp2_with (first
      | (go_at_call 23; go_must (refine (cR _ la lb).mono ?_); rintro e w' ⟨rfl, p, rfl⟩; replace HX : Hid (∀ q : Ext p.w, (∀ i, q.w.cell? ⟨w.heap.size, i, none⟩ = (kCells a)[i]?) ∧ (∀ i, q.w.cell? ⟨w.heap.size + 1, i, none⟩ = (kCells b)[i]?)) := fun q => HX.out (p.thenE q); replace fin2 : ∀ q : Ext p.w, ∃ r : Ext w, q.w = r.w := fun q => fin2 (p.thenE q); clear ak0' ak1' ak2' ak3' bk0' bk1' bk2' bk3'; generalize p.w = W at HX fin2 ⊢; clear p; have ak0' : W.cell? ⟨w.heap.size, 0, none⟩ = some (.int .i64 a.kind) := (HX.out (Ch.refl NoS W)).1 0; have ak1' : W.cell? ⟨w.heap.size, 1, none⟩ = some (.int .i64 a.a) := (HX.out (Ch.refl NoS W)).1 1; have ak2' : W.cell? ⟨w.heap.size, 2, none⟩ = some (.int .i64 a.b) := (HX.out (Ch.refl NoS W)).1 2; have ak3' : W.cell? ⟨w.heap.size, 3, none⟩ = some (.string a.s) := (HX.out (Ch.refl NoS W)).1 3; have bk0' : W.cell? ⟨w.heap.size + 1, 0, none⟩ = some (.int .i64 b.kind) := (HX.out (Ch.refl NoS W)).2 0; have bk1' : W.cell? ⟨w.heap.size + 1, 1, none⟩ = some (.int .i64 b.a) := (HX.out (Ch.refl NoS W)).2 1; have bk2' : W.cell? ⟨w.heap.size + 1, 2, none⟩ = some (.int .i64 b.b) := (HX.out (Ch.refl NoS W)).2 2; have bk3' : W.cell? ⟨w.heap.size + 1, 3, none⟩ = some (.string b.s) := (HX.out (Ch.refl NoS W)).2 3)
      | (go_at_call 22; go_must (refine (cS _).mono ?_); rintro e w' ⟨rfl, p, rfl⟩; replace HX : Hid (∀ q : Ext p.w, (∀ i, q.w.cell? ⟨w.heap.size, i, none⟩ = (kCells a)[i]?) ∧ (∀ i, q.w.cell? ⟨w.heap.size + 1, i, none⟩ = (kCells b)[i]?)) := fun q => HX.out (p.thenE q); replace fin2 : ∀ q : Ext p.w, ∃ r : Ext w, q.w = r.w := fun q => fin2 (p.thenE q); clear ak0' ak1' ak2' ak3' bk0' bk1' bk2' bk3'; generalize p.w = W at HX fin2 ⊢; clear p; have ak0' : W.cell? ⟨w.heap.size, 0, none⟩ = some (.int .i64 a.kind) := (HX.out (Ch.refl NoS W)).1 0; have ak1' : W.cell? ⟨w.heap.size, 1, none⟩ = some (.int .i64 a.a) := (HX.out (Ch.refl NoS W)).1 1; have ak2' : W.cell? ⟨w.heap.size, 2, none⟩ = some (.int .i64 a.b) := (HX.out (Ch.refl NoS W)).1 2; have ak3' : W.cell? ⟨w.heap.size, 3, none⟩ = some (.string a.s) := (HX.out (Ch.refl NoS W)).1 3; have bk0' : W.cell? ⟨w.heap.size + 1, 0, none⟩ = some (.int .i64 b.kind) := (HX.out (Ch.refl NoS W)).2 0; have bk1' : W.cell? ⟨w.heap.size + 1, 1, none⟩ = some (.int .i64 b.a) := (HX.out (Ch.refl NoS W)).2 1; have bk2' : W.cell? ⟨w.heap.size + 1, 2, none⟩ = some (.int .i64 b.b) := (HX.out (Ch.refl NoS W)).2 2; have bk3' : W.cell? ⟨w.heap.size + 1, 3, none⟩ = some (.string b.s) := (HX.out (Ch.refl NoS W)).2 3))
      go_ret
      exact ⟨rfl, fin2 (Ch.refl NoS W)⟩
  · go_wp2_with (first
      | (go_at_call 23; go_must (refine (cR _ la lb).mono ?_); rintro e w' ⟨rfl, p, rfl⟩; replace HX : Hid (∀ q : Ext p.w, (∀ i, q.w.cell? ⟨w.heap.size, i, none⟩ = (kCells a)[i]?) ∧ (∀ i, q.w.cell? ⟨w.heap.size + 1, i, none⟩ = (kCells b)[i]?)) := fun q => HX.out (p.thenE q); replace fin2 : ∀ q : Ext p.w, ∃ r : Ext w, q.w = r.w := fun q => fin2 (p.thenE q); clear ak0' ak1' ak2' ak3' bk0' bk1' bk2' bk3'; generalize p.w = W at HX fin2 ⊢; clear p; have ak0' : W.cell? ⟨w.heap.size, 0, none⟩ = some (.int .i64 a.kind) := (HX.out (Ch.refl NoS W)).1 0; have ak1' : W.cell? ⟨w.heap.size, 1, none⟩ = some (.int .i64 a.a) := (HX.out (Ch.refl NoS W)).1 1; have ak2' : W.cell? ⟨w.heap.size, 2, none⟩ = some (.int .i64 a.b) := (HX.out (Ch.refl NoS W)).1 2; have ak3' : W.cell? ⟨w.heap.size, 3, none⟩ = some (.string a.s) := (HX.out (Ch.refl NoS W)).1 3; have bk0' : W.cell? ⟨w.heap.size + 1, 0, none⟩ = some (.int .i64 b.kind) := (HX.out (Ch.refl NoS W)).2 0; have bk1' : W.cell? ⟨w.heap.size + 1, 1, none⟩ = some (.int .i64 b.a) := (HX.out (Ch.refl NoS W)).2 1; have bk2' : W.cell? ⟨w.heap.size + 1, 2, none⟩ = some (.int .i64 b.b) := (HX.out (Ch.refl NoS W)).2 2; have bk3' : W.cell? ⟨w.heap.size + 1, 3, none⟩ = some (.string b.s) := (HX.out (Ch.refl NoS W)).2 3)
      | (go_at_call 22; go_must (refine (cS _).mono ?_); rintro e w' ⟨rfl, p, rfl⟩; replace HX : Hid (∀ q : Ext p.w, (∀ i, q.w.cell? ⟨w.heap.size, i, none⟩ = (kCells a)[i]?) ∧ (∀ i, q.w.cell? ⟨w.heap.size + 1, i, none⟩ = (kCells b)[i]?)) := fun q => HX.out (p.thenE q); replace fin2 : ∀ q : Ext p.w, ∃ r : Ext w, q.w = r.w := fun q => fin2 (p.thenE q); clear ak0' ak1' ak2' ak3' bk0' bk1' bk2' bk3'; generalize p.w = W at HX fin2 ⊢; clear p; have ak0' : W.cell? ⟨w.heap.size, 0, none⟩ = some (.int .i64 a.kind) := (HX.out (Ch.refl NoS W)).1 0; have ak1' : W.cell? ⟨w.heap.size, 1, none⟩ = some (.int .i64 a.a) := (HX.out (Ch.refl NoS W)).1 1; have ak2' : W.cell? ⟨w.heap.size, 2, none⟩ = some (.int .i64 a.b) := (HX.out (Ch.refl NoS W)).1 2; have ak3' : W.cell? ⟨w.heap.size, 3, none⟩ = some (.string a.s) := (HX.out (Ch.refl NoS W)).1 3; have bk0' : W.cell? ⟨w.heap.size + 1, 0, none⟩ = some (.int .i64 b.kind) := (HX.out (Ch.refl NoS W)).2 0; have bk1' : W.cell? ⟨w.heap.size + 1, 1, none⟩ = some (.int .i64 b.a) := (HX.out (Ch.refl NoS W)).2 1; have bk2' : W.cell? ⟨w.heap.size + 1, 2, none⟩ = some (.int .i64 b.b) := (HX.out (Ch.refl NoS W)).2 2; have bk3' : W.cell? ⟨w.heap.size + 1, 3, none⟩ = some (.string b.s) := (HX.out (Ch.refl NoS W)).2 3))
    go_ret
    exact ⟨rfl, fin2 (Ch.refl NoS W)⟩
end Go.Proofs.Cob
