/-
  Slices of structs, wherever they lie.
-/
import Derived.Test.YtjhpdmiafecdnaaStructM
namespace Go.Cob
open Go Go.RowKit
set_option linter.unusedSectionVars false
set_option linter.unusedVariables false
section
variable {α : Type} {f : α → List Value} {n : Nat}
/-- A slice whose elements are these. -/
def RowIn (f : α → List Value) (n : Nat) (w : World) (fa : Option Addr) (xs : List α) : Prop :=
  xs = [] ∨ ∃ b off, fa = some ⟨b, off, none⟩ ∧ b < w.heap.size ∧ ∀ i x, xs[i]? = some x → w.rangeAt b (off + i * n) (f x)
theorem RowIn.keep {w w' : World} {fa : Option Addr} {xs : List α} (h : RowIn f n w fa xs) (hs : w.heap.size ≤ w'.heap.size) (e : ∀ a, fa = some a → a.block < w.heap.size → w'.heap[a.block]? = w.heap[a.block]?) : RowIn f n w' fa xs := by
  rcases h with h | ⟨b, off, rfl, hb, h⟩
  · exact .inl h
  · exact .inr ⟨b, off, rfl, Nat.lt_of_lt_of_le hb hs, fun i x hx => rangeAt_keep (h i x hx) (e _ rfl hb)⟩
theorem RowIn.ext {w : World} {fa : Option Addr} {xs : List α} (h : RowIn f n w fa xs) (p : Ext w) : RowIn f n p.w fa xs := h.keep p.size fun a _ hl => p.same _ hl id
theorem RowIn.ch {w : World} {fa : Option Addr} {xs : List α} {T : Nat → Prop} (h : RowIn f n w fa xs) (p : Ch T w) (hT : ∀ a, fa = some a → ¬ T a.block) : RowIn f n p.w fa xs := h.keep p.size fun a ha hl => p.same _ hl (hT a ha)
theorem RowIn.take {w : World} {fa : Option Addr} {xs : List α} (h : RowIn f n w fa xs) (m : Nat) : RowIn f n w fa (xs.take m) := by
  rcases h with rfl | ⟨b, off, rfl, hb, h⟩
  · exact .inl (by simp)
  · refine .inr ⟨b, off, rfl, hb, fun i x hx => h i x ?_⟩
    rw [List.getElem?_take] at hx
    split at hx
    · exact hx
    · cases hx
theorem RowIn.get {w : World} {fa : Option Addr} {xs : List α} (h : RowIn f n w fa xs) {i : Nat} (hi : i < xs.length) : ∃ x, xs[i]? = some x ∧ ∃ b off, fa = some ⟨b, off, none⟩ ∧ b < w.heap.size ∧ w.rangeAt b (off + i * n) (f x) := by
  rcases h with rfl | ⟨b, off, rfl, hb, h⟩
  · simp at hi
  · exact ⟨xs[i], List.getElem?_eq_getElem hi, b, off, rfl, hb, h i _ (List.getElem?_eq_getElem hi)⟩
theorem rowIn_row (hf : ∀ x, (f x).length = n) {w : World} {base e g cap m : Nat} {xs : List α} (h : w.ownsRow base e n (.slice (some ⟨g, 0, none⟩) m cap) m (rowF f xs)) (hm : m = xs.length) : RowIn f n w (some ⟨g, 0, none⟩) xs := by
  obtain ⟨c, hc⟩ := rowBlk h rfl
  exact .inr ⟨g, 0, rfl, lt_of_blk hc, fun i x hx => by rw [Nat.zero_add]; exact rangeAt_row hf h hm hx⟩
/-- Whatever row: as a slice. -/
theorem rowIn_own (hf : ∀ x, (f x).length = n) {w : World} {base e m : Nat} {v : Value} {xs : List α} (h : w.ownsRow base e n v m (rowF f xs)) (hm : m = xs.length) : ∃ fa cap, v = .slice fa m cap ∧ m ≤ cap ∧ RowIn f n w fa xs ∧ ∀ a, fa = some a → base ≤ a.block ∧ a.block < w.heap.size ∧ v.ownBlock = some a.block := by
  have h0 := h
  rcases h.2 with ⟨rfl, h1⟩ | ⟨g, cap, cur, rfl, hg, hh, h1, -⟩
  · have : xs = [] := List.length_eq_zero_iff.1 (by omega)
    exact ⟨none, 0, by rw [h1], by omega, .inl this, fun a ha => by cases ha⟩
  · refine ⟨some ⟨g, 0, none⟩, cap, rfl, h1, rowIn_row hf h0 hm, fun a ha => ?_⟩
    cases ha
    exact ⟨hg, lt_of_blk hh, rfl⟩
end
end Go.Cob
