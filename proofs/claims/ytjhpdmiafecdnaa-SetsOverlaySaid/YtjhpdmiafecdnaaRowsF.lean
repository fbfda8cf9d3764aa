/-
  Rows of structs: the cells of a list of things, each of which fills n cells.
-/
import Derived.Test.YtjhpdmiafecdnaaMem
namespace Go.Cob
open Go Go.RowKit
set_option linter.unusedSectionVars false
set_option linter.unusedVariables false
section
variable {α : Type} (f : α → List Value) {n : Nat}
def rowF (xs : List α) : List Value := xs.flatMap f
@[simp] theorem rowF_nil : rowF f [] = [] := rfl
theorem rowF_cons (x : α) (xs : List α) : rowF f (x :: xs) = f x ++ rowF f xs := rfl
theorem rowF_append (xs ys : List α) : rowF f (xs ++ ys) = rowF f xs ++ rowF f ys := by simp [rowF]
theorem rowF_snoc (xs : List α) (x : α) : rowF f (xs ++ [x]) = rowF f xs ++ f x := by simp [rowF]
theorem rowF_length (hf : ∀ x, (f x).length = n) (xs : List α) : (rowF f xs).length = xs.length * n := by
  induction xs with
  | nil => simp
  | cons x xs ih => rw [rowF_cons, List.length_append, hf, ih, List.length_cons, Nat.succ_mul, Nat.add_comm]
theorem rowF_get (hf : ∀ x, (f x).length = n) : ∀ {xs : List α} {i : Nat} {x : α}, xs[i]? = some x → ∀ j, j < n → (rowF f xs)[i * n + j]? = (f x)[j]?
  | [], i, x, h, j, hj => by simp at h
  | y :: xs, 0, x, h, j, hj => by
    have : y = x := by simpa using h
    subst this
    rw [rowF_cons, List.getElem?_append_left (by rw [hf]; omega)]
    simp
  | y :: xs, i + 1, x, h, j, hj => by
    rw [rowF_cons, List.getElem?_append_right (by rw [hf, Nat.succ_mul]; omega), hf]
    rw [show (i + 1) * n + j - n = i * n + j from by rw [Nat.succ_mul]; omega]
    exact rowF_get hf (by simpa using h) j hj
theorem rowF_set (hf : ∀ x, (f x).length = n) : ∀ {xs : List α} {i : Nat} {x x' : α} {j : Nat} {u : Value}, xs[i]? = some x → j < n → f x' = (f x).set j u → (rowF f xs).set (i * n + j) u = rowF f (xs.set i x')
  | [], i, x, x', j, u, h, hj, e => by simp at h
  | y :: xs, 0, x, x', j, u, h, hj, e => by
    have : y = x := by simpa using h
    subst this
    show (f y ++ rowF f xs).set (0 * n + j) u = f x' ++ rowF f xs
    rw [e, List.set_append_left _ _ (by rw [hf]; omega)]
    simp
  | y :: xs, i + 1, x, x', j, u, h, hj, e => by
    show (f y ++ rowF f xs).set ((i + 1) * n + j) u = f y ++ rowF f (xs.set i x')
    rw [List.set_append_right _ _ (by rw [hf, Nat.succ_mul]; omega), hf, show (i + 1) * n + j - n = i * n + j from by rw [Nat.succ_mul]; omega, rowF_set hf (by simpa using h) hj e]
theorem rowF_mem (hc : ∀ x, ∀ u ∈ f x, u.oneCell' = true) (xs : List α) : ∀ u ∈ rowF f xs, u.oneCell' = true := by
  intro u hu
  unfold rowF at hu
  rw [List.mem_flatMap] at hu
  obtain ⟨x, _, hu⟩ := hu
  exact hc x u hu
end
end Go.Cob
