/-
  Layer 13: Writes on sets in memory.
-/
import Derived.Test.YtjhpdmiafecdnaaSetE
namespace Go.Proofs.Cob
open Go Go.RowKit Go.Cob
set_option linter.unusedSimpArgs false
set_option linter.unusedVariables false

structure Wr where
  k : Key
  tx : ByteArray
  has : Bool
  deriving DecidableEq
abbrev encWr (x : Wr) : List Value := encKey x.k ++ [.string x.tx, .bool x.has]
def rowWr (xs : List Wr) : List Value := xs.flatMap encWr
theorem rowWr_length (xs : List Wr) : (rowWr xs).length = xs.length * 6 := by
  induction xs with
  | nil => rfl
  | cons x xs ih => simp only [rowWr, List.flatMap_cons, List.length_append, List.length_cons, List.length_nil] at ih ⊢; omega
theorem rowWr_snoc (xs : List Wr) (x : Wr) : rowWr (xs ++ [x]) = rowWr xs ++ encWr x := by simp [rowWr]
def txOf (W : List (Key × Tx)) (k : Key) : Tx := (aget W k).getD ⟨⟨#[]⟩, false⟩
def snOf (S : List (Key × Sn)) (k : Key) : Sn := (aget S k).getD ⟨0, ⟨#[]⟩, false⟩
/-- The write at a key, if it isn't what was seen. -/
def wrOf (S : List (Key × Sn)) (W : List (Key × Tx)) (k : Key) : Option Wr := if (⟨(snOf S k).tx, (snOf S k).has⟩ : Tx) = txOf W k then none else some ⟨k, (txOf W k).tx, (txOf W k).has⟩
def writesM (S : List (Key × Sn)) (W : List (Key × Tx)) : List Wr := (sortK (W.map (·.1))).filterMap (wrOf S W)
theorem info110 : ∃ i z, Try.prog.info? 110 = some i ∧ i.zero = some z ∧ i.size = 6 ∧ i.bytes = 64 ∧ z.cells.size = 6 :=
  ⟨(Try.prog.info? 110).get (by kernel_rfl), .agg #[.int .i64 0, .int .i64 0, .int .i64 0, .string ⟨#[]⟩, .string ⟨#[]⟩, .bool false], (Option.some_get _).symm, by kernel_rfl, by kernel_rfl, by kernel_rfl, by kernel_rfl⟩
/-- A slice of writes, in a block of its own. -/
def WritesOut (w0 : World) (v : Value) (xs : List Wr) (w' : World) : Prop := ∃ p : Ext w0, w' = p.w ∧ p.w.ownsRow w0.heap.size 110 6 v xs.length (rowWr xs)
end Go.Proofs.Cob
