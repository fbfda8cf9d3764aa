/-
  What every row over this program shares: facts on the program, each once; keys opened.
-/
import Derived.Test.YtjhpdmiafecdnaaMem
import Derived.Test.YtjhpdmiafecdnaaKey
import Derived.Test.YtjhpdmiafecdnaaRows
import Derived.ProofKit
import Derived.ChangeOld
import Derived.Lib.SmallJoins
namespace Go.Proofs.Ytjhpdmiafecdnaa
open Go Go.ChangeShapes Go.WideShapes Go.ChangeAt Go.RowKit Go.Joins Go.Cob
open Go.Proofs.Cob
set_option linter.unusedVariables false

theorem own : ownKnob Try.prog.godebug = none := by kernel_rfl
theorem laidOut : laidOutB Try.prog = true := by kernel_rfl
theorem progMaps : mapsRowed Try.prog = true := by kernel_rfl
theorem progStops : (Try.prog.stops == []) = true := by kernel_rfl
theorem progKnobs : (Try.prog.stopKnobs == []) = true := by kernel_rfl
theorem progPlain : (false == Try.prog.plainKeys) = true := by kernel_rfl
theorem progHeard : Try.prog.stopsHeard = true := by kernel_rfl
theorem progEnter : Try.prog.mayEnter = true := by kernel_rfl
theorem progLifts : ((Rows.cellOrdersRow.lifted) == Try.prog.liftsFinal) = true := by kernel_rfl
theorem progMake : (Try.prog.make == some Rows.cellOrdersRow.make) = true := by kernel_rfl
theorem and2 {a b : Bool} (h1 : a = true) (h2 : b = true) : (a && b) = true := by rw [h1, h2]; rfl
theorem cells23 : Try.prog.cellsOf 23 = 4 := by kernel_rfl

set_option maxRecDepth 100000 in
/-- A key by value, opened. -/
theorem open_key {H : Type} {enc : TypeId × Value → H} {W : World} {base b0 : Nat} {spare : Nat → Bool} {held : Bool} {v : Value} {d : DataW H} {p : List MemPlace} (hv : Value.okWide Try.prog W .any b0 23 v) (h : DataW.Trod enc Try.prog W base spare held 23 v d p) :
    ∃ k : Key, v = keyV k := by
  obtain ⟨c0, c1, c2, c3, y0, y1, y2, y3, m, rfl, rfl, rfl, hy0, hy1, hy2, hy3⟩ := open_agg4 Try.underlying23 (by kernel_rfl) cells23 hv h
  obtain ⟨a, e0, rfl, wa⟩ := DataW.trod_int Try.underlying3 hy0
  obtain ⟨b, e1, rfl, wb⟩ := DataW.trod_int Try.underlying3 hy1
  obtain ⟨c, e2, rfl, wc⟩ := DataW.trod_int Try.underlying3 hy2
  obtain ⟨s, e3, rfl, hs⟩ := DataW.trod_string Try.underlying9 hy3
  simp at e0 e1 e2 e3
  subst e0 e1 e2 e3
  exact ⟨⟨a, b, c, s⟩, rfl⟩
end Go.Proofs.Ytjhpdmiafecdnaa
