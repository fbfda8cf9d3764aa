/-
  The reference's store (layer 9): where it lies; Find.
-/
import Derived.Test.YtjhpdmiafecdnaaFree
namespace Go.Proofs.Cob
open Go Go.RowKit Go.Cob
set_option linter.unusedSimpArgs false
set_option linter.unusedVariables false

structure RC where
  k : Key
  wd : Int
  has : Bool
  text : ByteArray
  locked : Bool
  who : Int
abbrev encRC (c : RC) : List Value := [.int .i64 c.k.kind, .int .i64 c.k.a, .int .i64 c.k.b, .string c.k.s, .int .u64 c.wd, .bool c.has, .string c.text, .bool c.locked, .int .i64 c.who]
def rowRC (cs : List RC) : List Value := cs.flatMap encRC
theorem rowRC_length (cs : List RC) : (rowRC cs).length = cs.length * 9 := by
  unfold rowRC
  induction cs with
  | nil => rfl
  | cons c cs ih => rw [List.flatMap_cons, List.length_append, ih]; simp; omega
theorem rowRC_get : ∀ {cs : List RC} {i : Nat} {c : RC}, cs[i]? = some c → ∀ j, j < 9 → (rowRC cs)[i * 9 + j]? = (encRC c)[j]?
  | [], i, c, h, j, hj => by simp at h
  | c0 :: cs, 0, c, h, j, hj => by
    have : c0 = c := by simpa using h
    subst this
    show (encRC c0 ++ rowRC cs)[0 * 9 + j]? = _
    rw [List.getElem?_append_left (by simp; omega)]
    simp
  | c0 :: cs, i + 1, c, h, j, hj => by
    show (encRC c0 ++ rowRC cs)[(i + 1) * 9 + j]? = _
    rw [List.getElem?_append_right (by simp; omega)]
    have : (i + 1) * 9 + j - (encRC c0).length = i * 9 + j := by simp; omega
    rw [this]
    exact rowRC_get (by simpa using h) j hj

structure RefAt (w : World) (r : Nat) (v : Value) (room : Int) (cs : List RC) : Prop where
  st : w.heap[r]? = some (.cells #[.int .i64 room, v] 49 (0, 0))
  row : w.ownsRow 0 46 9 v cs.length (rowRC cs)
theorem RefAt.keep {w w' : World} {r : Nat} {v : Value} {room : Int} {cs : List RC} (h : RefAt w r v room cs) (e : ∀ b, b = r ∨ v.ownBlock = some b → b < w.heap.size → w'.heap[b]? = w.heap[b]?) : RefAt w' r v room cs :=
  ⟨(e r (.inl rfl) (lt_of_blk h.st)).trans h.st, rowKeep h.row fun b hb => by obtain ⟨cur, hc⟩ := rowBlk h.row hb; exact e b (.inr hb) (lt_of_blk hc)⟩
theorem RefAt.ext {w : World} {r : Nat} {v : Value} {room : Int} {cs : List RC} (h : RefAt w r v room cs) (p : Ext w) : RefAt p.w r v room cs := h.keep fun b _ hl => p.same _ hl id

/-- The reference in memory, its blocks within G. -/
structure RefM (w : World) (r : Nat) (room : Int) (cs : List RC) (G : Nat → Prop) : Prop where
  ex : ∃ v, RefAt w r v room cs ∧ ∀ b, v.ownBlock = some b → G b
  gr : G r
theorem RefM.ext {w : World} {r : Nat} {room : Int} {cs : List RC} {G : Nat → Prop} (h : RefM w r room cs G) (p : Ext w) : RefM p.w r room cs G := by
  obtain ⟨⟨v, h1, h2⟩, h3⟩ := h
  exact ⟨⟨v, h1.ext p, h2⟩, h3⟩
theorem RefM.ch {w : World} {r : Nat} {room : Int} {cs : List RC} {G T : Nat → Prop} (h : RefM w r room cs G) (p : Ch T w) (hT : ∀ b, T b → ¬ G b) : RefM p.w r room cs G := by
  obtain ⟨⟨v, h1, h2⟩, h3⟩ := h
  refine ⟨⟨v, h1.keep fun b hb hl => p.same _ hl fun ht => hT b ht ?_, h2⟩, h3⟩
  rcases hb with rfl | hb
  · exact h3
  · exact h2 b hb

/-- The cell's cells. -/
structure RCell (w : World) (g o : Nat) (c : RC) : Prop where
  c0 : w.cell? ⟨g, o, none⟩ = some (.int .i64 c.k.kind)
  c1 : w.cell? ⟨g, o + 1, none⟩ = some (.int .i64 c.k.a)
  c2 : w.cell? ⟨g, o + 2, none⟩ = some (.int .i64 c.k.b)
  c3 : w.cell? ⟨g, o + 3, none⟩ = some (.string c.k.s)
  c4 : w.cell? ⟨g, o + 4, none⟩ = some (.int .u64 c.wd)
  c5 : w.cell? ⟨g, o + 5, none⟩ = some (.bool c.has)
  c6 : w.cell? ⟨g, o + 6, none⟩ = some (.string c.text)
  c7 : w.cell? ⟨g, o + 7, none⟩ = some (.bool c.locked)
  c8 : w.cell? ⟨g, o + 8, none⟩ = some (.int .i64 c.who)
theorem RefAt.get {w : World} {r : Nat} {v : Value} {room : Int} {cs : List RC} (h : RefAt w r v room cs) {i : Nat} {c : RC} (hc : cs[i]? = some c) :
    ∃ g cap, v = .slice (some ⟨g, 0, none⟩) cs.length cap ∧ RCell w g (i * 9) c ∧ ∀ o, w.frozen? ⟨g, o, none⟩ = false := by
  have hi : i < cs.length := (List.getElem?_eq_some_iff.1 hc).1
  obtain ⟨g, cap, rfl, -, -⟩ := h.row.form (by omega)
  have hcell : ∀ j, j < 9 → w.cell? ⟨g, i * 9 + j, none⟩ = (encRC c)[j]? := fun j hj => by
    rw [h.row.cellAt (i * 9 + j) (by omega)]
    exact rowRC_get hc j hj
  exact ⟨g, cap, rfl, ⟨hcell 0 (by omega), hcell 1 (by omega), hcell 2 (by omega), hcell 3 (by omega), hcell 4 (by omega), hcell 5 (by omega), hcell 6 (by omega), hcell 7 (by omega), hcell 8 (by omega)⟩, fun o => h.row.frozenAt o⟩

def findR (cs : List RC) (k : Key) : Option Nat := cs.findIdx? (fun c => decide (c.k = k))
def idxR (cs : List RC) (k : Key) : Int := match findR cs k with | some i => i | none => -1
theorem findR_some {cs : List RC} {k : Key} {i : Nat} (h : findR cs k = some i) : ∃ c, cs[i]? = some c ∧ c.k = k := by
  unfold findR at h
  obtain ⟨h1, h2, -⟩ := List.findIdx?_eq_some_iff_getElem.1 h
  exact ⟨cs[i], List.getElem?_eq_getElem h1, by simpa using h2⟩
theorem findR_at {cs : List RC} {k : Key} {i : Nat} {c : RC} (hc : cs[i]? = some c) (hk : c.k = k) (hne : ∀ c' ∈ cs.take i, c'.k ≠ k) : findR cs k = some i := by
  unfold findR
  obtain ⟨h1, h2⟩ := List.getElem?_eq_some_iff.1 hc
  refine List.findIdx?_eq_some_iff_getElem.2 ⟨h1, by rw [h2]; simpa using hk, fun j hj => ?_⟩
  have := hne cs[j] (List.mem_take_iff_getElem.2 ⟨j, by omega, rfl⟩)
  simpa using this
theorem findR_none {cs : List RC} {k : Key} (h : ∀ c ∈ cs, c.k ≠ k) : findR cs k = none := by
  unfold findR
  rw [List.findIdx?_eq_none_iff]
  intro c hc
  simpa using h c hc
end Go.Proofs.Cob
