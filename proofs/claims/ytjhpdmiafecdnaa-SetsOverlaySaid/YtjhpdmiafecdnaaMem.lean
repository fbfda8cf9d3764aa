/-
  WORLDS THAT COME OUT OF A WORLD ('Ch'), blocks of cells, and maps as lists of their entries, in the order in which they were laid.
-/
import Derived.Test.YtjhpdmiafecdnaaMix
import Derived.WalkKit
import Derived.WalkLawsBesides
import Derived.WalkSpells
import Derived.Outline
namespace Go.Cob
open Go.RowKit
set_option linter.unusedSectionVars false
set_option linter.unusedSimpArgs false
set_option linter.unusedVariables false

/-- A world that has come out of w0: new blocks, and what S lets turn. -/
structure Ch (S : Nat → Prop) (w0 : World) where
  w : World
  os : w.os = w0.os
  tape : w.tape = w0.tape
  output : w.output = w0.output
  size : w0.heap.size ≤ w.heap.size
  same : ∀ b, b < w0.heap.size → ¬ S b → w.heap[b]? = w0.heap[b]?

abbrev NoS : Nat → Prop := fun _ => False
abbrev Ext (w0 : World) := Ch NoS w0

def Ch.refl (S : Nat → Prop) (w0 : World) : Ch S w0 := ⟨w0, rfl, rfl, rfl, Nat.le_refl _, fun _ _ _ => rfl⟩
instance (S : Nat → Prop) (w0 : World) : Nonempty (Ch S w0) := ⟨.refl S w0⟩
instance (S : Nat → Prop) (w0 : World) : Inhabited (Ch S w0) := ⟨.refl S w0⟩

/-! ### blocks -/
theorem cell_at {w : World} {b : Nat} {c : Array Value} {t : TypeId} {fr : Nat × Nat} (i : Nat) (h : w.heap[b]? = some (.cells c t fr)) : w.cell? ⟨b, i, none⟩ = c[i]? := by
  simp [World.cell?, h]
theorem frozen_at {w : World} {b : Nat} {c : Array Value} {t : TypeId} (i : Nat) (h : w.heap[b]? = some (.cells c t (0, 0))) : w.frozen? ⟨b, i, none⟩ = false := by
  simp [World.frozen?, h]
theorem lt_of_blk {w : World} {b : Nat} {o : Obj} (h : w.heap[b]? = some o) : b < w.heap.size := by
  rcases Nat.lt_or_ge b w.heap.size with h' | h'
  · exact h'
  · simp [Array.getElem?_eq_none h'] at h
theorem heap_alloc_at (w : World) (o : Obj) : (w.alloc o).heap[w.heap.size]? = some o := by
  show (w.heap.push o)[w.heap.size]? = _
  simp
theorem heap_alloc_eq {w : World} {n : Nat} (o : Obj) (h : n = w.heap.size) : (w.alloc o).heap[n]? = some o := by subst h; exact heap_alloc_at w o
theorem heap_alloc_lt {w : World} {b : Nat} (o : Obj) (h : b < w.heap.size) : (w.alloc o).heap[b]? = w.heap[b]? := by
  show (w.heap.push o)[b]? = _
  simp [Array.getElem?_push, Nat.ne_of_lt h]
theorem heap_alloc_blk {w : World} {b : Nat} {o' : Obj} (o : Obj) (h : w.heap[b]? = some o') : (w.alloc o).heap[b]? = some o' := by
  rw [heap_alloc_lt o (lt_of_blk h)]; exact h
theorem heap_set_other {w : World} {b g i : Nat} (h : g ≠ b) (v : Value) : (w.setCell ⟨b, i, none⟩ v).heap[g]? = w.heap[g]? := Below.heap_setCell w ⟨b, i, none⟩ v g h
theorem heap_set_same {w : World} {b : Nat} {c : Array Value} {t : TypeId} {fr : Nat × Nat} (h : w.heap[b]? = some (.cells c t fr)) (i : Nat) (v : Value) :
    (w.setCell ⟨b, i, none⟩ v).heap[b]? = some (.cells (c.setIfInBounds i v) t fr) := by
  simp only [World.setCell]
  rw [Array.getElem?_modify]
  simp [h]
theorem drew_heap (w : World) : w.drew.heap = w.heap := rfl

/-! ### Ch -/
section
variable {S : Nat → Prop} {w0 : World}
theorem Ch.blk (p : Ch S w0) {b : Nat} {o : Obj} (h : w0.heap[b]? = some o) (hS : ¬ S b) : p.w.heap[b]? = some o := by
  rw [p.same b (lt_of_blk h) hS]; exact h
theorem Ch.blkE {w0 : World} (p : Ext w0) {b : Nat} {o : Obj} (h : w0.heap[b]? = some o) : p.w.heap[b]? = some o := p.blk h id
theorem Ch.lt (p : Ch S w0) {b : Nat} (h : b < w0.heap.size) : b < p.w.heap.size := Nat.lt_of_lt_of_le h p.size
/-- One step more: what turns is of S, or was not there at first. -/
def Ch.then (p : Ch S w0) {T : Nat → Prop} (q : Ch T p.w) (h : ∀ b, b < w0.heap.size → T b → S b) : Ch S w0 :=
  ⟨q.w, q.os.trans p.os, q.tape.trans p.tape, q.output.trans p.output, Nat.le_trans p.size q.size, fun b hb hS => by
    rw [q.same b (p.lt hb) (fun hT => hS (h b hb hT)), p.same b hb hS]⟩
def Ch.onto {W : World} (p : Ch S w0) (e : W = p.w) {T : Nat → Prop} (q : Ch T W) (h : ∀ b, b < w0.heap.size → T b → S b) : Ch S w0 :=
  ⟨q.w, by rw [q.os, e, p.os], by rw [q.tape, e, p.tape], by rw [q.output, e, p.output], Nat.le_trans p.size (e ▸ q.size), fun b hb hS => by
    rw [q.same b (e ▸ p.lt hb) (fun hT => hS (h b hb hT)), e, p.same b hb hS]⟩
@[simp] theorem Ch.onto_w {W : World} (p : Ch S w0) (e : W = p.w) {T : Nat → Prop} (q : Ch T W) (h : ∀ b, b < w0.heap.size → T b → S b) : (p.onto e q h).w = q.w := rfl
def Ch.thenE (p : Ch S w0) (q : Ext p.w) : Ch S w0 := p.then q (fun _ _ h => h.elim)
def Ch.alloc (p : Ch S w0) (o : Obj) : Ch S w0 :=
  ⟨p.w.alloc o, p.os, p.tape, p.output, by have := p.size; simp; omega, fun b hb hS => by rw [heap_alloc_lt o (p.lt hb)]; exact p.same b hb hS⟩
def Ch.drew (p : Ch S w0) : Ch S w0 := ⟨p.w.drew, p.os, p.tape, p.output, p.size, p.same⟩
def Ch.set (p : Ch S w0) (b i : Nat) (v : Value) (h : b < w0.heap.size → S b) : Ch S w0 :=
  ⟨p.w.setCell ⟨b, i, none⟩ v, p.os, p.tape, p.output, by have := p.size; simp; omega, fun g hg hS => by
    by_cases e : g = b
    · subst e; exact absurd (h hg) hS
    · rw [heap_set_other e]; exact p.same g hg hS⟩
def Ch.mono {T : Nat → Prop} (p : Ch S w0) (h : ∀ b, b < w0.heap.size → S b → T b) : Ch T w0 :=
  ⟨p.w, p.os, p.tape, p.output, p.size, fun b hb hT => p.same b hb (fun hS => hT (h b hb hS))⟩
def Ch.up (T : Nat → Prop) (p : Ext w0) : Ch T w0 := p.mono (fun _ _ h => h.elim)
@[simp] theorem Ch.up_w (T : Nat → Prop) (p : Ext w0) : (p.up T).w = p.w := rfl
theorem Ch.below (p : Ext w0) : Below w0.heap.size w0 p.w := ⟨p.os, p.tape, p.output, p.size, fun b hb => p.same b hb id⟩
def Ch.ofBelow {w : World} (h : Below w0.heap.size w0 w) : Ext w0 := ⟨w, h.os, h.tape, h.output, h.size, fun b hb _ => h.block b hb⟩
@[simp] theorem Ch.then_w (p : Ch S w0) {T : Nat → Prop} (q : Ch T p.w) (h : ∀ b, b < w0.heap.size → T b → S b) : (p.then q h).w = q.w := rfl
@[simp] theorem Ch.thenE_w (p : Ch S w0) (q : Ext p.w) : (p.thenE q).w = q.w := rfl
@[simp] theorem Ch.alloc_w (p : Ch S w0) (o : Obj) : (p.alloc o).w = p.w.alloc o := rfl
@[simp] theorem Ch.set_w (p : Ch S w0) (b i : Nat) (v : Value) (h : b < w0.heap.size → S b) : (p.set b i v h).w = p.w.setCell ⟨b, i, none⟩ v := rfl
@[simp] theorem Ch.mono_w {T : Nat → Prop} (p : Ch S w0) (h : ∀ b, b < w0.heap.size → S b → T b) : (p.mono h).w = p.w := rfl
@[simp] theorem Ch.refl_w : (Ch.refl S w0).w = w0 := rfl
end

/-! ### a region that draws its order -/
theorem wpMix_step {P : Program} {ops : Array Oper} {C : World → Prop} {Q : Act → World → Prop} {o : Oper} {rest : List Oper} {a : Act} {w : World}
    (h : ∀ K : Act → World → Prop, (∀ a w, wpMix P ops C Q rest a w → K a w) →
      if Region.wanted o (yielded ops a.tmps) = true then
        if isEff o = true then effAt P o a w (fun a' w' => C w' ∧ K a' w') else ∃ v, (∀ w', C w' → readsAt P o a w' v) ∧ K (a.put o.dst v) w
      else K (a.put o.dst undef) w) : wpMix P ops C Q (o :: rest) a w := by
  have := h _ fun _ _ h => h
  unfold wpMix
  refine ⟨trivial, ?_⟩
  split
  · rename_i hw; rw [if_pos hw] at this; split
    · rename_i he; rw [if_pos he] at this; exact ⟨trivial, this⟩
    · rename_i he; rw [if_neg he] at this; exact this
  · rename_i hw; rw [if_neg hw] at this; exact this
theorem wpMix_nil {P : Program} {ops : Array Oper} {C : World → Prop} {Q : Act → World → Prop} {a : Act} {w : World} (h : Q a w) : wpMix P ops C Q [] a w := h

theorem wpMix_skip {P : Program} {ops : Array Oper} {C : World → Prop} {Q : Act → World → Prop} {o : Oper} {rest : List Oper} {a : Act} {w : World}
    (hw : Region.wanted o (yielded ops a.tmps) = false) (he : a.put o.dst undef = a) (h : wpMix P ops C Q rest a w) : wpMix P ops C Q (o :: rest) a w := by
  unfold wpMix
  refine ⟨trivial, ?_⟩
  rw [if_neg (by simp [hw]), he]
  exact h

/-- The class of a region: what has come out of w. -/
theorem wp_region_ch {P : Program} {id : Nat} {Q : Exit → Act → World → Prop} {a : Act} {w : World} {l : List Oper} (S : Nat → Prop) (hm : P.follows .mixedOrders = true) (hB : mixB l.toArray = true)
    (h : ∀ p : Ch S w, p.w.heap = w.heap → wpMix P l.toArray (fun w' => ∃ p : Ch S w, w' = p.w) (Q .normal) l a p.w) : (Code.region id l.toArray true).wp P Q a w :=
  wp_region_mix (C := fun w' => ∃ p : Ch S w, w' = p.w) hm hB ⟨⟨{ w with drawn := w.drawn + 1 }, rfl, rfl, rfl, Nat.le_refl _, fun _ _ _ => rfl⟩, rfl⟩ (h ⟨{ w with drawn := w.drawn + 1 }, rfl, rfl, rfl, Nat.le_refl _, fun _ _ _ => rfl⟩ rfl)

attribute [go_sem] isEff

/-! ### rows of the program's own -/
theorem rowKeep {w w' : World} {base e size n : Nat} {v : Value} {xs : List Value} (h : w.ownsRow base e size v n xs) (he : ∀ g, v.ownBlock = some g → w'.heap[g]? = w.heap[g]?) : w'.ownsRow base e size v n xs := by
  obtain ⟨h1, h2⟩ := h
  refine ⟨h1, ?_⟩
  rcases h2 with h2 | ⟨g, cap, cur, hv, hg, hh, r⟩
  · exact .inl h2
  · exact .inr ⟨g, cap, cur, hv, hg, by rw [he g (by rw [hv]; rfl)]; exact hh, r⟩
theorem rowPop {w : World} {base e g n cap : Nat} {xs : List Value} {x : Value} (h : w.ownsRow base e 1 (.slice (some ⟨g, 0, none⟩) (n + 1) cap) (n + 1) (xs ++ [x])) : w.ownsRow base e 1 (.slice (some ⟨g, 0, none⟩) n cap) n xs := by
  obtain ⟨h1, h2 | ⟨g', cap', cur, hv, hg, hh, r1, r2, r3, r4⟩⟩ := h
  · exact absurd h2.1 (by simp)
  · simp only [Value.slice.injEq, Option.some.injEq, Addr.mk.injEq, and_true] at hv
    obtain ⟨rfl, _, rfl⟩ := hv
    have hx : xs.length = n := by simpa using h1
    refine ⟨by simpa using hx, .inr ⟨g, cap, cur, rfl, hg, hh, by omega, r2, r3, ?_⟩⟩
    have : (cur.toList.take ((n + 1) * 1)).take n = xs := by rw [r4, ← hx]; simp
    rw [List.take_take] at this
    simpa using this
theorem rowBlk {w : World} {base e size n : Nat} {v : Value} {xs : List Value} (h : w.ownsRow base e size v n xs) {g : Nat} (hg : v.ownBlock = some g) : ∃ cur, w.heap[g]? = some (.cells cur e (0, 0)) := by
  obtain ⟨_, h2 | ⟨g', cap', cur, hv, _, hh, _⟩⟩ := h
  · rw [h2.1] at hg; cases hg
  · rw [hv] at hg; injection hg with hg; simp at hg; subst hg; exact ⟨cur, hh⟩
/-- Two blocks of cells of different types are two. -/
theorem blkNe {w : World} {b g : Nat} {c c' : Array Value} {t t' : TypeId} {fr fr' : Nat × Nat} (h : w.heap[b]? = some (.cells c t fr)) (h' : w.heap[g]? = some (.cells c' t' fr')) (ht : t ≠ t') : b ≠ g := by
  rintro rfl
  rw [h] at h'
  injection h' with h'
  injection h' with _ h2
  exact ht h2

/-! ### maps -/
/-- How a type's values serve as keys. -/
structure KeyLaw {α : Type} [DecidableEq α] (P : Program) (kt : TypeId) (encK : α → Value) : Prop where
  check : ∀ (e : Bool) (k : α) (w : World), (Instr.checkKey e 10000 kt (encK k)).run P w = .ok () w
  find : ∀ (k : α) (es : List MapEntry) (ks : List α) (w : World), es.map (·.key) = ks.map encK →
    (Instr.findKey kt (encK k) es).run P w = .ok ((ks.findIdx? (· = k)).map fun i => (i, (es.map (·.val)).getD i undef)) w
  bits : ∀ k : α, Instr.sameBits 10000 (encK k) (encK k) = true

section
variable {α β : Type} [DecidableEq α] {P : Program} {kt vt : TypeId} {encK : α → Value} {encV : β → Value}

/-- The entries of a map's block. -/
def ents (encK : α → Value) (encV : β → Value) : List (α × β) → List Nat → List MapEntry
  | (k, v) :: l, b :: bs => { key := encK k, val := encV v, born := b } :: ents encK encV l bs
  | _, _ => []

/-- Block m is a map with just the entries l, in the order in which they were laid. -/
def MapAt (encK : α → Value) (encV : β → Value) (w : World) (m : Nat) (l : List (α × β)) : Prop :=
  ∃ bs c, w.heap[m]? = some (.map (ents encK encV l bs).toArray c) ∧ bs.length = l.length ∧ bs.Pairwise (· < ·) ∧ ∀ b ∈ bs, b < c

theorem ents_keys : ∀ (l : List (α × β)) (bs : List Nat), bs.length = l.length → (ents encK encV l bs).map (·.key) = (l.map (·.1)).map encK
  | [], [], _ => rfl
  | (k, v) :: l, b :: bs, h => by simp only [ents, List.map_cons]; rw [ents_keys l bs (by simpa using h)]
theorem ents_vals : ∀ (l : List (α × β)) (bs : List Nat), bs.length = l.length → (ents encK encV l bs).map (·.val) = l.map fun p => encV p.2
  | [], [], _ => rfl
  | (k, v) :: l, b :: bs, h => by simp only [ents, List.map_cons]; rw [ents_vals l bs (by simpa using h)]
theorem ents_length : ∀ (l : List (α × β)) (bs : List Nat), bs.length = l.length → (ents encK encV l bs).length = l.length
  | [], [], _ => rfl
  | (k, v) :: l, b :: bs, h => by simp only [ents, List.length_cons]; rw [ents_length l bs (by simpa using h)]

/-- The value at a key. -/
def aget (l : List (α × β)) (k : α) : Option β := (l.find? (fun p => p.1 = k)).map (·.2)
/-- The list with a key's value set, behind, if it wasn't there. -/
def aput : List (α × β) → α → β → List (α × β)
  | [], k, v => [(k, v)]
  | p :: l, k, v => if p.1 = k then (k, v) :: l else p :: aput l k v
/-- The list without a key. -/
def adel : List (α × β) → α → List (α × β)
  | [], _ => []
  | p :: l, k => if p.1 = k then l else p :: adel l k

theorem MapAt.made (w : World) : MapAt encK encV (w.alloc (.map #[] 0)) w.heap.size ([] : List (α × β)) :=
  ⟨[], 0, heap_alloc_at _ _, rfl, .nil, by simp⟩
theorem MapAt.made' {w : World} {n : Nat} (h : n = w.heap.size) : MapAt encK encV (w.alloc (.map #[] 0)) n ([] : List (α × β)) := by
  subst h; exact ⟨[], 0, heap_alloc_at _ _, rfl, .nil, by simp⟩
theorem MapAt.keep {w w' : World} {m : Nat} {l : List (α × β)} (h : MapAt encK encV w m l) (e : w'.heap[m]? = w.heap[m]?) : MapAt encK encV w' m l := by
  obtain ⟨bs, c, h1, h2⟩ := h
  exact ⟨bs, c, e.trans h1, h2⟩
theorem MapAt.ne_cells {w : World} {m b : Nat} {l : List (α × β)} {c : Array Value} {t : TypeId} {fr : Nat × Nat} (h : MapAt encK encV w m l) (hb : w.heap[b]? = some (.cells c t fr)) : m ≠ b := by
  rintro rfl
  obtain ⟨bs, cl, h1, _⟩ := h
  rw [h1] at hb
  cases hb
theorem MapAt.lt {w : World} {m : Nat} {l : List (α × β)} (h : MapAt encK encV w m l) : m < w.heap.size := by
  obtain ⟨bs, c, h1, _⟩ := h
  exact lt_of_blk h1

theorem find_cases (l : List (α × β)) (k : α) :
    ((l.map (·.1)).findIdx? (· = k) = none ∧ aget l k = none ∧ adel l k = l ∧ ∀ v, aput l k v = l ++ [(k, v)]) ∨
    ∃ l1 v l2, l = l1 ++ (k, v) :: l2 ∧ (l.map (·.1)).findIdx? (· = k) = some l1.length ∧ aget l k = some v ∧ adel l k = l1 ++ l2 ∧ ∀ v', aput l k v' = l1 ++ (k, v') :: l2 := by
  induction l with
  | nil => exact .inl ⟨rfl, rfl, rfl, fun _ => rfl⟩
  | cons p l ih =>
    by_cases h : p.1 = k
    · right
      refine ⟨[], p.2, l, by rw [← h]; rfl, by simp [List.findIdx?_cons, h], by simp [aget, h], by simp [adel, h], fun v' => by simp [aput, h]⟩
    · rcases ih with ⟨h1, h2, h3, h4⟩ | ⟨l1, v, l2, h1, h2, h3, h4, h5⟩
      · left
        refine ⟨by simp only [List.map_cons, List.findIdx?_cons, h, decide_false, h1]; rfl, ?_, by simp [adel, h, h3], fun v => by simp [aput, h, h4]⟩
        simp only [aget, List.find?_cons, h, decide_false] at h2 ⊢
        exact h2
      · right
        refine ⟨p :: l1, v, l2, by rw [h1]; rfl, ?_, ?_, by simp [adel, h, h4], fun v' => by simp [aput, h, h5]⟩
        · simp only [List.map_cons, List.findIdx?_cons, h, decide_false, h2]; rfl
        · simp only [aget, List.find?_cons, h, decide_false] at h3 ⊢
          exact h3

theorem ents_append : ∀ (l1 l2 : List (α × β)) (b1 b2 : List Nat), b1.length = l1.length → ents encK encV (l1 ++ l2) (b1 ++ b2) = ents encK encV l1 b1 ++ ents encK encV l2 b2
  | [], l2, [], b2, _ => rfl
  | (k, v) :: l1, l2, b :: b1, b2, h => by simp only [List.cons_append, ents]; rw [ents_append l1 l2 b1 b2 (by simpa using h)]

theorem run_getObj_map' {w : World} {m : Nat} {es : Array MapEntry} {c : Nat} (h : w.heap[m]? = some (.map es c)) : (getObj m).run P w = .ok (.map es c) w := by
  simp [getObj, Sem.run, h]
/-- The world with block m's object turned. -/
def putO (w : World) (m : Nat) (o : Obj) : World := { w with heap := w.heap.setIfInBounds m o }
theorem run_setObj_map' {w : World} {m : Nat} {es : Array MapEntry} {c : Nat} (o : Obj) (h : w.heap[m]? = some (.map es c)) : (setObj m o).run P w = .ok () (putO w m o) := by
  simp [setObj, Sem.run, h, putO]
theorem putO_at {w : World} {m : Nat} (o : Obj) (h : m < w.heap.size) : (putO w m o).heap[m]? = some o := by
  show (w.heap.setIfInBounds m o)[m]? = _
  simp [h]
theorem putO_other {w : World} {m g : Nat} (o : Obj) (h : g ≠ m) : (putO w m o).heap[g]? = w.heap[g]? := by
  show (w.heap.setIfInBounds m o)[g]? = _
  rw [Array.getElem?_setIfInBounds_ne (Ne.symm h)]
theorem putO_size {w : World} {m : Nat} (o : Obj) : (putO w m o).heap.size = w.heap.size := by simp [putO]
@[go_sem] theorem cell?_putO {w : World} {m b i : Nat} (o : Obj) (h : b ≠ m) : (putO w m o).cell? ⟨b, i, none⟩ = w.cell? ⟨b, i, none⟩ := by
  simp only [World.cell?, putO_other o h]
@[go_sem] theorem frozen?_putO {w : World} {m b i : Nat} (o : Obj) (h : b ≠ m) : (putO w m o).frozen? ⟨b, i, none⟩ = w.frozen? ⟨b, i, none⟩ := by
  simp only [World.frozen?, putO_other o h]
@[go_sem] theorem size_putO {w : World} {m : Nat} (o : Obj) : (putO w m o).heap.size = w.heap.size := putO_size o
def Ch.putO {S : Nat → Prop} {w0 : World} (p : Ch S w0) (m : Nat) (o : Obj) (h : m < w0.heap.size → S m) : Ch S w0 :=
  ⟨Cob.putO p.w m o, p.os, p.tape, p.output, by rw [putO_size]; exact p.size, fun g hg hS => by
    by_cases e : g = m
    · subst e; exact absurd (h hg) hS
    · rw [putO_other o e]; exact p.same g hg hS⟩

@[simp] theorem Ch.putO_w {S : Nat → Prop} {w0 : World} (p : Ch S w0) (m : Nat) (o : Obj) (h : m < w0.heap.size → S m) : (p.putO m o h).w = Cob.putO p.w m o := rfl

theorem bs_split {l1 l2 : List (α × β)} {x : α × β} {bs : List Nat} (h : bs.length = (l1 ++ x :: l2).length) : ∃ b1 b b2, bs = b1 ++ b :: b2 ∧ b1.length = l1.length ∧ b2.length = l2.length := by
  refine ⟨bs.take l1.length, bs.getD l1.length 0, bs.drop (l1.length + 1), ?_, by simp at h ⊢; omega, by simp at h ⊢; omega⟩
  have hl : l1.length < bs.length := by simp at h; omega
  rw [List.getD_eq_getElem?_getD, List.getElem?_eq_getElem hl, Option.getD_some, List.getElem_cons_drop, List.take_append_drop]

theorem MapAt.lookBoth {w : World} {m : Nat} {l : List (α × β)} {t : TypeId} (h : MapAt encK encV w m l) (K : KeyLaw P kt encK) (ht : P.underlying t = some (.map kt vt)) {z : Value} (hz : ∀ w, (zeroValue vt).run P w = .ok z w) (k : α) (c : Bool) :
    (Instr.lookup t (.map (some m)) (encK k) c).run P w = .ok (if c then .tuple #[(aget l k).elim z encV, .bool (aget l k).isSome] else (aget l k).elim z encV) w := by
  obtain ⟨bs, cl, h1, h2, h3, h4⟩ := h
  have hf := K.find k (ents encK encV l bs) (l.map (·.1)) w (ents_keys l bs h2)
  rw [ents_vals l bs h2] at hf
  rcases find_cases l k with ⟨e1, e2, -, -⟩ | ⟨l1, v, l2, e0, e1, e2, -, -⟩
  · rw [e1] at hf
    rw [e2]
    simp [Instr.lookup, run_underlying ht, run_getObj_map' h1, K.check, hf, hz]
  · rw [e1] at hf
    rw [e2]
    have hv : (l.map fun p => encV p.2).getD l1.length undef = encV v := by rw [e0]; simp
    rw [Option.map_some, hv] at hf
    simp [Instr.lookup, run_underlying ht, run_getObj_map' h1, K.check, hf]

theorem MapAt.look {w : World} {m : Nat} {l : List (α × β)} {t : TypeId} (h : MapAt encK encV w m l) (K : KeyLaw P kt encK) (ht : P.underlying t = some (.map kt vt)) {z : Value} (hz : ∀ w, (zeroValue vt).run P w = .ok z w) (k : α) :
    (Instr.lookup t (.map (some m)) (encK k) false).run P w = .ok ((aget l k).elim z encV) w := h.lookBoth K ht hz k false
theorem MapAt.lookOk {w : World} {m : Nat} {l : List (α × β)} {t : TypeId} (h : MapAt encK encV w m l) (K : KeyLaw P kt encK) (ht : P.underlying t = some (.map kt vt)) {z : Value} (hz : ∀ w, (zeroValue vt).run P w = .ok z w) (k : α) :
    (Instr.lookup t (.map (some m)) (encK k) true).run P w = .ok (.tuple #[(aget l k).elim z encV, .bool (aget l k).isSome]) w := h.lookBoth K ht hz k true

theorem MapAt.put {w : World} {m : Nat} {l : List (α × β)} {t : TypeId} (h : MapAt encK encV w m l) (K : KeyLaw P kt encK) (ht : P.underlying t = some (.map kt vt)) (k : α) (v : β) :
    ∃ o, (Instr.mapUpdate t (.map (some m)) (encK k) (encV v)).run P w = .ok () (putO w m o) ∧ MapAt encK encV (putO w m o) m (aput l k v) := by
  have hm := h.lt
  obtain ⟨bs, cl, h1, h2, h3, h4⟩ := h
  have hf := K.find k (ents encK encV l bs) (l.map (·.1)) w (ents_keys l bs h2)
  rw [ents_vals l bs h2] at hf
  rcases find_cases l k with ⟨e1, -, -, e2⟩ | ⟨l1, v0, l2, e0, e1, -, -, e2⟩
  · rw [e1] at hf
    refine ⟨.map ((ents encK encV l bs).toArray.push { key := encK k, val := encV v, born := cl }) (cl + 1), ?_, ?_⟩
    · simp [Instr.mapUpdate, run_underlying ht, run_getObj_map' h1, K.check, hf, run_setObj_map' _ h1]
    · rw [e2 v]
      refine ⟨bs ++ [cl], cl + 1, ?_, by simp [h2], ?_, ?_⟩
      · rw [putO_at _ hm, ents_append l [(k, v)] bs [cl] h2]; simp [ents]
      · rw [List.pairwise_append]; exact ⟨h3, by simp, fun a ha b hb => by simp at hb; subst hb; exact h4 a ha⟩
      · intro b hb; simp at hb; rcases hb with hb | hb
        · have := h4 b hb; omega
        · omega
  · rw [e1] at hf
    subst e0
    obtain ⟨b1, b, b2, rfl, hb1, hb2⟩ := bs_split h2
    have hs : ents encK encV (l1 ++ (k, v0) :: l2) (b1 ++ b :: b2) = ents encK encV l1 b1 ++ { key := encK k, val := encV v0, born := b } :: ents encK encV l2 b2 := by rw [ents_append _ _ _ _ hb1]; rfl
    have hl1 := ents_length (encK := encK) (encV := encV) l1 b1 hb1
    have hkey : ((ents encK encV (l1 ++ (k, v0) :: l2) (b1 ++ b :: b2))[l1.length]?).map (·.key) = some (encK k) := by rw [hs]; simp [hl1]
    refine ⟨.map ((ents encK encV (l1 ++ (k, v0) :: l2) (b1 ++ b :: b2)).toArray.modify l1.length fun e => { e with key := encK k, val := encV v }) cl, ?_, ?_⟩
    · have hks : ∀ w, (Instr.keyThatStays (encK k) (encK k)).run P w = .ok (encK k) w := fun w => by simp [Instr.keyThatStays, K.bits]
      simp only [Option.map_some] at hf
      simp [Instr.mapUpdate, run_underlying ht, run_getObj_map' h1, K.check, hf, hkey, hks, run_setObj_map' _ h1]
    · rw [e2 v]
      refine ⟨b1 ++ b :: b2, cl, ?_, by simpa using h2, h3, h4⟩
      rw [putO_at _ hm, hs, ents_append l1 ((k, v) :: l2) b1 (b :: b2) hb1]
      simp only [ents]
      congr 1
      congr 1
      apply Array.ext'
      simp only [Array.toList_modify]
      have hmod : ∀ (A : List MapEntry) (x : MapEntry) (B : List MapEntry) (f : MapEntry → MapEntry), (A ++ x :: B).modify A.length f = A ++ f x :: B := by
        intro A x B f
        induction A with
        | nil => rfl
        | cons a A ih => simp [ih]
      rw [← hl1, hmod]

theorem MapAt.del {w : World} {m : Nat} {l : List (α × β)} {t ty : TypeId} (h : MapAt encK encV w m l) (K : KeyLaw P kt encK) (ht : P.underlying t = some (.map kt vt)) (k : α) (ats : Array TypeId) (hat : ats[0]? = some t) :
    ∃ o, (Builtin.delete_ ats ty #[.map (some m), encK k]).run P w = .ok (.tuple #[]) (putO w m o) ∧ MapAt encK encV (putO w m o) m (adel l k) := by
  have hm := h.lt
  obtain ⟨bs, cl, h1, h2, h3, h4⟩ := h
  have hf := K.find k (ents encK encV l bs) (l.map (·.1)) w (ents_keys l bs h2)
  rw [ents_vals l bs h2] at hf
  rcases find_cases l k with ⟨e1, -, e2, -⟩ | ⟨l1, v0, l2, e0, e1, -, e2, -⟩
  · rw [e1] at hf
    refine ⟨.map (ents encK encV l bs).toArray cl, ?_, ?_⟩
    · simp [Builtin.delete_, hat, run_underlying ht, run_getObj_map' h1, K.check, hf, run_setObj_map' _ h1]
    · rw [e2]
      exact ⟨bs, cl, putO_at _ hm, h2, h3, h4⟩
  · rw [e1] at hf
    subst e0
    obtain ⟨b1, b, b2, rfl, hb1, hb2⟩ := bs_split h2
    have hs : ents encK encV (l1 ++ (k, v0) :: l2) (b1 ++ b :: b2) = ents encK encV l1 b1 ++ { key := encK k, val := encV v0, born := b } :: ents encK encV l2 b2 := by rw [ents_append _ _ _ _ hb1]; rfl
    have hl1 := ents_length (encK := encK) (encV := encV) l1 b1 hb1
    refine ⟨.map ((ents encK encV (l1 ++ (k, v0) :: l2) (b1 ++ b :: b2)).toArray.eraseIdxIfInBounds l1.length) cl, ?_, ?_⟩
    · simp only [Option.map_some] at hf
      simp [Builtin.delete_, hat, run_underlying ht, run_getObj_map' h1, K.check, hf, run_setObj_map' _ h1]
    · rw [e2]
      refine ⟨b1 ++ b2, cl, ?_, by simp [hb1, hb2], ?_, fun x hx => h4 x (by simp at hx ⊢; rcases hx with hx | hx <;> simp [hx])⟩
      · rw [putO_at _ hm, hs, ents_append l1 l2 b1 b2 hb1]
        congr 2
        simp [Array.eraseIdxIfInBounds, hl1]
        rw [List.eraseIdx_append_of_length_le (by omega)]
        simp [hl1]
      · rw [List.pairwise_append] at h3 ⊢
        exact ⟨h3.1, (List.pairwise_cons.1 h3.2.1).2, fun x hx y hy => h3.2.2 x hx y (List.mem_cons_of_mem _ hy)⟩

/-! ### maps at an operation -/
theorem wpList_look {w : World} {ops : Array Oper} {rest : List Oper} {o : Oper} {a : Act} {Q : Exit → Act → World → Prop} {b : Nat} {l : List (α × β)} {t : TypeId} {z v : Value} {k : α} {c : Bool} (hg : o.guard = none) (m x : Operand)
    (hop : o.op = .lookup t m x c) (K : KeyLaw P kt encK) (ht : P.underlying t = some (.map kt vt)) (hz : ∀ w, (zeroValue vt).run P w = .ok z w) (hm : a.eval m = .map (some b)) (hx : a.eval x = encK k)
    (h : MapAt encK encV w b l) (hv : (aget l k).elim z encV = v) (hK : wpList P ops Q rest (a.put o.dst (if c then .tuple #[v, .bool (aget l k).isSome] else v)) w) :
    wpList P ops Q (o :: rest) a w := by
  subst hv
  refine wpList_plain hg fun K' hK' => ?_
  have hr := h.lookBoth K ht hz k c
  unfold Oper.wp
  simp [execOp, hop, hm, hx, hr, Result.andThen]
  exact hK' _ _ hK
theorem wpList_put {w : World} {ops : Array Oper} {rest : List Oper} {o : Oper} {a : Act} {Q : Exit → Act → World → Prop} {b : Nat} {l : List (α × β)} {t : TypeId} {k : α} {u : β} (hg : o.guard = none) (m x v : Operand)
    (hop : o.op = .mapUpdate t m x v) (K : KeyLaw P kt encK) (ht : P.underlying t = some (.map kt vt)) (hm : a.eval m = .map (some b)) (hx : a.eval x = encK k) (hv : a.eval v = encV u)
    (h : MapAt encK encV w b l) (hK : ∀ ob, MapAt encK encV (putO w b ob) b (aput l k u) → wpList P ops Q rest (a.put o.dst undef) (putO w b ob)) :
    wpList P ops Q (o :: rest) a w := by
  refine wpList_plain hg fun K' hK' => ?_
  obtain ⟨ob, hr, h'⟩ := h.put K ht k u
  unfold Oper.wp
  simp [execOp, hop, hm, hx, hv, hr, Result.andThen]
  exact hK' _ _ (hK ob h')
theorem wpMix_look {w : World} {C : World → Prop} {ops : Array Oper} {rest : List Oper} {o : Oper} {a : Act} {Q : Act → World → Prop} {b : Nat} {l : List (α × β)} {t : TypeId} {z v : Value} {k : α} {c : Bool} (hg : Region.wanted o (yielded ops a.tmps) = true) (m x : Operand)
    (hop : o.op = .lookup t m x c) (K : KeyLaw P kt encK) (ht : P.underlying t = some (.map kt vt)) (hz : ∀ w, (zeroValue vt).run P w = .ok z w) (hm : a.eval m = .map (some b)) (hx : a.eval x = encK k)
    (h : ∀ w', C w' → MapAt encK encV w' b l) (hv : (aget l k).elim z encV = v) (hK : wpMix P ops C Q rest (a.put o.dst (if c then .tuple #[v, .bool (aget l k).isSome] else v)) w) :
    wpMix P ops C Q (o :: rest) a w := by
  subst hv
  unfold wpMix
  refine ⟨trivial, ?_⟩
  rw [if_pos hg, if_neg (by simp [isEff, hop])]
  refine ⟨_, fun w' hw' => ?_, hK⟩
  have hr := (h w' hw').lookBoth K ht hz k c
  unfold readsAt
  simp [execOp, hop, hm, hx, hr, Result.andThen, readsUpon]
theorem wpMix_put {w : World} {C : World → Prop} {ops : Array Oper} {rest : List Oper} {o : Oper} {a : Act} {Q : Act → World → Prop} {b : Nat} {l : List (α × β)} {t : TypeId} {k : α} {u : β} (hg : Region.wanted o (yielded ops a.tmps) = true) (m x v : Operand)
    (hop : o.op = .mapUpdate t m x v) (K : KeyLaw P kt encK) (ht : P.underlying t = some (.map kt vt)) (hm : a.eval m = .map (some b)) (hx : a.eval x = encK k) (hv : a.eval v = encV u)
    (h : MapAt encK encV w b l) (hK : ∀ ob, MapAt encK encV (putO w b ob) b (aput l k u) → C (putO w b ob) ∧ wpMix P ops C Q rest (a.put o.dst undef) (putO w b ob)) :
    wpMix P ops C Q (o :: rest) a w := by
  obtain ⟨ob, hr, h'⟩ := h.put K ht k u
  unfold wpMix
  refine ⟨trivial, ?_⟩
  rw [if_pos hg, if_pos (by simp [isEff, hop])]
  refine ⟨trivial, ?_⟩
  unfold effAt
  simp [execOp, hop, hm, hx, hv, hr, Result.andThen, effUpon]
  exact hK ob h'
end
end Go.Cob
