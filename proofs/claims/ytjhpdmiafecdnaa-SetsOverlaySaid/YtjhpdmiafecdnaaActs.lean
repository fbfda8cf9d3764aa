/-
  Arguments opened: keys, slices of keys, acts.
-/
import Derived.Test.YtjhpdmiafecdnaaKeys
import Derived.ProofKit
import Derived.Deep.Slices
import Derived.Lib.SmallJoins
namespace Go.Proofs.Cob
open Go Go.RowKit Go.Cob Go.ChangeShapes Go.WideShapes Go.Deep
set_option linter.unusedSimpArgs false
set_option linter.unusedVariables false

section
variable {H : Type} {enc : TypeId × Value → H} {P : Program} {w : World} {base : Nat} {spare : Nat → Bool} {held : Bool}
theorem take_get {cs l : List Value} {o m : Nat} (h : (cs.drop o).take m = l) {j : Nat} {v : Value} (hv : l[j]? = some v) : cs[o + j]? = some v := by
  rw [← h, List.getElem?_take] at hv
  split at hv
  · rw [List.getElem?_drop] at hv; exact hv
  · cases hv
theorem trod_field {t : TypeId} {fs : Array Field} {fuel : Nat} {cs : List Value} {x : DataW H × List MemPlace} (ht : P.underlying t = some (.struct fs)) (h : DataW.trod enc P w base spare held fuel t cs = some x) {i : Nat} {f : Field} (hf : fs[i]? = some f) :
    ∃ n y, DataW.trod enc P w base spare held n f.type ((cs.drop f.offset).take (P.cellsOf f.type)) = some y := by
  obtain ⟨xs, n, _, _, _, hlen, hx⟩ := DataW.trod_struct ht h
  have hi : i < fs.size := (Array.getElem?_eq_some_iff.1 hf).1
  exact ⟨n, xs[i], by rw [hx i f hf]; exact List.getElem?_eq_getElem (by omega)⟩
end

section
variable {H : Type} {enc : TypeId × Value → H} {w : World} {base : Nat} {spare : Nat → Bool} {held : Bool}
theorem field_int {t o : Nat} {k : IntKind} {fuel : Nat} {cs : List Value} {x : DataW H × List MemPlace} {m : Nat} (ht : Try.prog.underlying t = some (.int k)) (h : DataW.trod enc Try.prog w base spare held fuel t ((cs.drop o).take m) = some x) :
    ∃ n, cs[o]? = some (.int k n) ∧ (Lit.int k n).wf = true := by
  obtain ⟨n, e, _, hw⟩ := DataW.trod_int ht h
  exact ⟨n, take_get e (j := 0) rfl, hw⟩
theorem field_string {t o : Nat} {fuel : Nat} {cs : List Value} {x : DataW H × List MemPlace} {m : Nat} (ht : Try.prog.underlying t = some .string) (h : DataW.trod enc Try.prog w base spare held fuel t ((cs.drop o).take m) = some x) :
    ∃ s, cs[o]? = some (.string s) ∧ s.size ≤ maxLen := by
  obtain ⟨s, e, _, hw⟩ := DataW.trod_string ht h
  exact ⟨s, take_get e (j := 0) rfl, hw⟩
theorem field_bool {t o : Nat} {fuel : Nat} {cs : List Value} {x : DataW H × List MemPlace} {m : Nat} (ht : Try.prog.underlying t = some .bool) (h : DataW.trod enc Try.prog w base spare held fuel t ((cs.drop o).take m) = some x) :
    ∃ b, cs[o]? = some (.bool b) := by
  obtain ⟨b, e, _⟩ := DataW.trod_bool ht h
  exact ⟨b, take_get e (j := 0) rfl⟩

instance : Inhabited Key := ⟨⟨0, 0, 0, ⟨#[]⟩⟩⟩
theorem add_none (b off n : Nat) : (⟨b, off, none⟩ : Addr).add n = ⟨b, off + n, none⟩ := by cases n <;> simp [Addr.add]
theorem range_get {n i j : Nat} (h : (List.range n)[i]? = some j) : i < n ∧ j = i := by
  obtain ⟨h1, h2⟩ := List.getElem?_eq_some_iff.1 h
  simp at h1 h2
  exact ⟨h1, h2.symm⟩
/-- A key's cells. -/
def KeyAtL (cs : List Value) (o : Nat) (k : Key) : Prop := cs[o]? = some (.int .i64 k.kind) ∧ cs[o + 1]? = some (.int .i64 k.a) ∧ cs[o + 2]? = some (.int .i64 k.b) ∧ cs[o + 3]? = some (.string k.s)
set_option maxRecDepth 100000 in
theorem trod_key {fuel : Nat} {cs : List Value} {x : DataW H × List MemPlace} (h : DataW.trod enc Try.prog w base spare held fuel 23 cs = some x) : ∃ k : Key, KeyAtL cs 0 k ∧ k.s.size ≤ maxLen := by
  obtain ⟨_, _, h0⟩ := trod_field Try.underlying23 h (i := 0) rfl
  obtain ⟨_, _, h1⟩ := trod_field Try.underlying23 h (i := 1) rfl
  obtain ⟨_, _, h2⟩ := trod_field Try.underlying23 h (i := 2) rfl
  obtain ⟨_, _, h3⟩ := trod_field Try.underlying23 h (i := 3) rfl
  obtain ⟨a, e0, _⟩ := field_int Try.underlying3 h0
  obtain ⟨b, e1, _⟩ := field_int Try.underlying3 h1
  obtain ⟨c, e2, _⟩ := field_int Try.underlying3 h2
  obtain ⟨s, e3, hs⟩ := field_string Try.underlying9 h3
  exact ⟨⟨a, b, c, s⟩, ⟨e0, e1, e2, e3⟩, hs⟩
theorem KeyAtL.field {cs l : List Value} {o m j : Nat} {k : Key} (h : (cs.drop o).take m = l) (hk : KeyAtL l j k) : KeyAtL cs (o + j) k := by
  obtain ⟨h0, h1, h2, h3⟩ := hk
  exact ⟨take_get h h0, take_get h h1, take_get h h2, take_get h h3⟩

set_option maxRecDepth 100000 in
theorem trod_keys {fuel : Nat} {cs : List Value} {x : DataW H × List MemPlace} (h : DataW.trod enc Try.prog w base (fun _ => true) held fuel 41 cs = some x) :
    ∃ (fa : Option Addr) (ks : List Key) (cap : Nat), cs = [.slice fa ks.length cap] ∧ KeysIn w fa ks ∧ ks.length ≤ cap ∧ cap ≤ maxLen := by
  rcases open_slice Try.underlying41 h with ⟨rfl, -⟩ | ⟨a, len, cap, m, n, D, Pl, rfl, hb, hl, hm, hmm, -, hx⟩
  · exact ⟨none, [], 0, rfl, .inl rfl, by simp, by decide⟩
  · simp only [if_true] at hmm
    subst hmm
    have hc : Try.prog.cellsOf 23 = 4 := by kernel_rfl
    rw [hc] at hx
    obtain ⟨K, hK⟩ := choose_lt (α := Key) (n := len) (p := fun i k => w.cell? ((a.add (i * 4)).add 0) = some (.int .i64 k.kind) ∧ w.cell? ((a.add (i * 4)).add 1) = some (.int .i64 k.a) ∧ w.cell? ((a.add (i * 4)).add 2) = some (.int .i64 k.b) ∧ w.cell? ((a.add (i * 4)).add 3) = some (.string k.s)) (fun i hi => by
      obtain ⟨cs', h1, h2⟩ := hx i (by omega)
      obtain ⟨_, hlen, hcell⟩ := World.cells?_some h1
      obtain ⟨k, ⟨k0, k1, k2, k3⟩, _⟩ := trod_key h2
      exact ⟨k, (hcell 0 (by omega)).trans k0, (hcell 1 (by omega)).trans k1, (hcell 2 (by omega)).trans k2, (hcell 3 (by omega)).trans k3⟩)
    refine ⟨some a, (List.range len).map K, m, by simp, ?_, by simpa using hl, hm⟩
    rcases Nat.eq_zero_or_pos len with h0 | hp
    · subst h0; exact .inl rfl
    · obtain ⟨b, off, spot⟩ := a
      have hspot : spot = none := by
        have := World.cell?_spot (hK 0 hp).1
        simpa [Addr.add] using this
      subst hspot
      refine .inr ⟨b, off, rfl, fun i k hk => ?_⟩
      rw [List.getElem?_map] at hk
      obtain ⟨i', hi', rfl⟩ := Option.map_eq_some_iff.1 hk
      obtain ⟨hlt, rfl⟩ := range_get hi'
      obtain ⟨k0, k1, k2, k3⟩ := hK i' hlt
      simp only [add_none] at k0 k1 k2 k3
      exact ⟨k0, k1, k2, k3⟩

/-- An act of the law's. -/
structure Act where
  kind : Int
  who : Int
  key : Key
  kfa : Option Addr
  kcap : Nat
  keys : List Key
  stamp : Int
  sw : Int
  stx : ByteArray
  sh : Bool
def ActAtL (cs : List Value) (a : Act) : Prop := cs[0]? = some (.int .i64 a.kind) ∧ cs[1]? = some (.int .i64 a.who) ∧ KeyAtL cs 2 a.key ∧ cs[6]? = some (.slice a.kfa a.keys.length a.kcap) ∧ cs[7]? = some (.int .u64 a.stamp) ∧ cs[8]? = some (.int .u64 a.sw) ∧ cs[9]? = some (.string a.stx) ∧ cs[10]? = some (.bool a.sh)
def ActOk (w : World) (a : Act) : Prop := KeysIn w a.kfa a.keys ∧ a.keys.length ≤ a.kcap ∧ a.kcap ≤ maxLen ∧ (Lit.int .u64 a.stamp).wf = true ∧ (Lit.int .u64 a.sw).wf = true ∧ (Lit.int .i64 a.who).wf = true
set_option maxRecDepth 100000 in
theorem trod_act {fuel : Nat} {cs : List Value} {x : DataW H × List MemPlace} (h : DataW.trod enc Try.prog w base (fun _ => true) held fuel 43 cs = some x) : ∃ a : Act, ActAtL cs a ∧ ActOk w a := by
  obtain ⟨_, _, h0⟩ := trod_field Try.underlying43 h (i := 0) rfl
  obtain ⟨_, _, h1⟩ := trod_field Try.underlying43 h (i := 1) rfl
  obtain ⟨_, _, h2⟩ := trod_field Try.underlying43 h (i := 2) rfl
  obtain ⟨_, _, h3⟩ := trod_field Try.underlying43 h (i := 3) rfl
  obtain ⟨_, _, h4⟩ := trod_field Try.underlying43 h (i := 4) rfl
  obtain ⟨_, _, h5⟩ := trod_field Try.underlying43 h (i := 5) rfl
  obtain ⟨kind, e0, _⟩ := field_int Try.underlying3 h0
  obtain ⟨who, e1, hw⟩ := field_int Try.underlying3 h1
  obtain ⟨key, ek, _⟩ := trod_key h2
  have e2 := KeyAtL.field rfl ek
  obtain ⟨fa, ks, cap, ec, hk, hl, hm⟩ := trod_keys h3
  have e3 := take_get ec (j := 0) rfl
  obtain ⟨stamp, e4, hs⟩ := field_int Try.underlying32 h4
  obtain ⟨_, _, s0⟩ := trod_field Try.underlying37 h5 (i := 0) rfl
  obtain ⟨_, _, s1⟩ := trod_field Try.underlying37 h5 (i := 1) rfl
  obtain ⟨_, _, s2⟩ := trod_field Try.underlying37 h5 (i := 2) rfl
  obtain ⟨sw, f0, hw2⟩ := field_int Try.underlying32 s0
  obtain ⟨stx, f1, _⟩ := field_string Try.underlying9 s1
  obtain ⟨sh, f2⟩ := field_bool Try.underlying4 s2
  exact ⟨⟨kind, who, key, fa, cap, ks, stamp, sw, stx, sh⟩, ⟨e0, e1, e2, e3, e4, take_get rfl f0, take_get rfl f1, take_get rfl f2⟩, hk, hl, hm, hs, hw2, hw⟩

structure ActCell (w : World) (b o : Nat) (a : Act) : Prop where
  c0 : w.cell? ⟨b, o, none⟩ = some (.int .i64 a.kind)
  c1 : w.cell? ⟨b, o + 1, none⟩ = some (.int .i64 a.who)
  c2 : w.cell? ⟨b, o + 2, none⟩ = some (.int .i64 a.key.kind)
  c3 : w.cell? ⟨b, o + 3, none⟩ = some (.int .i64 a.key.a)
  c4 : w.cell? ⟨b, o + 4, none⟩ = some (.int .i64 a.key.b)
  c5 : w.cell? ⟨b, o + 5, none⟩ = some (.string a.key.s)
  c6 : w.cell? ⟨b, o + 6, none⟩ = some (.slice a.kfa a.keys.length a.kcap)
  c7 : w.cell? ⟨b, o + 7, none⟩ = some (.int .u64 a.stamp)
  c8 : w.cell? ⟨b, o + 8, none⟩ = some (.int .u64 a.sw)
  c9 : w.cell? ⟨b, o + 9, none⟩ = some (.string a.stx)
  c10 : w.cell? ⟨b, o + 10, none⟩ = some (.bool a.sh)
def ActsIn (w : World) (fa : Option Addr) (xs : List Act) : Prop := xs = [] ∨ ∃ b off, fa = some ⟨b, off, none⟩ ∧ ∀ i a, xs[i]? = some a → ActCell w b (off + i * 11) a ∧ ActOk w a
instance : Inhabited Act := ⟨⟨0, 0, default, none, 0, [], 0, 0, ⟨#[]⟩, false⟩⟩
set_option maxRecDepth 100000 in
theorem trod_acts {fuel : Nat} {cs : List Value} {x : DataW H × List MemPlace} (h : DataW.trod enc Try.prog w base (fun _ => true) held fuel 27 cs = some x) :
    ∃ (fa : Option Addr) (xs : List Act) (cap : Nat), cs = [.slice fa xs.length cap] ∧ ActsIn w fa xs ∧ xs.length ≤ cap ∧ cap ≤ maxLen := by
  rcases open_slice Try.underlying27 h with ⟨rfl, -⟩ | ⟨a, len, cap, m, n, D, Pl, rfl, hb, hl, hm, hmm, -, hx⟩
  · exact ⟨none, [], 0, rfl, .inl rfl, by simp, by decide⟩
  · simp only [if_true] at hmm
    subst hmm
    have hc : Try.prog.cellsOf 43 = 11 := by kernel_rfl
    rw [hc] at hx
    obtain ⟨K, hK⟩ := choose_lt (α := Act) (n := len) (p := fun i k => (∃ cs' : List Value, (∀ j, j < 11 → w.cell? ((a.add (i * 11)).add j) = cs'[j]?) ∧ ActAtL cs' k) ∧ ActOk w k) (fun i hi => by
      obtain ⟨cs', h1, h2⟩ := hx i (by omega)
      obtain ⟨_, hlen, hcell⟩ := World.cells?_some h1
      obtain ⟨k, hk, hok⟩ := trod_act h2
      exact ⟨k, ⟨cs', fun j hj => hcell j (by omega), hk⟩, hok⟩)
    refine ⟨some a, (List.range len).map K, m, by simp, ?_, by simpa using hl, hm⟩
    rcases Nat.eq_zero_or_pos len with h0 | hp
    · subst h0; exact .inl rfl
    · obtain ⟨b, off, spot⟩ := a
      have hspot : spot = none := by
        obtain ⟨⟨cs', hcell, hk⟩, _⟩ := hK 0 hp
        have := World.cell?_spot ((hcell 0 (by omega)).trans hk.1)
        simpa [Addr.add] using this
      subst hspot
      refine .inr ⟨b, off, rfl, fun i k hk => ?_⟩
      rw [List.getElem?_map] at hk
      obtain ⟨i', hi', rfl⟩ := Option.map_eq_some_iff.1 hk
      obtain ⟨hlt, rfl⟩ := range_get hi'
      obtain ⟨⟨cs', hcell, k0, k1, ⟨k2, k3, k4, k5⟩, k6, k7, k8, k9, k10⟩, hok⟩ := hK i' hlt
      have hc' : ∀ j, j < 11 → w.cell? ⟨b, off + i' * 11 + j, none⟩ = cs'[j]? := fun j hj => by
        have := hcell j hj
        simpa only [add_none] using this
      exact ⟨⟨(hc' 0 (by omega)).trans k0, (hc' 1 (by omega)).trans k1, (hc' 2 (by omega)).trans k2, (hc' 3 (by omega)).trans k3, (hc' 4 (by omega)).trans k4, (hc' 5 (by omega)).trans k5, (hc' 6 (by omega)).trans k6, (hc' 7 (by omega)).trans k7, (hc' 8 (by omega)).trans k8, (hc' 9 (by omega)).trans k9, (hc' 10 (by omega)).trans k10⟩, hok⟩
theorem ActCell.lt {b o : Nat} {a : Act} (h : ActCell w b o a) : b < w.heap.size := World.block_lt_of_cell? w _ h.c0
end
theorem ActCell.keep {w w' : World} {b o : Nat} {a : Act} (h : ActCell w b o a) (e : w'.heap[b]? = w.heap[b]?) : ActCell w' b o a := by
  have hc : ∀ i, w'.cell? ⟨b, i, none⟩ = w.cell? ⟨b, i, none⟩ := fun i => World.cell?_of_block (a := ⟨b, i, none⟩) e
  exact ⟨(hc _).trans h.c0, (hc _).trans h.c1, (hc _).trans h.c2, (hc _).trans h.c3, (hc _).trans h.c4, (hc _).trans h.c5, (hc _).trans h.c6, (hc _).trans h.c7, (hc _).trans h.c8, (hc _).trans h.c9, (hc _).trans h.c10⟩
theorem ActOk.ext {w : World} {a : Act} (h : ActOk w a) (p : Ext w) : ActOk p.w a := ⟨h.1.ext p, h.2⟩
theorem ActsIn.ext {w : World} {fa : Option Addr} {xs : List Act} (h : ActsIn w fa xs) (p : Ext w) : ActsIn p.w fa xs := by
  rcases h with h | ⟨b, off, hfa, h⟩
  · exact .inl h
  · exact .inr ⟨b, off, hfa, fun i a ha => ⟨(h i a ha).1.keep (p.same _ (h i a ha).1.lt id), (h i a ha).2.ext p⟩⟩
end Go.Proofs.Cob
