/-
  Arguments opened: slices of whatever; texts; what was seen; layer 13's acts.
-/
import Derived.Test.YtjhpdmiafecdnaaActs
import Derived.Test.YtjhpdmiafecdnaaRowIn
import Derived.Test.YtjhpdmiafecdnaaSetA
namespace Go.Proofs.Cob
open Go Go.RowKit Go.Cob Go.ChangeShapes Go.WideShapes Go.Deep
set_option linter.unusedSimpArgs false
set_option linter.unusedVariables false

section
variable {H : Type} {enc : TypeId × Value → H} {w : World} {base : Nat} {held : Bool}
theorem trod_slices {α : Type} [Inhabited α] (f : α → List Value) (n ty ety : Nat) (Ok : α → Prop) (hu : Try.prog.underlying ty = some (.slice ety)) (hc : Try.prog.cellsOf ety = n) (hn : 0 < n)
    (hel : ∀ fuel cs x, DataW.trod enc Try.prog w base (fun _ => true) held fuel ety cs = some x → ∃ a, cs = f a ∧ Ok a) (hf : ∀ a, (f a).length = n) {fuel : Nat} {cs : List Value} {x : DataW H × List MemPlace} (h : DataW.trod enc Try.prog w base (fun _ => true) held fuel ty cs = some x) :
    ∃ (fa : Option Addr) (xs : List α) (cap : Nat), cs = [.slice fa xs.length cap] ∧ RowIn f n w fa xs ∧ xs.length ≤ cap ∧ cap ≤ maxLen ∧ ∀ a ∈ xs, Ok a := by
  rcases open_slice hu h with ⟨rfl, -⟩ | ⟨a, len, cap, m, n', D, Pl, rfl, hb, hl, hm, hmm, -, hx⟩
  · exact ⟨none, [], 0, rfl, .inl rfl, by simp, by decide, by simp⟩
  · simp only [if_true] at hmm
    subst hmm
    rw [hc] at hx
    obtain ⟨K, hK⟩ := choose_lt (α := α) (n := len) (p := fun i k => (∀ j v, (f k)[j]? = some v → w.cell? ((a.add (i * n)).add j) = some v) ∧ Ok k) (fun i hi => by
      obtain ⟨cs', h1, h2⟩ := hx i (by omega)
      obtain ⟨_, hlen, hcell⟩ := World.cells?_some h1
      obtain ⟨k, rfl, hk⟩ := hel _ _ _ h2
      refine ⟨k, fun j v hj => ?_, hk⟩
      have hjl : j < n := by rw [← hf k]; exact (List.getElem?_eq_some_iff.1 hj).1
      rw [hcell j hjl, hj])
    refine ⟨some a, (List.range len).map K, m, by simp, ?_, by simpa using hl, hm, fun x hx' => ?_⟩
    · rcases Nat.eq_zero_or_pos len with h0 | hp
      · subst h0; exact .inl rfl
      · obtain ⟨b, off, spot⟩ := a
        obtain ⟨v0, hv0⟩ : ∃ v0, (f (K 0))[0]? = some v0 := ⟨_, List.getElem?_eq_getElem (by rw [hf]; exact hn)⟩
        have hc0 := (hK 0 hp).1 0 v0 hv0
        have hspot : spot = none := by
          have := World.cell?_spot hc0
          simpa [Addr.add] using this
        subst hspot
        refine .inr ⟨b, off, rfl, (by have := World.block_lt_of_cell? w _ hc0; simpa [add_none] using this), fun i k hk => ?_⟩
        rw [List.getElem?_map] at hk
        obtain ⟨i', hi', rfl⟩ := Option.map_eq_some_iff.1 hk
        obtain ⟨hlt, rfl⟩ := range_get hi'
        intro j v hj
        have := (hK i' hlt).1 j v hj
        simpa only [add_none] using this
    · obtain ⟨i, hi, rfl⟩ := List.mem_map.1 hx'
      exact (hK i (by simpa using hi)).2
theorem trod_strs {fuel : Nat} {cs : List Value} {x : DataW H × List MemPlace} (h : DataW.trod enc Try.prog w base (fun _ => true) held fuel 118 cs = some x) :
    ∃ (fa : Option Addr) (xs : List ByteArray) (cap : Nat), cs = [.slice fa xs.length cap] ∧ RowIn (fun s => [Value.string s]) 1 w fa xs ∧ xs.length ≤ cap ∧ cap ≤ maxLen ∧ ∀ a ∈ xs, a.size ≤ maxLen :=
  trod_slices (fun s : ByteArray => [Value.string s]) 1 118 9 (fun a => a.size ≤ maxLen) Try.underlying118 (by kernel_rfl) (by decide) (fun fuel cs x h => by
    obtain ⟨s, e, _, hs⟩ := DataW.trod_string Try.underlying9 h
    exact ⟨s, e, hs⟩) (fun _ => rfl) h
theorem cells_eq {cs l : List Value} (h1 : cs.length = l.length) (h2 : ∀ (j : Nat) (v : Value), l[j]? = some v → cs[j]? = some v) : cs = l := by
  apply List.ext_getElem?
  intro j
  cases h : l[j]? with
  | some v => exact h2 j v h
  | none =>
    rw [List.getElem?_eq_none_iff] at h ⊢
    omega
set_option maxRecDepth 100000 in
theorem trod_sn {spare : Nat → Bool} {fuel : Nat} {cs : List Value} {x : DataW H × List MemPlace} (h : DataW.trod enc Try.prog w base spare held fuel 37 cs = some x) : ∃ v : Sn, cs = [.int .u64 v.wd, .string v.tx, .bool v.has] ∧ v.tx.size ≤ maxLen ∧ (Lit.int .u64 v.wd).wf = true := by
  obtain ⟨_, _, _, _, hl, _, _⟩ := DataW.trod_struct Try.underlying37 h
  obtain ⟨_, _, h0⟩ := trod_field Try.underlying37 h (i := 0) rfl
  obtain ⟨_, _, h1⟩ := trod_field Try.underlying37 h (i := 1) rfl
  obtain ⟨_, _, h2⟩ := trod_field Try.underlying37 h (i := 2) rfl
  obtain ⟨wd, e0, hw⟩ := field_int Try.underlying32 h0
  obtain ⟨tx, e1, ht⟩ := field_string Try.underlying9 h1
  obtain ⟨b, e2⟩ := field_bool Try.underlying4 h2
  refine ⟨⟨wd, tx, b⟩, cells_eq (by rw [hl]; kernel_rfl) (fun j v hj => ?_), ht, hw⟩
  match j, hj with
  | 0, hj => simp at hj; subst hj; exact e0
  | 1, hj => simp at hj; subst hj; exact e1
  | 2, hj => simp at hj; subst hj; exact e2

/-- An act of layer 13's law. -/
structure A13 where
  kind : Int
  k : Key
  v : Sn
  kfa : Option Addr
  kcap : Nat
  ks : List Key
instance : Inhabited A13 := ⟨⟨0, default, ⟨0, ⟨#[]⟩, false⟩, none, 0, []⟩⟩
def encA13 (a : A13) : List Value := [.int .i64 a.kind, .int .i64 a.k.kind, .int .i64 a.k.a, .int .i64 a.k.b, .string a.k.s, .int .u64 a.v.wd, .string a.v.tx, .bool a.v.has, .slice a.kfa a.ks.length a.kcap]
structure A13Ok (w : World) (a : A13) : Prop where
  ki : KeysIn w a.kfa a.ks
  lc : a.ks.length ≤ a.kcap
  cm : a.kcap ≤ maxLen
  ksz : a.k.s.size ≤ maxLen
  vsz : a.v.tx.size ≤ maxLen
set_option maxRecDepth 100000 in
theorem trod_a13 {fuel : Nat} {cs : List Value} {x : DataW H × List MemPlace} (h : DataW.trod enc Try.prog w base (fun _ => true) held fuel 97 cs = some x) : ∃ a : A13, cs = encA13 a ∧ A13Ok w a := by
  obtain ⟨_, _, _, _, hl, _, _⟩ := DataW.trod_struct Try.underlying97 h
  obtain ⟨_, _, h0⟩ := trod_field Try.underlying97 h (i := 0) rfl
  obtain ⟨_, _, h1⟩ := trod_field Try.underlying97 h (i := 1) rfl
  obtain ⟨_, _, h2⟩ := trod_field Try.underlying97 h (i := 2) rfl
  obtain ⟨_, _, h3⟩ := trod_field Try.underlying97 h (i := 3) rfl
  obtain ⟨kind, e0, _⟩ := field_int Try.underlying3 h0
  obtain ⟨key, ek, hks⟩ := trod_key h1
  have e1 := KeyAtL.field rfl ek
  obtain ⟨sn, es, hss, _⟩ := trod_sn h2
  obtain ⟨fa, ks, cap, e3, hki, hlc, hcm⟩ := trod_keys h3
  refine ⟨⟨kind, key, sn, fa, cap, ks⟩, cells_eq (by rw [hl]; kernel_rfl) (fun j v hj => ?_), ⟨hki, hlc, hcm, hks, hss⟩⟩
  have s0 := take_get es (j := 0) rfl
  have s1 := take_get es (j := 1) rfl
  have s2 := take_get es (j := 2) rfl
  have s3 := take_get e3 (j := 0) rfl
  match j, hj with
  | 0, hj => simp [encA13] at hj; subst hj; exact e0
  | 1, hj => simp [encA13] at hj; subst hj; exact e1.1
  | 2, hj => simp [encA13] at hj; subst hj; exact e1.2.1
  | 3, hj => simp [encA13] at hj; subst hj; exact e1.2.2.1
  | 4, hj => simp [encA13] at hj; subst hj; exact e1.2.2.2
  | 5, hj => simp [encA13] at hj; subst hj; exact s0
  | 6, hj => simp [encA13] at hj; subst hj; exact s1
  | 7, hj => simp [encA13] at hj; subst hj; exact s2
  | 8, hj => simp [encA13] at hj; subst hj; exact s3
theorem trod_a13s {fuel : Nat} {cs : List Value} {x : DataW H × List MemPlace} (h : DataW.trod enc Try.prog w base (fun _ => true) held fuel 89 cs = some x) :
    ∃ (fa : Option Addr) (xs : List A13) (cap : Nat), cs = [.slice fa xs.length cap] ∧ RowIn encA13 9 w fa xs ∧ xs.length ≤ cap ∧ cap ≤ maxLen ∧ ∀ a ∈ xs, A13Ok w a :=
  trod_slices encA13 9 89 97 (A13Ok w) Try.underlying89 (by kernel_rfl) (by decide) (fun fuel cs x h => trod_a13 h) (fun _ => rfl) h
end
theorem okWide_agg {P : Program} {w : World} {r : Reach} {base : Nat} {t : TypeId} {v : Value} {fs : Array Field} (ht : P.underlying t = some (.struct fs)) (h : Value.okWide P w r base t v) : ∃ cs, v = .agg cs := by
  simp only [Value.okWide, ht] at h
  cases v <;> simp_all
end Go.Proofs.Cob
