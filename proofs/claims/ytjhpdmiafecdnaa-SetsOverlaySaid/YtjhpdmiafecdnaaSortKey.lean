/-
  slices.SortFunc of keys by cell.Order: the library's contract laid over this program.
-/
import Derived.Test.YtjhpdmiafecdnaaOrderG
import Derived.Test.YtjhpdmiafecdnaaOrders
import Derived.Test.YtjhpdmiafecdnaaHeld
import Derived.Test.YtjhpdmiafecdnaaActs
import Derived.Shelf.SlGeneric
import Derived.Shelf.SlSortCmp.NoneTotal
namespace Go.Proofs
open Go.Shelf
def Cob.sortKeyL_ren : Go.Shelf.Ren := ⟨fun | 6 => 211 | 15 => 230 | 14 => 229 | 28 => 243 | 29 => 244 | 20 => 235 | 21 => 236 | 22 => 237 | 23 => 238 | 24 => 239 | 25 => 240 | 26 => 241 | 27 => 242 | 46 => 255 | 47 => 256 | 48 => 257 | 49 => 258 | 50 => 259 | 57 => 264 | n => n, fun | 22 => 41 | 24 => 23 | 25 => 25 | 3 => 3 | 39 => 75 | 0 => 0 | 53 => 226 | 55 => 32 | 4 => 4 | 46 => 313 | 45 => 312 | 50 => 317 | 5 => 5 | 9 => 9 | 66 => 327 | 70 => 330 | 76 => 334 | 77 => 255 | n => n, fun | n => n⟩
theorem Cob.sortKeyL : Go.Proofs.SlLaysF0.n6 Try.prog Cob.sortKeyL_ren := {
  mixed := by kernel_rfl
  f6 := ⟨Try.f211.name, by decide, Try.func211.trans (congrArg some (by kernel_rfl))⟩
  f14 := ⟨Try.f229.name, by decide, Try.func229.trans (congrArg some (by kernel_rfl))⟩
  f15 := Try.func230.trans (congrArg some (by kernel_rfl))
  f20 := ⟨Try.f235.name, by decide, Try.func235.trans (congrArg some (by kernel_rfl))⟩
  f21 := ⟨Try.f236.name, by decide, Try.func236.trans (congrArg some (by kernel_rfl))⟩
  f22 := ⟨Try.f237.name, by decide, Try.func237.trans (congrArg some (by kernel_rfl))⟩
  f23 := ⟨Try.f238.name, by decide, Try.func238.trans (congrArg some (by kernel_rfl))⟩
  f24 := ⟨Try.f239.name, by decide, Try.func239.trans (congrArg some (by kernel_rfl))⟩
  f25 := ⟨Try.f240.name, by decide, Try.func240.trans (congrArg some (by kernel_rfl))⟩
  f26 := ⟨Try.f241.name, by decide, Try.func241.trans (congrArg some (by kernel_rfl))⟩
  f27 := ⟨Try.f242.name, by decide, Try.func242.trans (congrArg some (by kernel_rfl))⟩
  f28 := Try.func243.trans (congrArg some (by kernel_rfl))
  f29 := Try.func244.trans (congrArg some (by kernel_rfl))
  f46 := ⟨Try.f255.name, by decide, Try.func255.trans (congrArg some (by kernel_rfl))⟩
  f47 := Try.func256.trans (congrArg some (by kernel_rfl))
  f48 := Try.func257.trans (congrArg some (by kernel_rfl))
  f49 := ⟨Try.f258.name, by decide, Try.func258.trans (congrArg some (by kernel_rfl))⟩
  f50 := ⟨Try.f259.name, by decide, Try.func259.trans (congrArg some (by kernel_rfl))⟩
  f57 := ⟨Try.f264.name, by decide, Try.func264.trans (congrArg some (by kernel_rfl))⟩
  t0 := Try.underlying0
  a0 := Try.isAgg0
  z0 := Try.sizeOf0
  v0 := Try.zeroValue0
  t3 := Try.underlying3
  a3 := Try.isAgg3
  z3 := Try.sizeOf3
  v3 := Try.zeroValue3
  t4 := Try.underlying4
  a4 := Try.isAgg4
  z4 := Try.sizeOf4
  v4 := Try.zeroValue4
  t5 := Try.underlying5
  a5 := Try.isAgg5
  z5 := Try.sizeOf5
  v5 := Try.zeroValue5
  t9 := Try.underlying9
  a9 := Try.isAgg9
  z9 := Try.sizeOf9
  v9 := Try.zeroValue9
  t22 := Try.underlying41
  a22 := Try.isAgg41
  z22 := Try.sizeOf41
  v22 := Try.zeroValue41
  t25 := Try.underlying25
  a25 := Try.isAgg25
  z25 := Try.sizeOf25
  v25 := Try.zeroValue25
  t39 := Try.underlying75
  a39 := Try.isAgg75
  z39 := Try.sizeOf75
  v39 := Try.zeroValue75
  t45 := Try.underlying312
  a45 := Try.isAgg312
  z45 := Try.sizeOf312
  v45 := Try.zeroValue312
  t46 := Try.underlying313
  a46 := Try.isAgg313
  z46 := Try.sizeOf313
  v46 := Try.zeroValue313
  t50 := Try.underlying317
  a50 := Try.isAgg317
  z50 := Try.sizeOf317
  v50 := Try.zeroValue317
  t53 := Try.underlying226
  a53 := Try.isAgg226
  z53 := Try.sizeOf226
  v53 := Try.zeroValue226
  t55 := Try.underlying32
  a55 := Try.isAgg32
  z55 := Try.sizeOf32
  v55 := Try.zeroValue32
  t66 := Try.underlying327
  a66 := Try.isAgg327
  z66 := Try.sizeOf327
  v66 := Try.zeroValue327
  t70 := Try.underlying330
  a70 := Try.isAgg330
  z70 := Try.sizeOf330
  v70 := Try.zeroValue330
  t76 := Try.underlying334
  a76 := Try.isAgg334
  z76 := Try.sizeOf334
  v76 := Try.zeroValue334
  t77 := Try.underlying255
  a77 := Try.isAgg255
  z77 := Try.sizeOf255
  v77 := Try.zeroValue255 }

end Go.Proofs
namespace Go.Proofs.Cob
open Go Go.RowKit Go.Cob Go.Sort Go.Shelf
set_option linter.unusedSimpArgs false
set_option linter.unusedVariables false

theorem ordK_swap (a b : Key) : ordK b a = -ordK a b := or4_swap a b
theorem swoKey : SWO (ltOf ordK) where
  irrefl x := by
    have : ordK x x = 0 := (ordK_zero x x).2 rfl
    simp [ltOf, this]
  trans x y z h1 h2 := by
    simp only [ltOf, decide_eq_true_eq] at *
    have h3 := ordK_trans x y z (by omega) (by omega)
    rcases Int.lt_or_eq_of_le h3 with h | h
    · exact h
    · have e := (ordK_zero x z).1 h
      subst e
      have := ordK_swap x y
      omega
  ntrans x y z h1 h2 := by
    simp only [ltOf, decide_eq_false_iff_not] at *
    have h3 := ordK_swap x y
    have h4 := ordK_swap y z
    have h5 := ordK_swap x z
    have := ordK_trans z y x (by omega) (by omega)
    omega
theorem totKey (x y : Key) (h1 : ltOf ordK x y = false) (h2 : ltOf ordK y x = false) : x = y := by
  simp only [ltOf, decide_eq_false_iff_not] at *
  have := ordK_swap x y
  exact (ordK_zero x y).1 (by omega)
/-- Keys in order. -/
def sortK (ks : List Key) : List Key := ks.mergeSort fun x y => !(ltOf ordK) y x
theorem sortK_perm (ks : List Key) : (sortK ks).Perm ks := List.mergeSort_perm ..

theorem sortK_sorted (ks : List Key) : (sortK ks).Pairwise fun x y => (!(ltOf ordK) y x) = true := by
  refine List.pairwise_mergeSort ?_ ?_ ks
  · intro a b c h1 h2
    simp only [ltOf, Bool.not_eq_true', decide_eq_false_iff_not] at *
    have := swoKey.ntrans c b a (by simpa [ltOf] using h2) (by simpa [ltOf] using h1)
    simpa [ltOf] using this
  · intro a b
    simp only [ltOf, Bool.or_eq_true, Bool.not_eq_true', decide_eq_false_iff_not]
    have := ordK_swap a b
    omega
theorem sortK_unique {ks ks' : List Key} (h : ks.Perm ks') (h1 : ks.Pairwise fun x y => (!(ltOf ordK) y x) = true) (h2 : ks'.Pairwise fun x y => (!(ltOf ordK) y x) = true) : ks = ks' :=
  List.Perm.eq_of_pairwise (le := fun x y => (!(ltOf ordK) y x) = true) (fun a b _ _ h3 h4 => totKey a b (by simpa using h4) (by simpa using h3)) h1 h2 h
theorem sortK_congr {ks ks' : List Key} (h : ks.Perm ks') : sortK ks = sortK ks' := sortK_unique (((sortK_perm ks).trans h).trans (sortK_perm ks').symm) (sortK_sorted ks) (sortK_sorted ks')
theorem holdsK_row {w : World} {base g cap : Nat} {ks : List Key} (h : w.ownsRow base 23 4 (.slice (some ⟨g, 0, none⟩) ks.length cap) ks.length (rowKey ks)) : HoldsK encKey 4 w g 0 ks.toArray := by
  intro j hj
  rw [size_flatK] at hj
  rw [get_flatK _ _ _ _ hj]
  have hi : j / 4 < ks.length := by simp at hj; omega
  have hk : ks[j / 4]? = some ks[j / 4] := List.getElem?_eq_getElem hi
  have hc := rowKey_get hk (j % 4) (Nat.mod_lt _ (by decide))
  rw [show j / 4 * 4 + j % 4 = j from by omega] at hc
  refine ⟨?_, by rw [Nat.zero_add]; exact h.frozenAt j⟩
  rw [Nat.zero_add, h.cellAt j (by simp at hj; omega), hc]
  have e : ks.toArray[j / 4]! = ks[j / 4] := by simp [hi]
  rw [e]
  have : j % 4 = 0 ∨ j % 4 = 1 ∨ j % 4 = 2 ∨ j % 4 = 3 := by omega
  rcases this with h | h | h | h <;> rw [h] <;> rfl
theorem keysIn_holds {w : World} {g : Nat} {ks : List Key} (h : HoldsK encKey 4 w g 0 ks.toArray) : KeysIn w (some ⟨g, 0, none⟩) ks := by
  refine .inr ⟨g, 0, rfl, fun i k hk => ?_⟩
  obtain ⟨hi, hk'⟩ := List.getElem?_eq_some_iff.1 hk
  have e : ks.toArray[i]! = k := by simp [hk]
  have hc : ∀ c, c < 4 → w.cell? ⟨g, 0 + i * 4 + c, none⟩ = some (encKey k)[c]! := fun c hc => by
    have := (h.cell (i := i) (c := c) (by simpa using hi) hc).1
    rw [e] at this
    exact this
  exact ⟨hc 0 (by omega), hc 1 (by omega), hc 2 (by omega), hc 3 (by omega)⟩
/-- A slice of keys that a call has laid. -/
def KeysOut (w0 : World) (v : Value) (ks : List Key) (w' : World) : Prop :=
  ∃ p : Ext w0, w' = p.w ∧ ∃ fa cap, v = .slice fa ks.length cap ∧ ks.length ≤ cap ∧ KeysIn w' fa ks ∧ ((fa = none ∧ ks = []) ∨ ∃ g c, fa = some ⟨g, 0, none⟩ ∧ w0.heap.size ≤ g ∧ w'.heap[g]? = some (.cells c 23 (0, 0)))

theorem sortWorld_other {w : World} {g n b : Nat} {d : Array Key} {os : Array Obj} (hb : b < w.heap.size) (hne : b ≠ g) : (sortWorldK encKey 4 w g 0 n d os).heap[b]? = w.heap[b]? := by
  show ((w.heap.modify g _) ++ os)[b]? = _
  rw [Array.getElem?_append_left (by simpa using hb), Array.getElem?_modify, if_neg (Ne.symm hne)]
theorem sortWorld_at {w : World} {g n : Nat} {d : Array Key} {os : Array Obj} {c : Array Value} {t : TypeId} (hg : w.heap[g]? = some (.cells c t (0, 0))) : ∃ c', (sortWorldK encKey 4 w g 0 n d os).heap[g]? = some (.cells c' t (0, 0)) := by
  refine ⟨putCells id 0 (flatK encKey 4 d) c, ?_⟩
  show ((w.heap.modify g (onCells (putCells id 0 (flatK encKey 4 d)))) ++ os)[g]? = _
  have hl := lt_of_blk hg
  rw [Array.getElem?_append_left (by simpa using hl), Array.getElem?_modify, if_pos rfl, hg]
  rfl
theorem sortWorld_ext {w0 w : World} (p : Ext w0) (hp : p.w = w) {g n : Nat} {d : Array Key} {os : Array Obj} (hg : w0.heap.size ≤ g) : ∃ q : Ext w0, sortWorldK encKey 4 w g 0 n d os = q.w := by
  subst hp
  refine ⟨⟨sortWorldK encKey 4 p.w g 0 n d os, p.os, p.tape, p.output, ?_, fun b hb _ => ?_⟩, rfl⟩
  · refine Nat.le_trans p.size ?_
    show p.w.heap.size ≤ ((p.w.heap.modify g _) ++ os).size
    simp
  · rw [sortWorld_other (Nat.lt_of_lt_of_le hb p.size) (by omega)]
    exact p.same b hb id

theorem sortKeys_any (w0 : World) (p : Ext w0) (v : Value) (ks : List Key) (base : Nat) (hbase : w0.heap.size ≤ base) (hrow : p.w.ownsRow base 23 4 v ks.length (rowKey ks)) (hlen : ks.length < 4611686018427387904) :
    Calls Try.prog 211 #[v, .func (.func 22) #[] #[]] p.w fun e w' => e = .returned (.tuple #[]) ∧ KeysOut w0 v (sortK ks) w' := by
  have hsl : (sortK ks).length = ks.length := (sortK_perm ks).length_eq
  rcases hrow.2 with ⟨rfl, h0⟩ | ⟨g, cap, cur, rfl, hb, hg, hcap, -⟩
  · obtain rfl : ks = [] := List.length_eq_zero_iff.1 h0
    refine (AnyF.slices_SortFunc_none Cob.sortKeyL none 0 (.func (.func 22) #[] #[]) p.w).mono ?_
    rintro e w' ⟨rfl, rfl⟩
    exact ⟨rfl, p, rfl, none, 0, by simp [sortK], by simp [sortK], .inl (by simp [sortK]), .inl ⟨rfl, by simp [sortK]⟩⟩
  · have hH := holdsK_row hrow
    have eg : ∀ args w, (callFunc 22 args).run Try.prog w = .ok (.enter 22 args) w := enters_of Try.func22 (by kernel_rfl) rfl
    have hcon := AnyQ.slices_SortFunc_total Cob.sortKeyL 4 Try.isAgg23 Try.sizeOf23 encKey (fun _ => rfl) (fun x v hv => by simp [encKey] at hv; rcases hv with rfl | rfl | rfl | rfl <;> rfl) ordK swoKey 22 #[] g 0 cap ks.toArray p.w eg (fun m os dk _ x y => order_gr x y _) hH (lt_of_blk hg) (by simpa using hlen) totKey
    refine hcon.mono ?_
    rintro e w' ⟨rfl, n, os, rfl⟩
    obtain ⟨q, hq⟩ := sortWorld_ext (n := n) (d := (sortK ks).toArray) (os := os) p rfl (show w0.heap.size ≤ g by omega)
    obtain ⟨c', hc'⟩ := sortWorld_at (n := n) (d := (sortK ks).toArray) (os := os) hg
    have hH2 : HoldsK encKey 4 (sortWorldK encKey 4 p.w g 0 n (sortK ks).toArray os) g 0 (sortK ks).toArray := holdsK_sortWorldK_c encKey 4 p.w g 0 ks.toArray _ n os hH (lt_of_blk hg) (by simpa using hsl)
    exact ⟨rfl, q, hq, some ⟨g, 0, none⟩, cap, by rw [hsl], by rw [hsl]; exact hcap, keysIn_holds hH2, .inr ⟨g, c', rfl, by omega, hc'⟩⟩

/-- The keys of cells of which something is so, in order. -/
theorem which_n (I : Ids) (A : ArenaSt) (L : List (Key × Cl)) (F : Nat → Prop) (w : World) (h : StN w I A L F) (g : Nat) (cb : Array Value) (pr : Cl → Bool) (hl : L.length < 1099511627776)
    (eg : ∀ args w, (callFunc g args).run Try.prog w = .ok (.enter g args) w)
    (hcb : ∀ p : Ext w, ∀ z : Slot, SlotIn p.w z → Calls Try.prog g (#[slotV z] ++ cb) p.w fun e w' => e = .returned (.bool (pr z.cl)) ∧ ∃ q : Ext p.w, w' = q.w) :
    Calls Try.prog 168 #[.pointer (some ⟨I.s, 0, none⟩), .func (.func g) #[] cb] w fun e w' => ∃ v, e = .returned v ∧ KeysOut w v (sortK ((L.filter fun x => pr x.2).map (·.1))) w' := by
  obtain ⟨⟨⟨fv, l, h1, h2, h3⟩, -⟩, -⟩ := h
  have hll : l.length = L.length := by rw [← h2]; simp
  refine whichLoop I fv A l w h1 g cb (fun z => pr z.cl) (by omega) eg (fun p x hx => hcb p x.2 ((h1.ext p).slots x hx)) _ ?_
  intro p v ks hp hrow
  have hk : ks.length ≤ l.length := by rw [hp.length_eq, List.length_map]; exact List.length_filter_le ..
  refine (sortKeys_any w p v ks (w.heap.size + 1) (by omega) hrow (by omega)).mono ?_
  rintro e w' ⟨rfl, h⟩
  refine ⟨rfl, v, rfl, ?_⟩
  have e : sortK ks = sortK ((L.filter fun x => pr x.2).map (·.1)) := by
    have e2 : (L.filter fun x => pr x.2).map (·.1) = (l.filter fun x => pr x.2.cl).map (·.1) := by
      rw [← h2, List.filter_map, List.map_map]
      rfl
    rw [e2]
    exact sortK_congr hp
  rw [← e]
  exact h
end Go.Proofs.Cob
