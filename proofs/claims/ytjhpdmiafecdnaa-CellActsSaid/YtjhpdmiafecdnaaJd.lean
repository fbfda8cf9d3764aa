/-
  The reference's store (layer 9): where it lies; Find. The reference's store (layer 9): Find, walked. The reference's store (layer 9): Read, Holds, Still. The reference's store (layer 9): Still, Install. The reference's store (layer 9): Install. The reference's store (layer 9): Lock. The reference's store (layer 9): drop. The reference's store (layer 9): Free, of one key.
-/
import Derived.Test.YtjhpdmiafecdnaaJc
namespace Go.Proofs.Cob
open Go Go.RowKit Go.Cob
set_option linter.unusedSimpArgs false
set_option linter.unusedVariables false

structure RC where
  k : Key
  wd : Int
  has : Bool
  text : ByteArray
  locked : Bool
  who : Int
abbrev encRC (c : RC) : List Value := [.int .i64 c.k.kind, .int .i64 c.k.a, .int .i64 c.k.b, .string c.k.s, .int .u64 c.wd, .bool c.has, .string c.text, .bool c.locked, .int .i64 c.who]
def rowRC (cs : List RC) : List Value := cs.flatMap encRC
theorem rowRC_length (cs : List RC) : (rowRC cs).length = cs.length * 9 := by
  unfold rowRC
  induction cs with
  | nil => rfl
  | cons c cs ih => rw [List.flatMap_cons, List.length_append, ih]; simp; omega
theorem rowRC_get : ∀ {cs : List RC} {i : Nat} {c : RC}, cs[i]? = some c → ∀ j, j < 9 → (rowRC cs)[i * 9 + j]? = (encRC c)[j]?
  | [], i, c, h, j, hj => by simp at h
  | c0 :: cs, 0, c, h, j, hj => by
    have : c0 = c := by simpa using h
    subst this
    show (encRC c0 ++ rowRC cs)[0 * 9 + j]? = _
    rw [List.getElem?_append_left (by simp; omega)]
    simp
  | c0 :: cs, i + 1, c, h, j, hj => by
    show (encRC c0 ++ rowRC cs)[(i + 1) * 9 + j]? = _
    rw [List.getElem?_append_right (by simp; omega)]
    have : (i + 1) * 9 + j - (encRC c0).length = i * 9 + j := by simp; omega
    rw [this]
    exact rowRC_get (by simpa using h) j hj

structure RefAt (w : World) (r : Nat) (v : Value) (room : Int) (cs : List RC) : Prop where
  st : w.heap[r]? = some (.cells #[.int .i64 room, v] 49 (0, 0))
  row : w.ownsRow 0 46 9 v cs.length (rowRC cs)
theorem RefAt.keep {w w' : World} {r : Nat} {v : Value} {room : Int} {cs : List RC} (h : RefAt w r v room cs) (e : ∀ b, b = r ∨ v.ownBlock = some b → b < w.heap.size → w'.heap[b]? = w.heap[b]?) : RefAt w' r v room cs :=
  ⟨(e r (.inl rfl) (lt_of_blk h.st)).trans h.st, rowKeep h.row fun b hb => by obtain ⟨cur, hc⟩ := rowBlk h.row hb; exact e b (.inr hb) (lt_of_blk hc)⟩
theorem RefAt.ext {w : World} {r : Nat} {v : Value} {room : Int} {cs : List RC} (h : RefAt w r v room cs) (p : Ext w) : RefAt p.w r v room cs := h.keep fun b _ hl => p.same _ hl id

/-- The reference in memory, its blocks within G. -/
structure RefM (w : World) (r : Nat) (room : Int) (cs : List RC) (G : Nat → Prop) : Prop where
  ex : ∃ v, RefAt w r v room cs ∧ ∀ b, v.ownBlock = some b → G b
  gr : G r
theorem RefM.ext {w : World} {r : Nat} {room : Int} {cs : List RC} {G : Nat → Prop} (h : RefM w r room cs G) (p : Ext w) : RefM p.w r room cs G := by
  obtain ⟨⟨v, h1, h2⟩, h3⟩ := h
  exact ⟨⟨v, h1.ext p, h2⟩, h3⟩
theorem RefM.ch {w : World} {r : Nat} {room : Int} {cs : List RC} {G T : Nat → Prop} (h : RefM w r room cs G) (p : Ch T w) (hT : ∀ b, T b → ¬ G b) : RefM p.w r room cs G := by
  obtain ⟨⟨v, h1, h2⟩, h3⟩ := h
  refine ⟨⟨v, h1.keep fun b hb hl => p.same _ hl fun ht => hT b ht ?_, h2⟩, h3⟩
  rcases hb with rfl | hb
  · exact h3
  · exact h2 b hb

/-- The cell's cells. -/
structure RCell (w : World) (g o : Nat) (c : RC) : Prop where
  c0 : w.cell? ⟨g, o, none⟩ = some (.int .i64 c.k.kind)
  c1 : w.cell? ⟨g, o + 1, none⟩ = some (.int .i64 c.k.a)
  c2 : w.cell? ⟨g, o + 2, none⟩ = some (.int .i64 c.k.b)
  c3 : w.cell? ⟨g, o + 3, none⟩ = some (.string c.k.s)
  c4 : w.cell? ⟨g, o + 4, none⟩ = some (.int .u64 c.wd)
  c5 : w.cell? ⟨g, o + 5, none⟩ = some (.bool c.has)
  c6 : w.cell? ⟨g, o + 6, none⟩ = some (.string c.text)
  c7 : w.cell? ⟨g, o + 7, none⟩ = some (.bool c.locked)
  c8 : w.cell? ⟨g, o + 8, none⟩ = some (.int .i64 c.who)
theorem RefAt.get {w : World} {r : Nat} {v : Value} {room : Int} {cs : List RC} (h : RefAt w r v room cs) {i : Nat} {c : RC} (hc : cs[i]? = some c) :
    ∃ g cap, v = .slice (some ⟨g, 0, none⟩) cs.length cap ∧ RCell w g (i * 9) c ∧ ∀ o, w.frozen? ⟨g, o, none⟩ = false := by
  have hi : i < cs.length := (List.getElem?_eq_some_iff.1 hc).1
  obtain ⟨g, cap, rfl, -, -⟩ := h.row.form (by omega)
  have hcell : ∀ j, j < 9 → w.cell? ⟨g, i * 9 + j, none⟩ = (encRC c)[j]? := fun j hj => by
    rw [h.row.cellAt (i * 9 + j) (by omega)]
    exact rowRC_get hc j hj
  exact ⟨g, cap, rfl, ⟨hcell 0 (by omega), hcell 1 (by omega), hcell 2 (by omega), hcell 3 (by omega), hcell 4 (by omega), hcell 5 (by omega), hcell 6 (by omega), hcell 7 (by omega), hcell 8 (by omega)⟩, fun o => h.row.frozenAt o⟩

def findR (cs : List RC) (k : Key) : Option Nat := cs.findIdx? (fun c => decide (c.k = k))
def idxR (cs : List RC) (k : Key) : Int := match findR cs k with | some i => i | none => -1
theorem findR_some {cs : List RC} {k : Key} {i : Nat} (h : findR cs k = some i) : ∃ c, cs[i]? = some c ∧ c.k = k := by
  unfold findR at h
  obtain ⟨h1, h2, -⟩ := List.findIdx?_eq_some_iff_getElem.1 h
  exact ⟨cs[i], List.getElem?_eq_getElem h1, by simpa using h2⟩
theorem findR_at {cs : List RC} {k : Key} {i : Nat} {c : RC} (hc : cs[i]? = some c) (hk : c.k = k) (hne : ∀ c' ∈ cs.take i, c'.k ≠ k) : findR cs k = some i := by
  unfold findR
  obtain ⟨h1, h2⟩ := List.getElem?_eq_some_iff.1 hc
  refine List.findIdx?_eq_some_iff_getElem.2 ⟨h1, by rw [h2]; simpa using hk, fun j hj => ?_⟩
  have := hne cs[j] (List.mem_take_iff_getElem.2 ⟨j, by omega, rfl⟩)
  simpa using this
theorem findR_none {cs : List RC} {k : Key} (h : ∀ c ∈ cs, c.k ≠ k) : findR cs k = none := by
  unfold findR
  rw [List.findIdx?_eq_none_iff]
  intro c hc
  simpa using h c hc
end Go.Proofs.Cob

namespace Go.Proofs.Cob
open Go Go.RowKit Go.Cob
set_option linter.unusedSimpArgs false
set_option linter.unusedVariables false

theorem RCell.keep {w w' : World} {b o : Nat} {c : RC} (h : RCell w b o c) (e : w'.heap[b]? = w.heap[b]?) : RCell w' b o c := by
  have hc : ∀ i, w'.cell? ⟨b, i, none⟩ = w.cell? ⟨b, i, none⟩ := fun i => World.cell?_of_block (a := ⟨b, i, none⟩) e
  exact ⟨(hc _).trans h.c0, (hc _).trans h.c1, (hc _).trans h.c2, (hc _).trans h.c3, (hc _).trans h.c4, (hc _).trans h.c5, (hc _).trans h.c6, (hc _).trans h.c7, (hc _).trans h.c8⟩
theorem RCell.lt {w : World} {b o : Nat} {c : RC} (h : RCell w b o c) : b < w.heap.size := by
  have := World.block_lt_of_cell? w _ h.c0
  exact this

set_option maxRecDepth 4000 in
set_option maxHeartbeats 1600000 in
theorem find_any (r : Nat) (v : Value) (room : Int) (cs : List RC) (k : Key) (w : World) (h : RefAt w r v room cs) (hb : cs.length < 4611686018427387904) :
    Calls Try.prog 98 #[.pointer (some ⟨r, 0, none⟩), keyV k] w fun e w' => e = .returned (.int .i64 (idxR cs k)) ∧ ∃ p : Ext w, w' = p.w := by
  obtain ⟨kd, ka, kb, ks'⟩ := k
  obtain ⟨W, hW⟩ : ∃ W, W = w.alloc (.cells (keyCells kd ka kb ks') 23) := ⟨_, rfl⟩
  obtain ⟨bk, hbk⟩ : ∃ bk, bk = w.heap.size := ⟨_, rfl⟩
  have hkb : W.heap[bk]? = some (.cells (keyCells kd ka kb ks') 23 (0, 0)) := by rw [hW, hbk]; exact heap_alloc_at _ _
  have hR : RefAt W r v room cs := by rw [hW]; exact h.ext ((Ch.refl NoS w).alloc _)
  have fin : ∀ p : Ext W, ∃ q : Ext w, p.w = q.w := fun p => ⟨((Ch.refl NoS w).alloc _).onto hW p (fun b hb h => h), rfl⟩
  obtain ⟨fa, cap, hfv, hcap, hfa⟩ := row_form h.row
  obtain ⟨n, hn⟩ : ∃ n, n = cs.length := ⟨_, rfl⟩
  rw [← hn] at hfv hcap hfa hb
  have HN : Hid (n = cs.length) := hn
  have HV : Hid (v = .slice fa n cap) := hfv
  clear h hn
  have hEq := run_eq_key
  go_enter Try.func98, Try.ntmps98
  go_wp2_with fail
  rw [← hbk, ← hW]
  clear hW hbk
  go_loopw [5] (fun u w' => (∃ p : Ext W, w' = p.w) ∧ ∃ i : Nat, u = .int .i64 i ∧ i ≤ n ∧ ∀ c ∈ cs.take i, c.k ≠ ⟨kd, ka, kb, ks'⟩) (fun u _ => n - (intOf u).toNat)
  case atStart => exact ⟨⟨Ch.refl NoS _, rfl⟩, 0, rfl, by omega, by simp⟩
  case round =>
    obtain ⟨⟨p, rfl⟩, i, rfl, hi, hne⟩ := hrel
    have Hne : Hid (∀ c ∈ cs.take i, c.k ≠ (⟨kd, ka, kb, ks'⟩ : Key)) := hne
    clear hne
    have hRp := hR.ext p
    have hst := hRp.st
    rw [hfv] at hst
    have s1 := cell_at 1 hst
    by_cases h1 : i < n
    · have h1' : i < cs.length := by have := HN.out; omega
      obtain ⟨x, hx⟩ : ∃ x, cs[i]? = some x := ⟨_, List.getElem?_eq_getElem h1'⟩
      obtain ⟨g, cap', hv', hc, -⟩ := hRp.get hx
      have hcap' : fa = some ⟨g, 0, none⟩ := by
        rw [HV.out] at hv'
        simp only [Value.slice.injEq] at hv'
        exact hv'.1
      subst hcap'
      have hkb' := p.blkE hkb
      have finp : ∀ q : Ext p.w, ∃ q' : Ext W, q.w = q'.w := fun q => ⟨p.thenE q, rfl⟩
      have hfin : ∀ q : Ext p.w, ∃ q' : Ext w, q.w = q'.w := fun q => fin (p.thenE q)
      have Hx : Hid (cs[i]? = some x) := hx
      obtain ⟨⟨xd, xa, xb, xs⟩, xw, xh, xt, xl, xo⟩ := x
      have HV2 : Hid _ := hv'
      clear h1' hx hkb fin hR hRp hv' hfv hfa
      generalize p.w = W1 at *
      clear p
      have k0 : ∀ q : Ext W1, q.w.cell? ⟨bk, 0, none⟩ = some (.int .i64 kd) := fun q => cell_at 0 (q.blkE hkb')
      have k1 : ∀ q : Ext W1, q.w.cell? ⟨bk, 1, none⟩ = some (.int .i64 ka) := fun q => cell_at 1 (q.blkE hkb')
      have k2 : ∀ q : Ext W1, q.w.cell? ⟨bk, 2, none⟩ = some (.int .i64 kb) := fun q => cell_at 2 (q.blkE hkb')
      have k3 : ∀ q : Ext W1, q.w.cell? ⟨bk, 3, none⟩ = some (.string ks') := fun q => cell_at 3 (q.blkE hkb')
      have s1' : ∀ q : Ext W1, q.w.cell? ⟨r, 1, none⟩ = some (.slice (some ⟨g, 0, none⟩) n cap) := fun q => cell_at 1 (q.blkE hst)
      have x0 : ∀ q : Ext W1, q.w.cell? ⟨g, i * 9, none⟩ = some (.int .i64 xd) := fun q => (hc.keep (q.same _ hc.lt id)).c0
      have x1 : ∀ q : Ext W1, q.w.cell? ⟨g, i * 9 + 1, none⟩ = some (.int .i64 xa) := fun q => (hc.keep (q.same _ hc.lt id)).c1
      have x2 : ∀ q : Ext W1, q.w.cell? ⟨g, i * 9 + 2, none⟩ = some (.int .i64 xb) := fun q => (hc.keep (q.same _ hc.lt id)).c2
      have x3 : ∀ q : Ext W1, q.w.cell? ⟨g, i * 9 + 3, none⟩ = some (.string xs) := fun q => (hc.keep (q.same _ hc.lt id)).c3
      clear hkb' hst
      have hE : ∀ w, (Op.equalIn 10000 23 (.agg #[.int .i64 xd, .int .i64 xa, .int .i64 xb, .string xs]) (.agg #[.int .i64 kd, .int .i64 ka, .int .i64 kb, .string ks'])).run Try.prog w = .ok (decide ((⟨xd, xa, xb, xs⟩ : Key) = ⟨kd, ka, kb, ks'⟩)) w := hEq ⟨xd, xa, xb, xs⟩ ⟨kd, ka, kb, ks'⟩
      clear hEq
      by_cases hk : (⟨xd, xa, xb, xs⟩ : Key) = ⟨kd, ka, kb, ks'⟩
      · rw [decide_eq_true hk] at hE
        have Hk : Hid _ := hk
        clear hk
        go_wp2_with fail
        refine wp_region_ch NoS (by kernel_rfl) (by kernel_rfl) (fun q hq => ?_)
        clear hq
        (repeat (first | (refine wpMix_skip rfl rfl ?_) | (refine wpMix_step (fun K hK => ?_); go_simp; (with_reducible (refine hK _ _ ?_)); clear hK K)))
        refine wpMix_nil ?_
        go_wp2_with fail
        go_ret
        refine ⟨?_, hfin q⟩
        have e : idxR cs ⟨kd, ka, kb, ks'⟩ = i := by unfold idxR; rw [findR_at Hx.out Hk.out Hne.out]
        rw [e]; rfl
      · rw [decide_eq_false hk] at hE
        have Hk : Hid _ := hk
        clear hk
        go_wp2_with fail
        refine wp_region_ch NoS (by kernel_rfl) (by kernel_rfl) (fun q hq => ?_)
        clear hq
        (repeat (first | (refine wpMix_skip rfl rfl ?_) | (refine wpMix_step (fun K hK => ?_); go_simp; (with_reducible (refine hK _ _ ?_)); clear hK K)))
        refine wpMix_nil ?_
        go_wp2_with fail
        go_roundw
        case rel =>
          refine ⟨finp q, i + 1, by go_num, by omega, ?_⟩
          rw [take_snoc Hx.out]
          intro c' hc'
          rcases List.mem_append.1 hc' with h | h
          · exact Hne.out c' h
          · have : c' = ⟨⟨xd, xa, xb, xs⟩, xw, xh, xt, xl, xo⟩ := by simpa using h
            rw [this]
            exact Hk.out
        case measure => simp [intOf]; omega
    · go_wp2_with fail
      go_ret
      refine ⟨?_, fin p⟩
      have h2 : cs.take i = cs := List.take_of_length_le (by have := HN.out; omega)
      have h3 := Hne.out
      rw [h2] at h3
      have e : idxR cs ⟨kd, ka, kb, ks'⟩ = -1 := by unfold idxR; rw [findR_none h3]
      rw [e]; rfl
end Go.Proofs.Cob

namespace Go.Proofs.Cob
open Go Go.RowKit Go.Cob
set_option linter.unusedSimpArgs false
set_option linter.unusedVariables false

theorem cell_alloc_ne {w : World} {o : Obj} {b i : Nat} (h : b ≠ w.heap.size) : (w.alloc o).cell? ⟨b, i, none⟩ = w.cell? ⟨b, i, none⟩ := by
  refine World.cell?_of_block (a := ⟨b, i, none⟩) ?_
  show (w.heap.push o)[b]? = _
  rw [Array.getElem?_push, if_neg h]
def getR (cs : List RC) (k : Key) : Option (Nat × RC) := (findR cs k).bind fun i => (cs[i]?).map fun c => (i, c)
theorem getR_some {cs : List RC} {k : Key} {i : Nat} {c : RC} (h : getR cs k = some (i, c)) : idxR cs k = i ∧ cs[i]? = some c ∧ c.k = k := by
  unfold getR at h
  cases hf : findR cs k with
  | none => rw [hf] at h; cases h
  | some j =>
    obtain ⟨c', hc', hk⟩ := findR_some hf
    rw [hf] at h
    simp only [Option.bind_some, hc', Option.map_some, Option.some.injEq, Prod.mk.injEq] at h
    obtain ⟨rfl, rfl⟩ := h
    exact ⟨by unfold idxR; rw [hf], hc', hk⟩
theorem getR_none {cs : List RC} {k : Key} (h : getR cs k = none) : idxR cs k = -1 := by
  unfold getR at h
  cases hf : findR cs k with
  | none => unfold idxR; rw [hf]
  | some j =>
    obtain ⟨c', hc', hk⟩ := findR_some hf
    rw [hf] at h
    simp [hc'] at h

def refRead (cs : List RC) (k : Key) : Value × Int :=
  match getR cs k with
  | none => (seenV 0 ⟨#[]⟩ false, 0)
  | some (_, c) => if c.locked then (seenV 0 ⟨#[]⟩ false, 60) else (seenV c.wd c.text c.has, 0)

set_option maxRecDepth 4000 in
set_option maxHeartbeats 1600000 in
theorem refRead_any (r : Nat) (v : Value) (room : Int) (cs : List RC) (k : Key) (w : World) (h : RefAt w r v room cs) (hb : cs.length < 4611686018427387904) :
    Calls Try.prog 123 #[.pointer (some ⟨r, 0, none⟩), keyV k] w fun e w' => e = .returned (.tuple #[(refRead cs k).1, .int .i64 (refRead cs k).2]) ∧ ∃ p : Ext w, w' = p.w := by
  obtain ⟨kd, ka, kb, ks'⟩ := k
  have hR := (h.ext ((Ch.refl NoS w).alloc (.cells (keyCells kd ka kb ks') 23))).ext ((Ch.refl NoS _).alloc (.cells #[.int .u64 0, .string ⟨#[]⟩, .bool false] 37))
  have hR' : RefAt ((w.alloc (.cells (keyCells kd ka kb ks') 23)).alloc (.cells #[.int .u64 0, .string ⟨#[]⟩, .bool false] 37)) r v room cs := hR
  have hob : ((w.alloc (.cells (keyCells kd ka kb ks') 23)).alloc (.cells #[.int .u64 0, .string ⟨#[]⟩, .bool false] 37)).heap[w.heap.size + 1]? = some (.cells #[.int .u64 0, .string ⟨#[]⟩, .bool false] 37 (0, 0)) := heap_alloc_eq _ (by simp)
  have fin : ∀ p : Ch (fun b => w.heap.size ≤ b) ((w.alloc (.cells (keyCells kd ka kb ks') 23)).alloc (.cells #[.int .u64 0, .string ⟨#[]⟩, .bool false] 37)), ∃ q : Ext w, p.w = q.w := fun p =>
    ⟨(((Ch.refl NoS w).alloc _).alloc _).then p (fun b hb h => absurd h (by omega)), rfl⟩
  clear h hR
  cases hg : getR cs ⟨kd, ka, kb, ks'⟩ with
  | none =>
    have hix := getR_none hg
    have e : refRead cs ⟨kd, ka, kb, ks'⟩ = (seenV 0 ⟨#[]⟩ false, 0) := by unfold refRead; rw [hg]
    rw [e]
    clear e hg
    go_enter Try.func123, Try.ntmps123
    go_wp2_with ((go_at_call 98; go_must (have hcc := find_any r v room cs ⟨kd, ka, kb, ks'⟩ _ hR' hb; rw [hix] at hcc; refine hcc.mono ?_); clear hcc; rintro e w' ⟨rfl, p, rfl⟩); have hR1 := hR'.ext p; have hob1 := p.blkE hob; have fin1 : ∀ q : Ch (fun b => w.heap.size ≤ b) p.w, ∃ r : Ext w, q.w = r.w := fun q => fin ((p.up _).then q (fun _ _ h => h)); have hsz1 : w.heap.size + 1 < p.w.heap.size := lt_of_blk hob1; clear hR' hob fin; generalize p.w = W1 at hR1 hob1 fin1 hsz1 ⊢; clear p; have nc0 := cell_at 0 hob1; have nc1 := cell_at 1 hob1; have nc2 := cell_at 2 hob1; have nf0 := frozen_at 0 hob1; have nf1 := frozen_at 1 hob1; have nf2 := frozen_at 2 hob1)
    refine bodyPost_ret (v := .tuple #[seenV 0 ⟨#[]⟩ false, .int .i64 0]) (by simp [results, Try.results123, go_sem, nc0, nc1, nc2, nf0, nf1, nf2]) rfl ⟨rfl, ?_⟩
    exact fin1 ((((Ch.refl _ W1).set (w.heap.size + 1) 0 _ (fun _ => by omega)).set (w.heap.size + 1) 1 _ (fun _ => by omega)).set (w.heap.size + 1) 2 _ (fun _ => by omega))
  | some ic =>
    obtain ⟨i, c⟩ := ic
    obtain ⟨hix, hx, hck⟩ := getR_some hg
    obtain ⟨⟨xd, xa, xb, xs⟩, xw, xh, xt, xl, xo⟩ := c
    clear hck
    have hi : i < cs.length := (List.getElem?_eq_some_iff.1 hx).1
    have hne : ∀ i, w.heap.size + 1 ≠ i ∨ True := fun _ => .inr trivial
    cases xl
    · have e : refRead cs ⟨kd, ka, kb, ks'⟩ = (seenV xw xt xh, 0) := by unfold refRead; rw [hg]; rfl
      rw [e]
      clear e hg hne
      have Hx : Hid _ := hx
      clear hx
      go_enter Try.func123, Try.ntmps123
      go_wp2_with ((go_at_call 98; go_must (have hcc := find_any r v room cs ⟨kd, ka, kb, ks'⟩ _ hR' hb; rw [hix] at hcc; refine hcc.mono ?_); clear hcc; rintro e w' ⟨rfl, p, rfl⟩); have hR1 := hR'.ext p; have hob1 := p.blkE hob; have fin1 : ∀ q : Ch (fun b => w.heap.size ≤ b) p.w, ∃ r : Ext w, q.w = r.w := fun q => fin ((p.up _).then q (fun _ _ h => h)); have hsz1 : w.heap.size + 1 < p.w.heap.size := lt_of_blk hob1; clear hR' hob fin; generalize p.w = W1 at hR1 hob1 fin1 hsz1 ⊢; clear p; have nc0 := cell_at 0 hob1; have nc1 := cell_at 1 hob1; have nc2 := cell_at 2 hob1; have nf0 := frozen_at 0 hob1; have nf1 := frozen_at 1 hob1; have nf2 := frozen_at 2 hob1; have hx := Hx.out; obtain ⟨g, cap, hv, hc, hfz⟩ := (hR1).get hx; have hst := (hR1).st; rw [hv] at hst; have s1 := cell_at 1 hst; have x0 := hc.c0; have x1 := hc.c1; have x2 := hc.c2; have x3 := hc.c3; have x4 := hc.c4; have x5 := hc.c5; have x6 := hc.c6; have x7 := hc.c7; have x8 := hc.c8; clear hx)
      have hne1 : w.heap.size + 1 ≠ W1.heap.size := by omega
      refine bodyPost_ret (v := .tuple #[seenV xw xt xh, .int .i64 0]) (by simp [results, Try.results123, go_sem, nc0, nc1, nc2, nf0, nf1, nf2, cell_alloc_ne, hne1]) rfl ⟨rfl, ?_⟩
      exact fin1 (((((Ch.refl _ W1).set (w.heap.size + 1) 0 _ (fun _ => by omega)).set (w.heap.size + 1) 1 _ (fun _ => by omega)).set (w.heap.size + 1) 2 _ (fun _ => by omega)).alloc _)
    · have e : refRead cs ⟨kd, ka, kb, ks'⟩ = (seenV 0 ⟨#[]⟩ false, 60) := by unfold refRead; rw [hg]; rfl
      rw [e]
      clear e hg hne
      have Hx : Hid _ := hx
      clear hx
      go_enter Try.func123, Try.ntmps123
      go_wp2_with ((go_at_call 98; go_must (have hcc := find_any r v room cs ⟨kd, ka, kb, ks'⟩ _ hR' hb; rw [hix] at hcc; refine hcc.mono ?_); clear hcc; rintro e w' ⟨rfl, p, rfl⟩); have hR1 := hR'.ext p; have hob1 := p.blkE hob; have fin1 : ∀ q : Ch (fun b => w.heap.size ≤ b) p.w, ∃ r : Ext w, q.w = r.w := fun q => fin ((p.up _).then q (fun _ _ h => h)); have hsz1 : w.heap.size + 1 < p.w.heap.size := lt_of_blk hob1; clear hR' hob fin; generalize p.w = W1 at hR1 hob1 fin1 hsz1 ⊢; clear p; have nc0 := cell_at 0 hob1; have nc1 := cell_at 1 hob1; have nc2 := cell_at 2 hob1; have nf0 := frozen_at 0 hob1; have nf1 := frozen_at 1 hob1; have nf2 := frozen_at 2 hob1; have hx := Hx.out; obtain ⟨g, cap, hv, hc, hfz⟩ := (hR1).get hx; have hst := (hR1).st; rw [hv] at hst; have s1 := cell_at 1 hst; have x0 := hc.c0; have x1 := hc.c1; have x2 := hc.c2; have x3 := hc.c3; have x4 := hc.c4; have x5 := hc.c5; have x6 := hc.c6; have x7 := hc.c7; have x8 := hc.c8; clear hx)
      have hne1 : w.heap.size + 1 ≠ W1.heap.size := by omega
      refine bodyPost_ret (v := .tuple #[seenV 0 ⟨#[]⟩ false, .int .i64 60]) (by simp [results, Try.results123, go_sem, nc0, nc1, nc2, nf0, nf1, nf2, cell_alloc_ne, hne1]) rfl ⟨rfl, ?_⟩
      exact fin1 (((((Ch.refl _ W1).set (w.heap.size + 1) 0 _ (fun _ => by omega)).set (w.heap.size + 1) 1 _ (fun _ => by omega)).set (w.heap.size + 1) 2 _ (fun _ => by omega)).alloc _)

/-! ### Holds -/
def refHolds (cs : List RC) (k : Key) (who : Int) : Bool := match getR cs k with | none => false | some (_, c) => c.locked && (c.who == who)

set_option maxRecDepth 4000 in
set_option maxHeartbeats 1600000 in
theorem refHolds_any (r : Nat) (v : Value) (room : Int) (cs : List RC) (k : Key) (who : Int) (w : World) (h : RefAt w r v room cs) (hb : cs.length < 4611686018427387904) :
    Calls Try.prog 194 #[.pointer (some ⟨r, 0, none⟩), keyV k, .int .i64 who] w fun e w' => e = .returned (.bool (refHolds cs k who)) ∧ ∃ p : Ext w, w' = p.w := by
  obtain ⟨kd, ka, kb, ks'⟩ := k
  have hR' : RefAt (w.alloc (.cells (keyCells kd ka kb ks') 23)) r v room cs := h.ext ((Ch.refl NoS w).alloc _)
  have fin : ∀ p : Ext (w.alloc (.cells (keyCells kd ka kb ks') 23)), ∃ q : Ext w, p.w = q.w := fun p => ⟨((Ch.refl NoS w).alloc _).thenE p, rfl⟩
  clear h
  cases hg : getR cs ⟨kd, ka, kb, ks'⟩ with
  | none =>
    have hix := getR_none hg
    have e : refHolds cs ⟨kd, ka, kb, ks'⟩ who = false := by unfold refHolds; rw [hg]
    rw [e]
    clear e hg
    go_enter Try.func194, Try.ntmps194
    go_wp2_with (go_at_call 98; go_must (have hcc := find_any r v room cs ⟨kd, ka, kb, ks'⟩ _ hR' hb; rw [hix] at hcc; refine hcc.mono ?_); clear hcc; rintro e w' ⟨rfl, p, rfl⟩)
    go_ret
    exact ⟨rfl, fin p⟩
  | some ic =>
    obtain ⟨i, c⟩ := ic
    obtain ⟨hix, hx, hck⟩ := getR_some hg
    obtain ⟨⟨xd, xa, xb, xs⟩, xw, xh, xt, xl, xo⟩ := c
    have e : refHolds cs ⟨kd, ka, kb, ks'⟩ who = (xl && (xo == who)) := by unfold refHolds; rw [hg]
    rw [e]
    have hi : i < cs.length := (List.getElem?_eq_some_iff.1 hx).1
    clear e hg hck
    have Hx : Hid _ := hx
    clear hx
    cases xl
    · go_enter Try.func194, Try.ntmps194
      go_wp2_with ((go_at_call 98; go_must (have hcc := find_any r v room cs ⟨kd, ka, kb, ks'⟩ _ hR' hb; rw [hix] at hcc; refine hcc.mono ?_); clear hcc; rintro e w' ⟨rfl, p, rfl⟩); have hR1 := hR'.ext p; have hx := Hx.out; obtain ⟨g, cap, hv, hc, hfz⟩ := (hR1).get hx; have hst := (hR1).st; rw [hv] at hst; have s1 := cell_at 1 hst; have x0 := hc.c0; have x1 := hc.c1; have x2 := hc.c2; have x3 := hc.c3; have x4 := hc.c4; have x5 := hc.c5; have x6 := hc.c6; have x7 := hc.c7; have x8 := hc.c8; clear hx)
      go_ret
      exact ⟨rfl, fin p⟩
    · go_enter Try.func194, Try.ntmps194
      go_wp2_with ((go_at_call 98; go_must (have hcc := find_any r v room cs ⟨kd, ka, kb, ks'⟩ _ hR' hb; rw [hix] at hcc; refine hcc.mono ?_); clear hcc; rintro e w' ⟨rfl, p, rfl⟩); have hR1 := hR'.ext p; have hx := Hx.out; obtain ⟨g, cap, hv, hc, hfz⟩ := (hR1).get hx; have hst := (hR1).st; rw [hv] at hst; have s1 := cell_at 1 hst; have x0 := hc.c0; have x1 := hc.c1; have x2 := hc.c2; have x3 := hc.c3; have x4 := hc.c4; have x5 := hc.c5; have x6 := hc.c6; have x7 := hc.c7; have x8 := hc.c8; clear hx)
      go_ret
      exact ⟨rfl, fin p⟩
end Go.Proofs.Cob

namespace Go.Proofs.Cob
open Go Go.RowKit Go.Cob
set_option linter.unusedSimpArgs false
set_option linter.unusedVariables false

def refStill (cs : List RC) (k : Key) (who vw : Int) (has : Bool) : Bool :=
  match getR cs k with
  | none => !has
  | some (_, c) => if c.locked && (c.who != who) then false else if c.has != has then false else (c.wd == vw) || (!has && (c.wd == 0))

set_option maxRecDepth 4000 in
set_option maxHeartbeats 3200000 in
theorem refStill_any (r : Nat) (v : Value) (room : Int) (cs : List RC) (k : Key) (who vw : Int) (vs : ByteArray) (has : Bool) (w : World) (h : RefAt w r v room cs) (hb : cs.length < 4611686018427387904) :
    Calls Try.prog 127 #[.pointer (some ⟨r, 0, none⟩), keyV k, .int .i64 who, seenV vw vs has] w fun e w' => e = .returned (.bool (refStill cs k who vw has)) ∧ ∃ p : Ext w, w' = p.w := by
  obtain ⟨kd, ka, kb, ks'⟩ := k
  obtain ⟨W, hW⟩ : ∃ W, W = (w.alloc (.cells (keyCells kd ka kb ks') 23)).alloc (.cells #[.int .u64 vw, .string vs, .bool has] 37) := ⟨_, rfl⟩
  have hR' : RefAt W r v room cs := by rw [hW]; exact (h.ext ((Ch.refl NoS w).alloc (.cells (keyCells kd ka kb ks') 23))).ext ((Ch.refl NoS _).alloc _)
  have hob : W.heap[w.heap.size + 1]? = some (.cells #[.int .u64 vw, .string vs, .bool has] 37 (0, 0)) := by rw [hW]; exact heap_alloc_eq _ (by simp)
  have hkb : W.heap[w.heap.size]? = some (.cells (keyCells kd ka kb ks') 23 (0, 0)) := by rw [hW]; exact heap_alloc_blk _ (heap_alloc_at _ _)
  have fin : ∀ p : Ext W, ∃ q : Ext w, p.w = q.w := fun p => ⟨(((Ch.refl NoS w).alloc _).alloc _).onto hW p (fun b hb h => h), rfl⟩
  have k0 := cell_at 0 hkb
  have k1 := cell_at 1 hkb
  have k2 := cell_at 2 hkb
  have k3 := cell_at 3 hkb
  clear h hkb
  cases hg : getR cs ⟨kd, ka, kb, ks'⟩ with
  | none =>
    have hix := getR_none hg
    have e : refStill cs ⟨kd, ka, kb, ks'⟩ who vw has = !has := by unfold refStill; rw [hg]
    rw [e]
    clear e hg
    go_enter Try.func127, Try.ntmps127
    go_wp2_with fail
    rw [← hW]
    clear hW
    go_wp2_with ((go_at_call 98; go_must (have hcc := find_any r v room cs ⟨kd, ka, kb, ks'⟩ _ hR' hb; rw [hix] at hcc; refine hcc.mono ?_); clear hcc; rintro e w' ⟨rfl, p, rfl⟩); have o0 := cell_at 0 (p.blkE hob); have o2 := cell_at 2 (p.blkE hob))
    go_ret
    exact ⟨rfl, fin p⟩
  | some ic =>
    obtain ⟨i, c⟩ := ic
    obtain ⟨hix, hx, hck⟩ := getR_some hg
    obtain ⟨⟨xd, xa, xb, xs⟩, xw, xh, xt, xl, xo⟩ := c
    have e : refStill cs ⟨kd, ka, kb, ks'⟩ who vw has = (if xl && (xo != who) then false else if xh != has then false else (xw == vw) || (!has && (xw == 0))) := by unfold refStill; rw [hg]
    have He : Hid _ := e
    have hi : i < cs.length := (List.getElem?_eq_some_iff.1 hx).1
    clear e hg hck
    have Hx : Hid _ := hx
    clear hx
    go_enter Try.func127, Try.ntmps127
    go_wp2_with fail
    rw [← hW]
    clear hW
    cases xl <;> cases xh <;> cases has
    all_goals
      cases h1 : (xo != who)
      all_goals
        cases h2 : (xw == vw)
        all_goals
          go_wp2_with ((go_at_call 98; go_must (have hcc := find_any r v room cs ⟨kd, ka, kb, ks'⟩ _ hR' hb; rw [hix] at hcc; refine hcc.mono ?_); clear hcc; rintro e w' ⟨rfl, p, rfl⟩); have o0 := cell_at 0 (p.blkE hob); have o2 := cell_at 2 (p.blkE hob); have ol := lt_of_blk (p.blkE hob); have on : w.heap.size + 1 ≠ p.w.heap.size := Nat.ne_of_lt ol; have hR1 := hR'.ext p; have hx := Hx.out; obtain ⟨g, cap, hv, hc, hfz⟩ := (hR1).get hx; have hst := (hR1).st; rw [hv] at hst; have s1 := cell_at 1 hst; have x0 := hc.c0; have x1 := hc.c1; have x2 := hc.c2; have x3 := hc.c3; have x4 := hc.c4; have x5 := hc.c5; have x6 := hc.c6; have x7 := hc.c7; have x8 := hc.c8; clear hx)
          go_ret
          refine ⟨?_, fin (p.alloc _)⟩
          rw [He.out]
          first | rfl | (rw [h1, h2]; rfl) | (simp [h1, h2]; done)
end Go.Proofs.Cob

namespace Go.Proofs.Cob
open Go Go.RowKit Go.Cob
set_option linter.unusedSimpArgs false
set_option linter.unusedVariables false

theorem rowRC_set : ∀ {cs : List RC} {i : Nat} {c c' : RC} {j : Nat} {u : Value}, cs[i]? = some c → j < 9 → encRC c' = (encRC c).set j u → (rowRC cs).set (i * 9 + j) u = rowRC (cs.set i c')
  | [], i, c, c', j, u, h, hj, e => by simp at h
  | c0 :: cs, 0, c, c', j, u, h, hj, e => by
    have : c0 = c := by simpa using h
    subst this
    show (encRC c0 ++ rowRC cs).set (0 * 9 + j) u = encRC c' ++ rowRC cs
    rw [e, List.set_append_left _ _ (by simp; omega)]
    simp
  | c0 :: cs, i + 1, c, c', j, u, h, hj, e => by
    show (encRC c0 ++ rowRC cs).set ((i + 1) * 9 + j) u = encRC c0 ++ rowRC (cs.set i c')
    have hn : (i + 1) * 9 + j - (encRC c0).length = i * 9 + j := by simp; omega
    rw [List.set_append_right _ _ (by simp; omega), hn, rowRC_set (by simpa using h) hj e]

theorem RefAt.put {w : World} {r g cap : Nat} {room : Int} {cs : List RC} {i j : Nat} {c c' : RC} {u : Value} (h : RefAt w r (.slice (some ⟨g, 0, none⟩) cs.length cap) room cs) (hx : cs[i]? = some c) (hj : j < 9) (he : encRC c' = (encRC c).set j u) :
    RefAt (w.setCell ⟨g, i * 9 + j, none⟩ u) r (.slice (some ⟨g, 0, none⟩) (cs.set i c').length cap) room (cs.set i c') := by
  obtain ⟨cur, hg⟩ := rowBlk h.row rfl
  have hne : r ≠ g := blkNe h.st hg (by decide)
  refine ⟨?_, ?_⟩
  · rw [heap_set_other hne, List.length_set]; exact h.st
  · have := (h.row.stored (i * 9 + j) u).1
    rw [rowRC_set hx hj he] at this
    rw [List.length_set]; exact this

theorem RefAt.cellj {w : World} {r g cap n : Nat} {room : Int} {cs : List RC} {i : Nat} {c : RC} (h : RefAt w r (.slice (some ⟨g, 0, none⟩) n cap) room cs) (hx : cs[i]? = some c) (j : Nat) (hj : j < 9) : w.cell? ⟨g, i * 9 + j, none⟩ = (encRC c)[j]? := by
  have hi : i < cs.length := (List.getElem?_eq_some_iff.1 hx).1
  have hr := h.row
  have hn : n = cs.length := by
    rcases hr.2 with ⟨h', _⟩ | ⟨g', cap', cur, h', _⟩
    · simp at h'
    · simp only [Value.slice.injEq] at h'; exact h'.2.1
  subst hn
  rw [hr.cellAt (i * 9 + j) (by omega)]
  exact rowRC_get hx j hj
theorem RefAt.frozj {w : World} {r g cap n : Nat} {room : Int} {cs : List RC} (h : RefAt w r (.slice (some ⟨g, 0, none⟩) n cap) room cs) (o : Nat) : w.frozen? ⟨g, o, none⟩ = false := by
  have hr := h.row
  rcases hr.2 with ⟨h', _⟩ | ⟨g', cap', cur, h', _, hg, _⟩
  · simp at h'
  · simp only [Value.slice.injEq, Option.some.injEq, Addr.mk.injEq, and_true, true_and] at h'
    obtain ⟨rfl, -, -⟩ := h'
    exact frozen_at o hg

def refInstall (cs : List RC) (k : Key) (who stamp : Int) (vs : ByteArray) (has : Bool) : Int × List RC :=
  if refHolds cs k who then
    match getR cs k with
    | none => (51, cs)
    | some (i, c) => if decide (4611686018427387904 ≤ stamp) || decide (stamp ≤ c.wd) || (!vs.toList.isEmpty && !has) then (2, cs) else (0, cs.set i { c with wd := stamp, has := has, text := vs, locked := false })
  else (51, cs)

set_option maxRecDepth 4000 in
set_option maxHeartbeats 3200000 in
theorem refInstall_any (r : Nat) (room : Int) (cs : List RC) (G : Nat → Prop) (k : Key) (who stamp vw : Int) (vs : ByteArray) (has : Bool) (w : World) (h : RefM w r room cs G) (hb : cs.length < 4611686018427387904) :
    Calls Try.prog 126 #[.pointer (some ⟨r, 0, none⟩), keyV k, .int .i64 who, .int .u64 stamp, seenV vw vs has] w fun e w' => e = .returned (.int .i64 (refInstall cs k who stamp vs has).1) ∧ ∃ p : Ch G w, w' = p.w ∧ RefM p.w r room (refInstall cs k who stamp vs has).2 G := by
  obtain ⟨kd, ka, kb, ks'⟩ := k
  have h0 := h
  obtain ⟨⟨v, h1, h2⟩, h3⟩ := h
  obtain ⟨W, hW⟩ : ∃ W, W = (w.alloc (.cells (keyCells kd ka kb ks') 23)).alloc (.cells #[.int .u64 vw, .string vs, .bool has] 37) := ⟨_, rfl⟩
  have hR' : RefAt W r v room cs := by rw [hW]; exact (h1.ext ((Ch.refl NoS w).alloc (.cells (keyCells kd ka kb ks') 23))).ext ((Ch.refl NoS _).alloc _)
  have hM' : RefM W r room cs G := ⟨⟨v, hR', h2⟩, h3⟩
  have hob : W.heap[w.heap.size + 1]? = some (.cells #[.int .u64 vw, .string vs, .bool has] 37 (0, 0)) := by rw [hW]; exact heap_alloc_eq _ (by simp)
  have hkb : W.heap[w.heap.size]? = some (.cells (keyCells kd ka kb ks') 23 (0, 0)) := by rw [hW]; exact heap_alloc_blk _ (heap_alloc_at _ _)
  have fin : ∀ p : Ch G W, ∃ q : Ch G w, p.w = q.w := fun p => ⟨(((Ch.refl _ w).alloc _).alloc _).onto hW p (fun b hb h => h), rfl⟩
  have k0 := cell_at 0 hkb
  have k1 := cell_at 1 hkb
  have k2 := cell_at 2 hkb
  have k3 := cell_at 3 hkb
  clear h1
  cases hh : refHolds cs ⟨kd, ka, kb, ks'⟩ who with
  | false =>
    have e : refInstall cs ⟨kd, ka, kb, ks'⟩ who stamp vs has = (51, cs) := by unfold refInstall; rw [hh]; rfl
    rw [e]
    clear e
    go_enter Try.func126, Try.ntmps126
    go_wp2_with fail
    rw [← hW]
    clear hW
    go_wp2_with (go_at_call 194; go_must (have hcc := refHolds_any r v room cs ⟨kd, ka, kb, ks'⟩ who _ hR' hb; rw [hh] at hcc; refine hcc.mono ?_); clear hcc; rintro e w' ⟨rfl, p, rfl⟩)
    go_ret
    obtain ⟨q, hq⟩ := fin (p.up G)
    exact ⟨rfl, q, hq, by rw [← show p.w = q.w from hq]; exact hM'.ext p⟩
  | true =>
    cases hg : getR cs ⟨kd, ka, kb, ks'⟩ with
    | none => unfold refHolds at hh; rw [hg] at hh; cases hh
    | some ic =>
      obtain ⟨i, c⟩ := ic
      obtain ⟨hix, hx, hck⟩ := getR_some hg
      have e : refInstall cs ⟨kd, ka, kb, ks'⟩ who stamp vs has = if decide (4611686018427387904 ≤ stamp) || decide (stamp ≤ c.wd) || (!vs.toList.isEmpty && !has) then (2, cs) else (0, cs.set i { c with wd := stamp, has := has, text := vs, locked := false }) := by unfold refInstall; rw [hh, hg]; rfl
      have He : Hid _ := e
      have hi : i < cs.length := (List.getElem?_eq_some_iff.1 hx).1
      have Hc : Hid _ := hx
      obtain ⟨⟨xd, xa, xb, xs⟩, xw, xh, xt, xl, xo⟩ := c
      have Hx : Hid _ := hx
      clear hg hck e hx
      have walk1 : True := trivial
      go_enter Try.func126, Try.ntmps126
      go_wp2_with fail
      rw [← hW]
      clear hW
      go_wp2_with (go_at_call 194; go_must (have hcc := refHolds_any r v room cs ⟨kd, ka, kb, ks'⟩ who _ hR' hb; rw [hh] at hcc; refine hcc.mono ?_); clear hcc; rintro e w' ⟨rfl, p, rfl⟩; have k0' := cell_at 0 (p.blkE hkb); have k1' := cell_at 1 (p.blkE hkb); have k2' := cell_at 2 (p.blkE hkb); have k3' := cell_at 3 (p.blkE hkb))
      go_at_call 98
      have hcc := find_any r v room cs ⟨kd, ka, kb, ks'⟩ _ (hR'.ext p) hb
      rw [hix] at hcc
      refine hcc.mono ?_
      clear hcc
      rintro e w' ⟨rfl, q, rfl⟩
      have hR2 := (hR'.ext p).ext q
      have hob2 := q.blkE (p.blkE hob)
      have fin2 : ∀ s : Ch G q.w, ∃ s' : Ch G w, s.w = s'.w := fun s => fin (((p.thenE q).up G).then s (fun _ _ h => h))
      clear k0' k1' k2' k3' k0 k1 k2 k3 hR' hM' hob hkb fin
      generalize q.w = W2 at *
      clear q p W
      have hx := Hx.out
      obtain ⟨g, cap, hv, hc, hfz⟩ := (hR2).get hx; have hst := (hR2).st; rw [hv] at hst; have s1 := cell_at 1 hst; have x0 := hc.c0; have x1 := hc.c1; have x2 := hc.c2; have x3 := hc.c3; have x4 := hc.c4; have x5 := hc.c5; have x6 := hc.c6; have x7 := hc.c7; have x8 := hc.c8
      clear hx
      have o1 := cell_at 1 hob2
      have o2 := cell_at 2 hob2
      have HR2 : Hid _ := hR2
      have HV : Hid _ := hv
      have hg2 : G g := h2 g (by rw [hv]; rfl)
      have hrg : r ≠ g := by
        have := hR2.row
        rw [hv] at this
        obtain ⟨cur, hgb⟩ := rowBlk this rfl
        exact blkNe hR2.st hgb (by decide)
      have hog : w.heap.size + 1 ≠ g := by
        have := hR2.row
        rw [hv] at this
        obtain ⟨cur, hgb⟩ := rowBlk this rfl
        exact blkNe hob2 hgb (by decide)
      clear hR2 hv hc
      by_cases t1 : 4611686018427387904 ≤ stamp
      · have e := He.out
        rw [decide_eq_true t1] at e
        have He2 : Hid _ := e
        clear e He
        go_wp2_with fail
        go_ret
        obtain ⟨s, hs⟩ := fin2 (Ch.refl G W2)
        rw [He2.out]
        exact ⟨rfl, s, hs, hs ▸ ⟨⟨v, HR2.out, h2⟩, h3⟩⟩
      by_cases t2 : stamp ≤ xw
      · have e := He.out
        rw [decide_eq_false t1, decide_eq_true t2] at e
        have He2 : Hid _ := e
        clear e He
        go_wp2_with fail
        go_ret
        obtain ⟨s, hs⟩ := fin2 (Ch.refl G W2)
        rw [He2.out]
        exact ⟨rfl, s, hs, hs ▸ ⟨⟨v, HR2.out, h2⟩, h3⟩⟩
      cases t3 : (!vs.toList.isEmpty && !has)
      · have e := He.out
        rw [decide_eq_false t1, decide_eq_false t2, t3] at e
        have He2 : Hid _ := e
        clear e He
        have t4 : (!vs.toList.isEmpty) = false ∨ ((!vs.toList.isEmpty) = true ∧ has = true) := by revert t3; cases (!vs.toList.isEmpty) <;> cases has <;> simp
        clear t3
        have hRa := HR2.out
        rw [HV.out] at hRa
        have hRb := hRa.put (c' := ⟨⟨xd, xa, xb, xs⟩, stamp, xh, xt, xl, xo⟩) (j := 4) (u := .int .u64 stamp) Hx.out (by decide) rfl
        have hob3 : (W2.setCell ⟨g, i * 9 + 4, none⟩ (.int .u64 stamp)).heap[w.heap.size + 1]? = some (.cells #[.int .u64 vw, .string vs, .bool has] 37 (0, 0)) := by rw [heap_set_other hog]; exact hob2
        have fin3 : ∀ s : Ch G (W2.setCell ⟨g, i * 9 + 4, none⟩ (.int .u64 stamp)), ∃ s' : Ch G w, s.w = s'.w := fun s => fin2 (((Ch.refl G W2).set g (i * 9 + 4) _ (fun _ => hg2)).then s (fun _ _ h => h))
        have HR : Hid (RefAt (W2.setCell ⟨g, i * 9 + 4, none⟩ (.int .u64 stamp)) r (.slice (some ⟨g, 0, none⟩) (cs.set i ⟨⟨xd, xa, xb, xs⟩, stamp, xh, xt, xl, xo⟩).length cap) room (cs.set i ⟨⟨xd, xa, xb, xs⟩, stamp, xh, xt, xl, xo⟩)) := hRb
        have Hob : Hid _ := hob3
        have Hfin : Hid _ := fin3
        clear hRa hRb hob3 fin3
        rcases t4 with t4 | ⟨t4, rfl⟩
        · go_wp2_with fail
          generalize World.setCell _ _ _ = W3 at HR Hob Hfin ⊢; have s1 : ∀ p : Ext W3, p.w.cell? ⟨r, 1, none⟩ = some (.slice (some ⟨g, 0, none⟩) cs.length cap) := (fun p => by have := cell_at 1 (p.blkE HR.out.st); simpa using this); have o1 : ∀ p : Ext W3, p.w.cell? ⟨w.heap.size + 1, 1, none⟩ = some (.string vs) := (fun p => cell_at 1 (p.blkE Hob.out)); have o2 : ∀ p : Ext W3, p.w.cell? ⟨w.heap.size + 1, 2, none⟩ = some (.bool has) := (fun p => cell_at 2 (p.blkE Hob.out)); have y : ∀ p : Ext W3, p.w.cell? ⟨g, i * 9 + 5, none⟩ = (encRC ⟨⟨xd, xa, xb, xs⟩, stamp, xh, xt, xl, xo⟩)[5]? := (fun p => (HR.out.ext p).cellj (by simp [hi]) 5 (by decide)); have f : ∀ p : Ext W3, p.w.frozen? ⟨g, i * 9 + 5, none⟩ = false := (fun p => (HR.out.ext p).frozj _); refine wp_region_lch NoS (by kernel_rfl) (by repeat constructor) (by kernel_rfl) (by kernel_rfl) (fun p hp => ?_); clear hp; (repeat (first | (refine wpMix_skip rfl rfl ?_) | (refine wpMix_step (fun K hK => ?_); go_simp; (with_reducible (refine hK _ _ ?_)); clear hK K))); refine wpMix_nil ?_; refine last_step (fun K hK => ?_); go_simp; (with_reducible (refine hK _ _ ?_)); clear hK K; replace HR : Hid (RefAt (p.w.setCell ⟨g, i * 9 + 5, none⟩ (.bool has)) r (.slice (some ⟨g, 0, none⟩) (cs.set i ⟨⟨xd, xa, xb, xs⟩, stamp, has, xt, xl, xo⟩).length cap) room (cs.set i ⟨⟨xd, xa, xb, xs⟩, stamp, has, xt, xl, xo⟩)) := (by have h1 := HR.out.ext p; have h2 := RefAt.put (c := ⟨⟨xd, xa, xb, xs⟩, stamp, xh, xt, xl, xo⟩) (c' := ⟨⟨xd, xa, xb, xs⟩, stamp, has, xt, xl, xo⟩) (i := i) (j := 5) (u := (.bool has)) h1 (by simp [hi]) (by decide) rfl; rw [List.set_set] at h2; exact h2); replace Hob : Hid ((p.w.setCell ⟨g, i * 9 + 5, none⟩ (.bool has)).heap[w.heap.size + 1]? = some (.cells #[.int .u64 vw, .string vs, .bool has] 37 (0, 0))) := (by show _ = _; rw [heap_set_other hog]; exact p.blkE Hob.out); replace Hfin : Hid (∀ s : Ch G (p.w.setCell ⟨g, i * 9 + 5, none⟩ (.bool has)), ∃ s' : Ch G w, s.w = s'.w) := (fun s => Hfin.out (((p.up G).set g (i * 9 + 5) _ (fun _ => hg2)).then s (fun _ _ h => h))); clear s1 o1 o2 y f
          go_wp2_with fail
          generalize World.setCell _ _ _ = W4 at HR Hob Hfin ⊢; have s1 : ∀ p : Ext W4, p.w.cell? ⟨r, 1, none⟩ = some (.slice (some ⟨g, 0, none⟩) cs.length cap) := (fun p => by have := cell_at 1 (p.blkE HR.out.st); simpa using this); have o1 : ∀ p : Ext W4, p.w.cell? ⟨w.heap.size + 1, 1, none⟩ = some (.string vs) := (fun p => cell_at 1 (p.blkE Hob.out)); have o2 : ∀ p : Ext W4, p.w.cell? ⟨w.heap.size + 1, 2, none⟩ = some (.bool has) := (fun p => cell_at 2 (p.blkE Hob.out)); have y : ∀ p : Ext W4, p.w.cell? ⟨g, i * 9 + 6, none⟩ = (encRC ⟨⟨xd, xa, xb, xs⟩, stamp, has, xt, xl, xo⟩)[6]? := (fun p => (HR.out.ext p).cellj (by simp [hi]) 6 (by decide)); have f : ∀ p : Ext W4, p.w.frozen? ⟨g, i * 9 + 6, none⟩ = false := (fun p => (HR.out.ext p).frozj _); refine wp_region_lch NoS (by kernel_rfl) (by repeat constructor) (by kernel_rfl) (by kernel_rfl) (fun p hp => ?_); clear hp; (repeat (first | (refine wpMix_skip rfl rfl ?_) | (refine wpMix_step (fun K hK => ?_); go_simp; (with_reducible (refine hK _ _ ?_)); clear hK K))); refine wpMix_nil ?_; refine last_step (fun K hK => ?_); go_simp; (with_reducible (refine hK _ _ ?_)); clear hK K; replace HR : Hid (RefAt (p.w.setCell ⟨g, i * 9 + 6, none⟩ (.string vs)) r (.slice (some ⟨g, 0, none⟩) (cs.set i ⟨⟨xd, xa, xb, xs⟩, stamp, has, vs, xl, xo⟩).length cap) room (cs.set i ⟨⟨xd, xa, xb, xs⟩, stamp, has, vs, xl, xo⟩)) := (by have h1 := HR.out.ext p; have h2 := RefAt.put (c := ⟨⟨xd, xa, xb, xs⟩, stamp, has, xt, xl, xo⟩) (c' := ⟨⟨xd, xa, xb, xs⟩, stamp, has, vs, xl, xo⟩) (i := i) (j := 6) (u := (.string vs)) h1 (by simp [hi]) (by decide) rfl; rw [List.set_set] at h2; exact h2); replace Hob : Hid ((p.w.setCell ⟨g, i * 9 + 6, none⟩ (.string vs)).heap[w.heap.size + 1]? = some (.cells #[.int .u64 vw, .string vs, .bool has] 37 (0, 0))) := (by show _ = _; rw [heap_set_other hog]; exact p.blkE Hob.out); replace Hfin : Hid (∀ s : Ch G (p.w.setCell ⟨g, i * 9 + 6, none⟩ (.string vs)), ∃ s' : Ch G w, s.w = s'.w) := (fun s => Hfin.out (((p.up G).set g (i * 9 + 6) _ (fun _ => hg2)).then s (fun _ _ h => h))); clear s1 o1 o2 y f
          generalize World.setCell _ _ _ = W5 at HR Hob Hfin ⊢
          have s1 : W5.cell? ⟨r, 1, none⟩ = some (.slice (some ⟨g, 0, none⟩) cs.length cap) := by have := cell_at 1 HR.out.st; simpa using this
          have y : W5.cell? ⟨g, i * 9 + 7, none⟩ = (encRC ⟨⟨xd, xa, xb, xs⟩, stamp, has, vs, xl, xo⟩)[7]? := HR.out.cellj (by simp [hi]) 7 (by decide)
          have f : W5.frozen? ⟨g, i * 9 + 7, none⟩ = false := HR.out.frozj _
          go_wp2_with fail
          go_ret
          have hR6 := RefAt.put (c := ⟨⟨xd, xa, xb, xs⟩, stamp, has, vs, xl, xo⟩) (c' := ⟨⟨xd, xa, xb, xs⟩, stamp, has, vs, false, xo⟩) (i := i) (j := 7) (u := .bool false) HR.out (by simp [hi]) (by decide) rfl
          rw [List.set_set] at hR6
          obtain ⟨s, hs⟩ := Hfin.out ((Ch.refl G W5).set g (i * 9 + 7) (.bool false) (fun _ => hg2))
          rw [He2.out]
          refine ⟨rfl, s, hs, hs ▸ ⟨⟨_, hR6, fun b hb => ?_⟩, h3⟩⟩
          have : g = b := by simpa [Value.ownBlock] using hb
          exact this ▸ hg2
        · go_wp2_with fail
          generalize World.setCell _ _ _ = W3 at HR Hob Hfin ⊢; have s1 : ∀ p : Ext W3, p.w.cell? ⟨r, 1, none⟩ = some (.slice (some ⟨g, 0, none⟩) cs.length cap) := (fun p => by have := cell_at 1 (p.blkE HR.out.st); simpa using this); have o1 : ∀ p : Ext W3, p.w.cell? ⟨w.heap.size + 1, 1, none⟩ = some (.string vs) := (fun p => cell_at 1 (p.blkE Hob.out)); have o2 : ∀ p : Ext W3, p.w.cell? ⟨w.heap.size + 1, 2, none⟩ = some (.bool true) := (fun p => cell_at 2 (p.blkE Hob.out)); have y : ∀ p : Ext W3, p.w.cell? ⟨g, i * 9 + 5, none⟩ = (encRC ⟨⟨xd, xa, xb, xs⟩, stamp, xh, xt, xl, xo⟩)[5]? := (fun p => (HR.out.ext p).cellj (by simp [hi]) 5 (by decide)); have f : ∀ p : Ext W3, p.w.frozen? ⟨g, i * 9 + 5, none⟩ = false := (fun p => (HR.out.ext p).frozj _); refine wp_region_lch NoS (by kernel_rfl) (by repeat constructor) (by kernel_rfl) (by kernel_rfl) (fun p hp => ?_); clear hp; (repeat (first | (refine wpMix_skip rfl rfl ?_) | (refine wpMix_step (fun K hK => ?_); go_simp; (with_reducible (refine hK _ _ ?_)); clear hK K))); refine wpMix_nil ?_; refine last_step (fun K hK => ?_); go_simp; (with_reducible (refine hK _ _ ?_)); clear hK K; replace HR : Hid (RefAt (p.w.setCell ⟨g, i * 9 + 5, none⟩ (.bool true)) r (.slice (some ⟨g, 0, none⟩) (cs.set i ⟨⟨xd, xa, xb, xs⟩, stamp, true, xt, xl, xo⟩).length cap) room (cs.set i ⟨⟨xd, xa, xb, xs⟩, stamp, true, xt, xl, xo⟩)) := (by have h1 := HR.out.ext p; have h2 := RefAt.put (c := ⟨⟨xd, xa, xb, xs⟩, stamp, xh, xt, xl, xo⟩) (c' := ⟨⟨xd, xa, xb, xs⟩, stamp, true, xt, xl, xo⟩) (i := i) (j := 5) (u := (.bool true)) h1 (by simp [hi]) (by decide) rfl; rw [List.set_set] at h2; exact h2); replace Hob : Hid ((p.w.setCell ⟨g, i * 9 + 5, none⟩ (.bool true)).heap[w.heap.size + 1]? = some (.cells #[.int .u64 vw, .string vs, .bool true] 37 (0, 0))) := (by show _ = _; rw [heap_set_other hog]; exact p.blkE Hob.out); replace Hfin : Hid (∀ s : Ch G (p.w.setCell ⟨g, i * 9 + 5, none⟩ (.bool true)), ∃ s' : Ch G w, s.w = s'.w) := (fun s => Hfin.out (((p.up G).set g (i * 9 + 5) _ (fun _ => hg2)).then s (fun _ _ h => h))); clear s1 o1 o2 y f
          go_wp2_with fail
          generalize World.setCell _ _ _ = W4 at HR Hob Hfin ⊢; have s1 : ∀ p : Ext W4, p.w.cell? ⟨r, 1, none⟩ = some (.slice (some ⟨g, 0, none⟩) cs.length cap) := (fun p => by have := cell_at 1 (p.blkE HR.out.st); simpa using this); have o1 : ∀ p : Ext W4, p.w.cell? ⟨w.heap.size + 1, 1, none⟩ = some (.string vs) := (fun p => cell_at 1 (p.blkE Hob.out)); have o2 : ∀ p : Ext W4, p.w.cell? ⟨w.heap.size + 1, 2, none⟩ = some (.bool true) := (fun p => cell_at 2 (p.blkE Hob.out)); have y : ∀ p : Ext W4, p.w.cell? ⟨g, i * 9 + 6, none⟩ = (encRC ⟨⟨xd, xa, xb, xs⟩, stamp, true, xt, xl, xo⟩)[6]? := (fun p => (HR.out.ext p).cellj (by simp [hi]) 6 (by decide)); have f : ∀ p : Ext W4, p.w.frozen? ⟨g, i * 9 + 6, none⟩ = false := (fun p => (HR.out.ext p).frozj _); refine wp_region_lch NoS (by kernel_rfl) (by repeat constructor) (by kernel_rfl) (by kernel_rfl) (fun p hp => ?_); clear hp; (repeat (first | (refine wpMix_skip rfl rfl ?_) | (refine wpMix_step (fun K hK => ?_); go_simp; (with_reducible (refine hK _ _ ?_)); clear hK K))); refine wpMix_nil ?_; refine last_step (fun K hK => ?_); go_simp; (with_reducible (refine hK _ _ ?_)); clear hK K; replace HR : Hid (RefAt (p.w.setCell ⟨g, i * 9 + 6, none⟩ (.string vs)) r (.slice (some ⟨g, 0, none⟩) (cs.set i ⟨⟨xd, xa, xb, xs⟩, stamp, true, vs, xl, xo⟩).length cap) room (cs.set i ⟨⟨xd, xa, xb, xs⟩, stamp, true, vs, xl, xo⟩)) := (by have h1 := HR.out.ext p; have h2 := RefAt.put (c := ⟨⟨xd, xa, xb, xs⟩, stamp, true, xt, xl, xo⟩) (c' := ⟨⟨xd, xa, xb, xs⟩, stamp, true, vs, xl, xo⟩) (i := i) (j := 6) (u := (.string vs)) h1 (by simp [hi]) (by decide) rfl; rw [List.set_set] at h2; exact h2); replace Hob : Hid ((p.w.setCell ⟨g, i * 9 + 6, none⟩ (.string vs)).heap[w.heap.size + 1]? = some (.cells #[.int .u64 vw, .string vs, .bool true] 37 (0, 0))) := (by show _ = _; rw [heap_set_other hog]; exact p.blkE Hob.out); replace Hfin : Hid (∀ s : Ch G (p.w.setCell ⟨g, i * 9 + 6, none⟩ (.string vs)), ∃ s' : Ch G w, s.w = s'.w) := (fun s => Hfin.out (((p.up G).set g (i * 9 + 6) _ (fun _ => hg2)).then s (fun _ _ h => h))); clear s1 o1 o2 y f
          generalize World.setCell _ _ _ = W5 at HR Hob Hfin ⊢
          have s1 : W5.cell? ⟨r, 1, none⟩ = some (.slice (some ⟨g, 0, none⟩) cs.length cap) := by have := cell_at 1 HR.out.st; simpa using this
          have y : W5.cell? ⟨g, i * 9 + 7, none⟩ = (encRC ⟨⟨xd, xa, xb, xs⟩, stamp, true, vs, xl, xo⟩)[7]? := HR.out.cellj (by simp [hi]) 7 (by decide)
          have f : W5.frozen? ⟨g, i * 9 + 7, none⟩ = false := HR.out.frozj _
          go_wp2_with fail
          go_ret
          have hR6 := RefAt.put (c := ⟨⟨xd, xa, xb, xs⟩, stamp, true, vs, xl, xo⟩) (c' := ⟨⟨xd, xa, xb, xs⟩, stamp, true, vs, false, xo⟩) (i := i) (j := 7) (u := .bool false) HR.out (by simp [hi]) (by decide) rfl
          rw [List.set_set] at hR6
          obtain ⟨s, hs⟩ := Hfin.out ((Ch.refl G W5).set g (i * 9 + 7) (.bool false) (fun _ => hg2))
          rw [He2.out]
          refine ⟨rfl, s, hs, hs ▸ ⟨⟨_, hR6, fun b hb => ?_⟩, h3⟩⟩
          have : g = b := by simpa [Value.ownBlock] using hb
          exact this ▸ hg2
      · have e := He.out
        rw [decide_eq_false t1, decide_eq_false t2, t3] at e
        have He2 : Hid _ := e
        clear e He
        have t4 : (!vs.toList.isEmpty) = true := by revert t3; cases (!vs.toList.isEmpty) <;> simp
        have t5 : has = false := by revert t3; cases has <;> simp
        subst t5
        clear t3
        go_wp2_with fail
        go_ret
        obtain ⟨s, hs⟩ := fin2 (Ch.refl G W2)
        rw [He2.out]
        exact ⟨rfl, s, hs, hs ▸ ⟨⟨v, HR2.out, h2⟩, h3⟩⟩
end Go.Proofs.Cob

namespace Go.Proofs.Cob
open Go Go.RowKit Go.Cob
set_option linter.unusedSimpArgs false
set_option linter.unusedVariables false

def refLock (room : Int) (cs : List RC) (k : Key) (who : Int) : (Int × Int) × List RC :=
  match getR cs k with
  | some (i, c) => if c.locked then ((0, 60), cs) else ((c.wd, 0), cs.set i { c with locked := true, who := who })
  | none => if room ≤ cs.length then ((0, 50), cs) else ((0, 0), cs ++ [⟨k, 0, false, ⟨#[]⟩, true, who⟩])

theorem info46 : ∃ i z, Try.prog.info? 46 = some i ∧ i.zero = some z ∧ i.size = 9 ∧ i.bytes = 88 ∧ z.cells.size = 9 :=
  ⟨(Try.prog.info? 46).get (by kernel_rfl), ((Try.prog.info? 46).get (by kernel_rfl)).zero.get (by kernel_rfl), (Option.some_get _).symm, (Option.some_get _).symm, by kernel_rfl, by kernel_rfl, by kernel_rfl⟩

set_option maxRecDepth 4000 in
set_option maxHeartbeats 3200000 in
theorem refLock_some (r : Nat) (room : Int) (cs : List RC) (G : Nat → Prop) (k : Key) (who : Int) (w : World) (h : RefM w r room cs G) (hb : cs.length < 4611686018427387904) (i : Nat) (c : RC) (hg : getR cs k = some (i, c)) :
    Calls Try.prog 124 #[.pointer (some ⟨r, 0, none⟩), keyV k, .int .i64 who] w fun e w' => e = .returned (.tuple #[.int .u64 (refLock room cs k who).1.1, .int .i64 (refLock room cs k who).1.2]) ∧ ∃ p : Ch G w, w' = p.w ∧ RefM p.w r room (refLock room cs k who).2 G := by
  obtain ⟨kd, ka, kb, ks'⟩ := k
  obtain ⟨⟨v, h1, h2⟩, h3⟩ := h
  have hR' : RefAt (w.alloc (.cells (keyCells kd ka kb ks') 23)) r v room cs := h1.ext ((Ch.refl NoS w).alloc _)
  have fin : ∀ p : Ch G (w.alloc (.cells (keyCells kd ka kb ks') 23)), ∃ q : Ch G w, p.w = q.w := fun p => ⟨((Ch.refl _ w).alloc _).then p (fun b hb h => h), rfl⟩
  obtain ⟨hix, hx, hck⟩ := getR_some hg
  have e : refLock room cs ⟨kd, ka, kb, ks'⟩ who = if c.locked then ((0, 60), cs) else ((c.wd, 0), cs.set i { c with locked := true, who := who }) := by unfold refLock; rw [hg]
  rw [e]
  have hi : i < cs.length := (List.getElem?_eq_some_iff.1 hx).1
  obtain ⟨⟨xd, xa, xb, xs⟩, xw, xh, xt, xl, xo⟩ := c
  have Hx : Hid _ := hx
  clear e hg hck hx h1
  cases xl
  · simp only [Bool.false_eq_true, if_false]
    go_enter Try.func124, Try.ntmps124
    go_wp2_with fail
    go_at_call 98
    have hcc := find_any r v room cs ⟨kd, ka, kb, ks'⟩ _ hR' hb
    rw [hix] at hcc
    refine hcc.mono ?_
    clear hcc
    rintro e w' ⟨rfl, p, rfl⟩
    have hR2 := hR'.ext p
    have fin2 : ∀ s : Ch G p.w, ∃ s' : Ch G w, s.w = s'.w := fun s => fin ((p.up G).then s (fun _ _ h => h))
    clear hR' fin
    generalize p.w = W2 at *
    clear p
    obtain ⟨g, cap, hv, hc, hfz⟩ := hR2.get Hx.out
    rw [hv] at hR2
    have hg2 : G g := h2 g (by rw [hv]; rfl)
    have hrg : r ≠ g := by
      obtain ⟨cur, hgb⟩ := rowBlk hR2.row rfl
      exact blkNe hR2.st hgb (by decide)
    have s1 := cell_at 1 hR2.st
    have x4 := hc.c4
    have x7 := hc.c7
    have x8 := hc.c8
    have f7 := hfz (i * 9 + 7)
    have f8 := hfz (i * 9 + 8)
    have HR2 : Hid _ := hR2
    clear hR2 hc hv
    go_wp2_with fail
    go_ret2
    have hRa := RefAt.put (c' := ⟨⟨xd, xa, xb, xs⟩, xw, xh, xt, true, xo⟩) (j := 7) (u := .bool true) HR2.out Hx.out (by decide) rfl
    have hRb := RefAt.put (c := ⟨⟨xd, xa, xb, xs⟩, xw, xh, xt, true, xo⟩) (c' := ⟨⟨xd, xa, xb, xs⟩, xw, xh, xt, true, who⟩) (i := i) (j := 8) (u := .int .i64 who) hRa (by simp [hi]) (by decide) rfl
    rw [List.set_set] at hRb
    obtain ⟨s, hs⟩ := fin2 (((Ch.refl G W2).set g (i * 9 + 7) (.bool true) (fun _ => hg2)).set g (i * 9 + 8) (.int .i64 who) (fun _ => hg2))
    refine ⟨rfl, s, hs, hs ▸ ⟨⟨_, hRb, fun b hb => ?_⟩, h3⟩⟩
    have : g = b := by simpa [Value.ownBlock] using hb
    exact this ▸ hg2
  · simp only [if_true]
    go_enter Try.func124, Try.ntmps124
    go_wp2_with fail
    go_at_call 98
    have hcc := find_any r v room cs ⟨kd, ka, kb, ks'⟩ _ hR' hb
    rw [hix] at hcc
    refine hcc.mono ?_
    clear hcc
    rintro e w' ⟨rfl, p, rfl⟩
    have hR2 := hR'.ext p
    have fin2 : ∀ s : Ch G p.w, ∃ s' : Ch G w, s.w = s'.w := fun s => fin ((p.up G).then s (fun _ _ h => h))
    clear hR' fin
    generalize p.w = W2 at *
    clear p
    obtain ⟨g, cap, hv, hc, hfz⟩ := hR2.get Hx.out
    have HR3 : Hid _ := hR2
    rw [hv] at hR2
    have s1 := cell_at 1 hR2.st
    have x7 := hc.c7
    clear hR2 hc hv
    go_wp2_with fail
    go_ret2
    obtain ⟨s, hs⟩ := fin2 (Ch.refl G W2)
    exact ⟨rfl, s, hs, hs ▸ ⟨⟨v, HR3.out, h2⟩, h3⟩⟩

theorem news_of (w : World) (cs : Array Value) (t : TypeId) : ∀ j u, cs.toList[j]? = some u → (w.alloc (.cells cs t)).cell? ((⟨w.heap.size, 0, none⟩ : Addr).add j) = some u := by
  intro j u hj
  have := cell_at j (heap_alloc_at w (.cells cs t))
  have e : ((⟨w.heap.size, 0, none⟩ : Addr).add j) = ⟨w.heap.size, j, none⟩ := by cases j <;> simp [Addr.add]
  rw [e, this]
  simpa using hj
theorem rowRC_snoc (cs : List RC) (c : RC) : rowRC (cs ++ [c]) = rowRC cs ++ encRC c := by simp [rowRC]

set_option maxRecDepth 4000 in
set_option maxHeartbeats 3200000 in
theorem refLock_none (r : Nat) (room : Int) (cs : List RC) (G : Nat → Prop) (k : Key) (who : Int) (w : World) (h : RefM w r room cs G) (hG : ∀ b, w.heap.size ≤ b → G b) (hb : cs.length < 1000000000000) (hg : getR cs k = none) :
    Calls Try.prog 124 #[.pointer (some ⟨r, 0, none⟩), keyV k, .int .i64 who] w fun e w' => e = .returned (.tuple #[.int .u64 (refLock room cs k who).1.1, .int .i64 (refLock room cs k who).1.2]) ∧ ∃ p : Ch G w, w' = p.w ∧ RefM p.w r room (refLock room cs k who).2 G := by
  obtain ⟨kd, ka, kb, ks'⟩ := k
  obtain ⟨⟨v, h1, h2⟩, h3⟩ := h
  have hR' : RefAt (w.alloc (.cells (keyCells kd ka kb ks') 23)) r v room cs := h1.ext ((Ch.refl NoS w).alloc _)
  have hkb : (w.alloc (.cells (keyCells kd ka kb ks') 23)).heap[w.heap.size]? = some (.cells (keyCells kd ka kb ks') 23 (0, 0)) := heap_alloc_at _ _
  have fin : ∀ p : Ch G (w.alloc (.cells (keyCells kd ka kb ks') 23)), ∃ q : Ch G w, p.w = q.w := fun p => ⟨((Ch.refl _ w).alloc _).then p (fun b hb h => h), rfl⟩
  have hix := getR_none hg
  have e : refLock room cs ⟨kd, ka, kb, ks'⟩ who = if room ≤ cs.length then ((0, 50), cs) else ((0, 0), cs ++ [⟨⟨kd, ka, kb, ks'⟩, 0, false, ⟨#[]⟩, true, who⟩]) := by unfold refLock; rw [hg]
  rw [e]
  obtain ⟨res, hres⟩ : ∃ res, res = (if room ≤ cs.length then (((0 : Int), (50 : Int)), cs) else ((0, 0), cs ++ [⟨⟨kd, ka, kb, ks'⟩, 0, false, ⟨#[]⟩, true, who⟩])) := ⟨_, rfl⟩
  rw [← hres]
  have HRes : Hid _ := hres
  clear e hg h1 hres
  obtain ⟨fa, cap, hfv, hcap, hfa⟩ := row_form hR'.row
  go_enter Try.func124, Try.ntmps124
  go_wp2_with fail
  go_at_call 98
  have hcc := find_any r v room cs ⟨kd, ka, kb, ks'⟩ _ hR' (by omega)
  rw [hix] at hcc
  refine hcc.mono ?_
  clear hcc
  rintro e w' ⟨rfl, p, rfl⟩
  have hR2 := hR'.ext p
  have hkb2 := p.blkE hkb
  have fin2 : ∀ s : Ch G p.w, ∃ s' : Ch G w, s.w = s'.w := fun s => fin ((p.up G).then s (fun _ _ h => h))
  have hsz2 : w.heap.size < p.w.heap.size := lt_of_blk hkb2
  have hG2 : ∀ b, p.w.heap.size ≤ b → G b := fun b hb => hG b (by omega)
  clear hR' fin hkb
  generalize p.w = W2 at *
  clear p
  obtain ⟨bk, hbk⟩ : ∃ bk, bk = w.heap.size := ⟨_, rfl⟩
  rw [← hbk] at hkb2 hsz2 ⊢
  obtain ⟨n, hn⟩ : ∃ n, n = cs.length := ⟨_, rfl⟩
  rw [← hn] at hfv hcap hfa hb
  have HN : Hid _ := hn
  have HV : Hid _ := hfv
  clear hbk hn hG hfa
  have hrow := hR2.row
  have hst := hR2.st
  have hrb : ∀ b, v.ownBlock = some b → r ≠ b := fun b hb => by obtain ⟨cur, hc⟩ := rowBlk hrow hb; exact blkNe hst hc (by decide)
  have hkbn : ∀ b, v.ownBlock = some b → bk ≠ b := fun b hb => by obtain ⟨cur, hc⟩ := rowBlk hrow hb; exact blkNe hkb2 hc (by decide)
  have hrk : r ≠ bk := blkNe hst hkb2 (by decide)
  by_cases hroom : room ≤ (n : Int)
  · have hres2 := HRes.out
    rw [← HN.out, if_pos hroom] at hres2
    have HRes2 : Hid _ := hres2
    clear hres2
    have s1 : ∀ p : Ext W2, p.w.cell? ⟨r, 1, none⟩ = some (.slice fa n cap) := fun p => by rw [← hfv]; exact cell_at 1 (p.blkE hst)
    have s0 : ∀ p : Ext W2, p.w.cell? ⟨r, 0, none⟩ = some (.int .i64 room) := fun p => cell_at 0 (p.blkE hst)
    clear hfv hst hkb2 hrow
    go_wp2_with fail
    refine wp_region_ch NoS (by kernel_rfl) (by kernel_rfl) (fun p hp => ?_)
    clear hp
    (repeat (first | (refine wpMix_skip rfl rfl ?_) | (refine wpMix_step (fun K hK => ?_); go_simp; (with_reducible (refine hK _ _ ?_)); clear hK K)))
    refine wpMix_nil ?_
    go_wp2_with fail
    go_ret2
    obtain ⟨s, hs⟩ := fin2 (p.up G)
    rw [HRes2.out]
    exact ⟨rfl, s, hs, by rw [← show p.w = s.w from hs]; exact ⟨⟨v, hR2.ext p, h2⟩, h3⟩⟩
  · have hres2 := HRes.out
    rw [← HN.out, if_neg hroom] at hres2
    have HRes2 : Hid _ := hres2
    clear hres2
    have s1 : ∀ p : Ext W2, p.w.cell? ⟨r, 1, none⟩ = some (.slice fa n cap) := fun p => by rw [← hfv]; exact cell_at 1 (p.blkE hst)
    have s0 : ∀ p : Ext W2, p.w.cell? ⟨r, 0, none⟩ = some (.int .i64 room) := fun p => cell_at 0 (p.blkE hst)
    clear hfv
    go_wp2_with fail
    refine wp_region_ch NoS (by kernel_rfl) (by kernel_rfl) (fun p hp => ?_)
    clear hp
    (repeat (first | (refine wpMix_skip rfl rfl ?_) | (refine wpMix_step (fun K hK => ?_); go_simp; (with_reducible (refine hK _ _ ?_)); clear hK K)))
    refine wpMix_nil ?_
    have hR3 := hR2.ext p
    have hst3 := p.blkE hst
    have hkb3 := p.blkE hkb2
    have fin3 : ∀ s : Ch G p.w, ∃ s' : Ch G w, s.w = s'.w := fun s => fin2 ((p.up G).then s (fun _ _ h => h))
    have hG3 : ∀ b, p.w.heap.size ≤ b → G b := fun b hb => hG2 b (by have := p.size; omega)
    clear s0 s1 hst hkb2 fin2 hG2 hR2 hrow hsz2
    generalize p.w = W3 at *
    clear p W2
    go_wp2_with fail
    obtain ⟨i0, z0, hi, hz0, hz1, hz2, hz3⟩ := info46
    have k0 : ∀ p : Ch (fun b => v.ownBlock = some b) W3, p.w.cell? ⟨bk, 0, none⟩ = some (.int .i64 kd) := fun p => cell_at 0 (p.blk hkb3 (fun e => hkbn _ e rfl))
    have k1 : ∀ p : Ch (fun b => v.ownBlock = some b) W3, p.w.cell? ⟨bk, 1, none⟩ = some (.int .i64 ka) := fun p => cell_at 1 (p.blk hkb3 (fun e => hkbn _ e rfl))
    have k2 : ∀ p : Ch (fun b => v.ownBlock = some b) W3, p.w.cell? ⟨bk, 2, none⟩ = some (.int .i64 kb) := fun p => cell_at 2 (p.blk hkb3 (fun e => hkbn _ e rfl))
    have k3 : ∀ p : Ch (fun b => v.ownBlock = some b) W3, p.w.cell? ⟨bk, 3, none⟩ = some (.string ks') := fun p => cell_at 3 (p.blk hkb3 (fun e => hkbn _ e rfl))
    have s1 : ∀ p : Ch (fun b => v.ownBlock = some b) W3, p.w.cell? ⟨r, 1, none⟩ = some v := fun p => cell_at 1 (p.blk hst3 (fun e => hrb _ e rfl))
    have f1 : ∀ p : Ch (fun b => v.ownBlock = some b) W3, p.w.frozen? ⟨r, 1, none⟩ = false := fun p => frozen_at 1 (p.blk hst3 (fun e => hrb _ e rfl))
    refine wp_region_lch (fun b => v.ownBlock = some b) (by kernel_rfl) (by repeat constructor) (by kernel_rfl) (by kernel_rfl) (fun p hp => ?_)
    have hrp : p.w.ownsRow 0 46 9 v n (rowRC cs) := by rw [HN.out]; exact rowKeep hR3.row (fun k hk => by rw [hp])
    clear hp
    (repeat (first | (refine wpMix_skip rfl rfl ?_) | (refine wpMix_step (fun K hK => ?_); go_simp; (with_reducible (refine hK _ _ ?_)); clear hK K)))
    refine wpMix_step (fun K hK => ?_); go_simp
    refine ⟨⟨p.alloc _, rfl⟩, hK _ _ ?_⟩; clear hK K
    refine wpMix_append rfl _ _ 47 rfl 46 i0 z0 9 88 Try.underlying47 hi hz0 hz1 hz2 hz3 (by decide) v n (rowRC cs) rfl (hrp.alloc _) ⟨p.w.heap.size, 0, none⟩ 1 1 (encRC ⟨⟨kd, ka, kb, ks'⟩, 0, false, ⟨#[]⟩, false, 0⟩) rfl rfl (news_of _ _ _) (by simp [Value.oneCell']) (by decide) (by unfold maxLen; omega) (by omega) ?_
    intro g cap2 w' hown hgrow hat hlt
    obtain ⟨q, hq⟩ : ∃ q : Ch (fun b => v.ownBlock = some b) W3, w' = q.w := ⟨(p.alloc _).grown hgrow (fun b _ e => e), rfl⟩
    have Hps : Hid (W3.heap.size ≤ p.w.heap.size) := p.size
    subst hq
    refine ⟨⟨q, rfl⟩, ?_⟩
    have hgG : G g := by
      rcases hat with h | h
      · exact h2 g h
      · refine hG3 g ?_
        have h4 := Hps.out
        rw [h]; simp; omega
    have hgr : g ≠ r := by
      rcases hat with h | h
      · exact fun e => hrb g h e.symm
      · have h4 := Hps.out
        have h5 := lt_of_blk hst3
        intro e; rw [e] at h; simp at h; omega
    have Hown : Hid _ := hown
    clear hgrow hrp hlt hat hown
    (repeat (first | (refine wpMix_skip rfl rfl ?_) | (refine wpMix_step (fun K hK => ?_); go_simp; (with_reducible (refine hK _ _ ?_)); clear hK K)))
    refine wpMix_nil ?_
    refine last_step (fun K hK => ?_); go_simp; (with_reducible (refine hK _ _ ?_)); clear hK K
    have hst4 : (q.w.setCell ⟨r, 1, none⟩ (.slice (some ⟨g, 0, none⟩) (n + 1) cap2)).heap[r]? = some (.cells #[.int .i64 room, .slice (some ⟨g, 0, none⟩) (n + 1) cap2] 49 (0, 0)) := by
      have := heap_set_same (q.blk hst3 (fun e => hrb _ e rfl)) 1 (.slice (some ⟨g, 0, none⟩) (n + 1) cap2)
      simpa using this
    have hlen : (cs ++ [(⟨⟨kd, ka, kb, ks'⟩, 0, false, ⟨#[]⟩, false, 0⟩ : RC)]).length = n + 1 := by simp [HN.out]
    have hRA : RefAt (q.w.setCell ⟨r, 1, none⟩ (.slice (some ⟨g, 0, none⟩) (n + 1) cap2)) r (.slice (some ⟨g, 0, none⟩) (n + 1) cap2) room (cs ++ [⟨⟨kd, ka, kb, ks'⟩, 0, false, ⟨#[]⟩, false, 0⟩]) := by
      refine ⟨hst4, ?_⟩
      rw [hlen, rowRC_snoc]
      refine rowKeep Hown.out (fun b hb => ?_)
      have : g = b := by simpa [Value.ownBlock] using hb
      subst this
      rw [heap_set_other hgr]
    have fin4 : ∀ s : Ch G (q.w.setCell ⟨r, 1, none⟩ (.slice (some ⟨g, 0, none⟩) (n + 1) cap2)), ∃ s' : Ch G w, s.w = s'.w := fun s =>
      fin3 (((q.mono (T := G) (fun b _ e => h2 b e)).set r 1 _ (fun _ => h3)).then s (fun _ _ h => h))
    have HRA : Hid _ := hRA
    have Hfin4 : Hid _ := fin4
    clear hRA fin4 hst4 fin3 k0 k1 k2 k3 s1 f1 hst3 hkb3 hR3 hG3 hkbn hrb
    generalize World.setCell q.w _ _ = W4 at HRA Hfin4 ⊢
    have hxl : (cs ++ [(⟨⟨kd, ka, kb, ks'⟩, 0, false, ⟨#[]⟩, false, 0⟩ : RC)])[n]? = some ⟨⟨kd, ka, kb, ks'⟩, 0, false, ⟨#[]⟩, false, 0⟩ := by rw [HN.out]; simp
    have s1 : W4.cell? ⟨r, 1, none⟩ = some (.slice (some ⟨g, 0, none⟩) (n + 1) cap2) := cell_at 1 HRA.out.st
    have y4 : W4.cell? ⟨g, n * 9 + 4, none⟩ = some (.int .u64 0) := HRA.out.cellj hxl 4 (by decide)
    have y7 : W4.cell? ⟨g, n * 9 + 7, none⟩ = some (.bool false) := HRA.out.cellj hxl 7 (by decide)
    have y8 : W4.cell? ⟨g, n * 9 + 8, none⟩ = some (.int .i64 0) := HRA.out.cellj hxl 8 (by decide)
    have f7 : W4.frozen? ⟨g, n * 9 + 7, none⟩ = false := HRA.out.frozj _
    have f8 : W4.frozen? ⟨g, n * 9 + 8, none⟩ = false := HRA.out.frozj _
    have Hxl : Hid _ := hxl
    have Hlen : Hid _ := hlen
    clear hxl hlen
    go_wp2_with fail
    go_ret2
    rw [HRes2.out]
    have hRA := HRA.out
    have hl2 : (cs ++ [(⟨⟨kd, ka, kb, ks'⟩, 0, false, ⟨#[]⟩, false, 0⟩ : RC)]).length = n + 1 := Hlen.out
    rw [← hl2] at hRA
    have hRB := RefAt.put (c' := ⟨⟨kd, ka, kb, ks'⟩, 0, false, ⟨#[]⟩, true, 0⟩) (j := 7) (u := .bool true) hRA Hxl.out (by decide) rfl
    have hRC := RefAt.put (c := ⟨⟨kd, ka, kb, ks'⟩, 0, false, ⟨#[]⟩, true, 0⟩) (c' := ⟨⟨kd, ka, kb, ks'⟩, 0, false, ⟨#[]⟩, true, who⟩) (i := n) (j := 8) (u := .int .i64 who) hRB (by rw [List.getElem?_set_self (by rw [hl2]; omega)]) (by decide) rfl
    rw [List.set_set] at hRC
    have hset : (cs ++ [(⟨⟨kd, ka, kb, ks'⟩, 0, false, ⟨#[]⟩, false, 0⟩ : RC)]).set n ⟨⟨kd, ka, kb, ks'⟩, 0, false, ⟨#[]⟩, true, who⟩ = cs ++ [⟨⟨kd, ka, kb, ks'⟩, 0, false, ⟨#[]⟩, true, who⟩] := by
      rw [HN.out, List.set_append_right _ _ (Nat.le_refl _)]; simp
    rw [hset] at hRC
    obtain ⟨s, hs⟩ := Hfin4.out (((Ch.refl G W4).set g (n * 9 + 7) (.bool true) (fun _ => hgG)).set g (n * 9 + 8) (.int .i64 who) (fun _ => hgG))
    refine ⟨rfl, s, hs, hs ▸ ⟨⟨_, hRC, fun b hb => ?_⟩, h3⟩⟩
    have : g = b := by simpa [Value.ownBlock] using hb
    exact this ▸ hgG

theorem refLock_any (r : Nat) (room : Int) (cs : List RC) (G : Nat → Prop) (k : Key) (who : Int) (w : World) (h : RefM w r room cs G) (hG : ∀ b, w.heap.size ≤ b → G b) (hb : cs.length < 1000000000000) :
    Calls Try.prog 124 #[.pointer (some ⟨r, 0, none⟩), keyV k, .int .i64 who] w fun e w' => e = .returned (.tuple #[.int .u64 (refLock room cs k who).1.1, .int .i64 (refLock room cs k who).1.2]) ∧ ∃ p : Ch G w, w' = p.w ∧ RefM p.w r room (refLock room cs k who).2 G := by
  cases hg : getR cs k with
  | none => exact refLock_none r room cs G k who w h hG hb hg
  | some ic => exact refLock_some r room cs G k who w h (by omega) ic.1 ic.2 hg
end Go.Proofs.Cob

namespace Go.Proofs.Cob
open Go Go.RowKit Go.Cob
set_option linter.unusedSimpArgs false
set_option linter.unusedVariables false

theorem rowRC_append (cs ds : List RC) : rowRC (cs ++ ds) = rowRC cs ++ rowRC ds := by simp [rowRC]
theorem oneCell_row (cs : List RC) : ∀ u ∈ rowRC cs, u.oneCell' = true := by
  intro u hu
  unfold rowRC at hu
  rw [List.mem_flatMap] at hu
  obtain ⟨c, _, hu⟩ := hu
  simp [encRC] at hu
  rcases hu with rfl | rfl | rfl | rfl | rfl | rfl | rfl | rfl | rfl <;> rfl
theorem z47 (w : World) : (zeroValue 47).run Try.prog w = .ok (.slice none 0 0) w := by kernel_rfl

set_option maxRecDepth 4000 in
set_option maxHeartbeats 3200000 in
theorem refDrop_any (r : Nat) (room : Int) (cs : List RC) (G : Nat → Prop) (i : Nat) (w : World) (h : RefM w r room cs G) (hG : ∀ b, w.heap.size ≤ b → G b) (hb : cs.length < 1000000000000) (hi : i < cs.length) :
    Calls Try.prog 195 #[.pointer (some ⟨r, 0, none⟩), .int .i64 i] w fun e w' => e = .returned (.tuple #[]) ∧ ∃ p : Ch G w, w' = p.w ∧ RefM p.w r room (cs.eraseIdx i) G := by
  obtain ⟨⟨v, h1, h2⟩, h3⟩ := h
  obtain ⟨g, cap, rfl, hc, hfz⟩ := h1.get (List.getElem?_eq_getElem hi)
  have s1 := cell_at 1 h1.st
  have f1 := frozen_at 1 h1.st
  obtain ⟨i0, z0, hi0, hz0, hz1, hz2, hz3⟩ := info46
  obtain ⟨_, hgb⟩ := rowBlk h1.row rfl
  have hcap : cs.length ≤ cap := by
    rcases h1.row.2 with ⟨h', _⟩ | ⟨g', cap', cur, h', _, _, hnc, _⟩
    · simp at h'
    · simp only [Value.slice.injEq] at h'; rw [h'.2.2]; exact hnc
  obtain ⟨n, hn⟩ : ∃ n, n = cs.length := ⟨_, rfl⟩
  have HN : Hid _ := hn
  have H1 : Hid _ := h1
  have hst := h1.st
  rw [← hn] at s1 hcap hb hi hst
  have HSt : Hid _ := hst
  have Hgb : Hid _ := hgb
  clear hn h1 hc hfz hst hgb
  go_enter Try.func195, Try.ntmps195
  have hl1 : (rowRC (cs.take i)).length = i * 9 := by rw [rowRC_length]; simp; have := HN.out; omega
  have hcells : ∀ j, j < n * 9 → w.cell? ⟨g, j, none⟩ = (rowRC cs)[j]? := fun j hj => H1.out.row.cellAt j (by have := HN.out; omega)
  have hnews1 : ∀ j u, (rowRC (cs.take i))[j]? = some u → w.cell? ((⟨g, 0, none⟩ : Addr).add j) = some u := fun j u hu => by
    have hj : j < i * 9 := by rw [← hl1]; exact (List.getElem?_eq_some_iff.1 hu).1
    have e : ((⟨g, 0, none⟩ : Addr).add j) = ⟨g, j, none⟩ := by cases j <;> simp [Addr.add]
    have hsplit : rowRC cs = rowRC (cs.take i) ++ rowRC (cs.drop i) := by rw [← rowRC_append, List.take_append_drop]
    rw [e, hcells j (by omega), hsplit, List.getElem?_append_left (by omega)]
    exact hu
  have Hl1 : Hid _ := hl1
  have Hcells : Hid _ := hcells
  have Hnews1 : Hid _ := hnews1
  clear hl1 hcells hnews1
  have hNews2 : ∀ (q : Ext w) j u, (rowRC (cs.drop (i + 1)))[j]? = some u → q.w.cell? ((⟨g, (i + 1) * 9, none⟩ : Addr).add j) = some u := fun q j u hu => by
    have hlt : j < (n - (i + 1)) * 9 := by
      have := (List.getElem?_eq_some_iff.1 hu).1
      rw [rowRC_length] at this
      simp at this
      have := HN.out
      omega
    have e : ((⟨g, (i + 1) * 9, none⟩ : Addr).add j) = ⟨g, (i + 1) * 9 + j, none⟩ := by cases j <;> simp [Addr.add]
    have hsplit : rowRC cs = rowRC (cs.take (i + 1)) ++ rowRC (cs.drop (i + 1)) := by rw [← rowRC_append, List.take_append_drop]
    have hl : (rowRC (cs.take (i + 1))).length = (i + 1) * 9 := by rw [rowRC_length]; simp; have := HN.out; omega
    rw [e, World.cell?_of_block (w := w) (a := ⟨g, (i + 1) * 9 + j, none⟩) (q.same _ (lt_of_blk Hgb.out) id), Hcells.out _ (by omega), hsplit, List.getElem?_append_right (by omega), hl]
    rw [Nat.add_sub_cancel_left]
    exact hu
  have HNews2 : Hid _ := hNews2
  have hlen2 : (rowRC (cs.drop (i + 1))).length = (n - (i + 1)) * 9 := by rw [rowRC_length]; simp; have := HN.out; omega
  have Hlen2 : Hid _ := hlen2
  clear hNews2 hlen2
  by_cases hce : i + 1 = cap
  · go_wp2_with (first
      | (at_builtin; refine wpList_append_own_at _ rfl _ _ 47 rfl 0 46 i0 z0 9 88 Try.underlying47 hi0 hz0 hz1 hz2 hz3 (by decide) (.slice none 0 0) 0 [] rfl (World.ownsRow_nil w 0 46 9) ⟨g, 0, none⟩ i cap (rowRC (cs.take i)) rfl Hl1.out Hnews1.out (oneCell_row _) (by unfold maxLen; omega) (by omega) (Nat.zero_le _) ?_; intro v1 w1 hown1 hgrow1 hnil1 hloc1; obtain ⟨q, hq⟩ : ∃ q : Ext w, w1 = q.w := ⟨(Ch.refl NoS w).grown hgrow1 (fun b _ e => by cases e), rfl⟩; subst hq; have s2 := cell_at 1 (q.blkE HSt.out); have f2 := frozen_at 1 (q.blkE HSt.out); have hown1' : q.w.ownsRow 0 46 9 v1 i (rowRC (cs.take i)) := (by simpa using hown1); have Hown1 : Hid _ := hown1'; have Hloc1 : Hid (∀ b, v1.ownBlock = some b → w.heap.size ≤ b) := (fun b hb => by rcases hloc1 with h | h; rw [h] at hb; cases hb; rw [h] at hb; cases hb; exact Nat.le_refl _); clear hown1 hown1' hnil1 hloc1 hgrow1)
      | (at_builtin; go_must (refine wpList_append_own_at _ rfl _ _ 47 rfl 0 46 i0 z0 9 88 Try.underlying47 hi0 hz0 hz1 hz2 hz3 (by decide) v1 i (rowRC (cs.take i)) rfl Hown1.out ⟨g, 0, none⟩ 0 0 ([]) rfl rfl (by simp) (by simp) (by unfold maxLen; omega) (by omega) (Nat.zero_le _) ?_); intro v2 w2 hown2 hgrow2 hnil2 hloc2; obtain ⟨fa2, cap2, hv2, -, -⟩ := row_form hown2; subst hv2; obtain ⟨q2, hq2⟩ : ∃ q2 : Ext w, w2 = q2.w := ⟨q.grown hgrow2 (fun b hb e => absurd (Hloc1.out b e) (by omega)), rfl⟩; have Hl2 : Hid (∀ b, (Value.slice fa2 (i + 0) cap2).ownBlock = some b → w.heap.size ≤ b) := (fun b hb => by rcases hloc2 with h | h; exact Hloc1.out b (by rw [← h]; exact hb); rw [h] at hb; cases hb; exact q.size); subst hq2; have s3 := cell_at 1 (q2.blkE HSt.out); have f3 := frozen_at 1 (q2.blkE HSt.out); have Hown2 : Hid _ := hown2; clear hown2 hnil2 hloc2 hgrow2 s2 f2))
    go_end0
    have hrow := Hown2.out
    have hlen : (cs.eraseIdx i).length = n - 1 := by rw [List.length_eraseIdx]; have := HN.out; split <;> omega
    have hers : cs.eraseIdx i = cs.take i ++ cs.drop (i + 1) := List.eraseIdx_eq_take_drop_succ ..
    refine ⟨rfl, (q2.up G).set r 1 (Value.slice fa2 (i + 0) cap2) (fun _ => h3), rfl, ⟨⟨Value.slice fa2 (i + 0) cap2, ⟨?_, ?_⟩, fun b hb => hG b (Hl2.out b hb)⟩, h3⟩⟩
    · have := heap_set_same (q2.blkE HSt.out) 1 (Value.slice fa2 (i + 0) cap2)
      simpa using this
    · rw [hlen, hers, rowRC_append]
      have hd : cs.drop (i + 1) = [] := List.drop_eq_nil_of_le (by have := HN.out; omega)
      rw [hd, show n - 1 = i from by omega]
      have hrow : q2.w.ownsRow 0 46 9 (Value.slice fa2 (i + 0) cap2) i (rowRC (cs.take i) ++ rowRC []) := by
        have h := hrow
        rw [List.append_nil] at h
        rw [show rowRC ([] : List RC) = [] from rfl, List.append_nil]
        exact h
      refine rowKeep hrow (fun b hb => ?_)
      show (World.setCell q2.w _ _).heap[b]? = _
      rw [heap_set_other]
      have := Hl2.out b hb
      have := lt_of_blk HSt.out
      omega
  · go_wp2_with (first
      | (at_builtin; refine wpList_append_own_at _ rfl _ _ 47 rfl 0 46 i0 z0 9 88 Try.underlying47 hi0 hz0 hz1 hz2 hz3 (by decide) (.slice none 0 0) 0 [] rfl (World.ownsRow_nil w 0 46 9) ⟨g, 0, none⟩ i cap (rowRC (cs.take i)) rfl Hl1.out Hnews1.out (oneCell_row _) (by unfold maxLen; omega) (by omega) (Nat.zero_le _) ?_; intro v1 w1 hown1 hgrow1 hnil1 hloc1; obtain ⟨q, hq⟩ : ∃ q : Ext w, w1 = q.w := ⟨(Ch.refl NoS w).grown hgrow1 (fun b _ e => by cases e), rfl⟩; subst hq; have s2 := cell_at 1 (q.blkE HSt.out); have f2 := frozen_at 1 (q.blkE HSt.out); have hown1' : q.w.ownsRow 0 46 9 v1 i (rowRC (cs.take i)) := (by simpa using hown1); have Hown1 : Hid _ := hown1'; have Hloc1 : Hid (∀ b, v1.ownBlock = some b → w.heap.size ≤ b) := (fun b hb => by rcases hloc1 with h | h; rw [h] at hb; cases hb; rw [h] at hb; cases hb; exact Nat.le_refl _); clear hown1 hown1' hnil1 hloc1 hgrow1)
      | (at_builtin; go_must (refine wpList_append_own_at _ rfl _ _ 47 rfl 0 46 i0 z0 9 88 Try.underlying47 hi0 hz0 hz1 hz2 hz3 (by decide) v1 i (rowRC (cs.take i)) rfl Hown1.out ⟨g, (i + 1) * 9, none⟩ (n - (i + 1)) (cap - (i + 1)) (rowRC (cs.drop (i + 1))) rfl Hlen2.out (HNews2.out q) (oneCell_row _) (by unfold maxLen; omega) (by omega) (Nat.zero_le _) ?_); intro v2 w2 hown2 hgrow2 hnil2 hloc2; obtain ⟨fa2, cap2, hv2, -, -⟩ := row_form hown2; subst hv2; obtain ⟨q2, hq2⟩ : ∃ q2 : Ext w, w2 = q2.w := ⟨q.grown hgrow2 (fun b hb e => absurd (Hloc1.out b e) (by omega)), rfl⟩; have Hl2 : Hid (∀ b, (Value.slice fa2 (i + (n - (i + 1))) cap2).ownBlock = some b → w.heap.size ≤ b) := (fun b hb => by rcases hloc2 with h | h; exact Hloc1.out b (by rw [← h]; exact hb); rw [h] at hb; cases hb; exact q.size); subst hq2; have s3 := cell_at 1 (q2.blkE HSt.out); have f3 := frozen_at 1 (q2.blkE HSt.out); have Hown2 : Hid _ := hown2; clear hown2 hnil2 hloc2 hgrow2 s2 f2))
    go_end0
    have hrow := Hown2.out
    have hlen : (cs.eraseIdx i).length = n - 1 := by rw [List.length_eraseIdx]; have := HN.out; split <;> omega
    have hers : cs.eraseIdx i = cs.take i ++ cs.drop (i + 1) := List.eraseIdx_eq_take_drop_succ ..
    refine ⟨rfl, (q2.up G).set r 1 (Value.slice fa2 (i + (n - (i + 1))) cap2) (fun _ => h3), rfl, ⟨⟨Value.slice fa2 (i + (n - (i + 1))) cap2, ⟨?_, ?_⟩, fun b hb => hG b (Hl2.out b hb)⟩, h3⟩⟩
    · have := heap_set_same (q2.blkE HSt.out) 1 (Value.slice fa2 (i + (n - (i + 1))) cap2)
      simpa using this
    · rw [hlen, hers, rowRC_append]
      rw [show n - 1 = i + (n - (i + 1)) from by omega]
      refine rowKeep hrow (fun b hb => ?_)
      show (World.setCell q2.w _ _).heap[b]? = _
      rw [heap_set_other]
      have := Hl2.out b hb
      have := lt_of_blk HSt.out
      omega
end Go.Proofs.Cob

namespace Go.Proofs.Cob
open Go Go.RowKit Go.Cob
set_option linter.unusedSimpArgs false
set_option linter.unusedVariables false

def refFree (cs : List RC) (k : Key) : Int × List RC :=
  match getR cs k with
  | none => (0, cs)
  | some (i, c) => if c.has || c.locked then (0, cs) else (1, cs.eraseIdx i)

set_option maxRecDepth 4000 in
set_option maxHeartbeats 3200000 in
theorem refFree_any (r : Nat) (room : Int) (cs : List RC) (G : Nat → Prop) (k : Key) (w : World) (h : RefM w r room cs G) (hG : ∀ b, w.heap.size ≤ b → G b) (hb : cs.length < 1000000000000) :
    Calls Try.prog 128 #[.pointer (some ⟨r, 0, none⟩), keyV k] w fun e w' => e = .returned (.int .i64 (refFree cs k).1) ∧ ∃ p : Ch G w, w' = p.w ∧ RefM p.w r room (refFree cs k).2 G := by
  obtain ⟨kd, ka, kb, ks'⟩ := k
  obtain ⟨⟨v, h1, h2⟩, h3⟩ := h
  have hR' : RefAt (w.alloc (.cells (keyCells kd ka kb ks') 23)) r v room cs := h1.ext ((Ch.refl NoS w).alloc _)
  have fin : ∀ p : Ch G (w.alloc (.cells (keyCells kd ka kb ks') 23)), ∃ q : Ch G w, p.w = q.w := fun p => ⟨((Ch.refl _ w).alloc _).then p (fun b hb h => h), rfl⟩
  have hG1 : ∀ b, (w.alloc (.cells (keyCells kd ka kb ks') 23)).heap.size ≤ b → G b := fun b hb => hG b (by simp at hb; omega)
  cases hg : getR cs ⟨kd, ka, kb, ks'⟩ with
  | none =>
    have hix := getR_none hg
    have e : refFree cs ⟨kd, ka, kb, ks'⟩ = (0, cs) := by unfold refFree; rw [hg]
    rw [e]
    clear e hg h1
    go_enter Try.func128, Try.ntmps128
    go_wp2_with (go_at_call 98; go_must (have hcc := find_any r v room cs ⟨kd, ka, kb, ks'⟩ _ hR' (by omega); rw [hix] at hcc; refine hcc.mono ?_); clear hcc; rintro e w' ⟨rfl, p, rfl⟩)
    go_ret
    obtain ⟨s, hs⟩ := fin (p.up G)
    exact ⟨rfl, s, hs, by rw [← show p.w = s.w from hs]; exact ⟨⟨v, hR'.ext p, h2⟩, h3⟩⟩
  | some ic =>
    obtain ⟨i, c⟩ := ic
    obtain ⟨hix, hx, hck⟩ := getR_some hg
    have e : refFree cs ⟨kd, ka, kb, ks'⟩ = if c.has || c.locked then (0, cs) else (1, cs.eraseIdx i) := by unfold refFree; rw [hg]
    rw [e]
    have hi : i < cs.length := (List.getElem?_eq_some_iff.1 hx).1
    obtain ⟨⟨xd, xa, xb, xs⟩, xw, xh, xt, xl, xo⟩ := c
    have Hx : Hid _ := hx
    clear e hg hck hx h1
    cases xh <;> cases xl
    case some.false.false =>
      simp only [Bool.or_self, Bool.false_eq_true, if_false]
      go_enter Try.func128, Try.ntmps128
      go_wp2_with fail
      go_at_call 98
      have hcc := find_any r v room cs ⟨kd, ka, kb, ks'⟩ _ hR' (by omega)
      rw [hix] at hcc
      refine hcc.mono ?_
      clear hcc
      rintro e w' ⟨rfl, p, rfl⟩
      have hR2 := hR'.ext p
      have fin2 : ∀ s : Ch G p.w, ∃ s' : Ch G w, s.w = s'.w := fun s => fin ((p.up G).then s (fun _ _ h => h))
      have hG2 : ∀ b, p.w.heap.size ≤ b → G b := fun b hb => hG1 b (by have := p.size; omega)
      clear hR' fin hG1
      generalize p.w = W2 at *
      clear p
      obtain ⟨g, cap, hv, hc, hfz⟩ := hR2.get Hx.out
      have HM : Hid (RefM W2 r room cs G) := ⟨⟨v, hR2, h2⟩, h3⟩
      rw [hv] at hR2
      have s1 := cell_at 1 hR2.st
      have x5 := hc.c5
      have x7 := hc.c7
      clear hR2 hc hv
      go_wp2_with (go_at_call 195; go_must (refine (refDrop_any r room cs G i _ HM.out hG2 hb hi).mono ?_); rintro e w' ⟨rfl, q, rfl, hM⟩; have HM2 : Hid _ := hM; clear hM)
      go_ret
      obtain ⟨s, hs⟩ := fin2 q
      exact ⟨rfl, s, hs, hs ▸ HM2.out⟩
    all_goals
      simp only [Bool.or_self, Bool.or_true, Bool.true_or, Bool.or_false, if_true]
      go_enter Try.func128, Try.ntmps128
      go_wp2_with fail
      go_at_call 98
      have hcc := find_any r v room cs ⟨kd, ka, kb, ks'⟩ _ hR' (by omega)
      rw [hix] at hcc
      refine hcc.mono ?_
      clear hcc
      rintro e w' ⟨rfl, p, rfl⟩
      have hR2 := hR'.ext p
      have fin2 : ∀ s : Ch G p.w, ∃ s' : Ch G w, s.w = s'.w := fun s => fin ((p.up G).then s (fun _ _ h => h))
      clear hR' fin hG1
      generalize p.w = W2 at *
      clear p
      obtain ⟨g, cap, hv, hc, hfz⟩ := hR2.get Hx.out
      have HM : Hid (RefM W2 r room cs G) := ⟨⟨v, hR2, h2⟩, h3⟩
      rw [hv] at hR2
      have s1 := cell_at 1 hR2.st
      have x5 := hc.c5
      have x7 := hc.c7
      clear hR2 hc hv
      go_wp2_with fail
      go_ret
      obtain ⟨s, hs⟩ := fin2 (Ch.refl G W2)
      exact ⟨rfl, s, hs, hs ▸ HM.out⟩
end Go.Proofs.Cob
