/-
  The program's plain store and the reference's: alike. The arena's own count, kept; Lock, alike. A scene beside a store whose free slots are counted: calls on it, boxes that come and turn. The program's store and the reference's, side by side in one memory. Arguments opened: keys, slices of keys, acts. An act's smallness. One act on both stores: they answer alike.
-/
import Derived.Test.YtjhpdmiafecdnaaJb
import Derived.Test.YtjhpdmiafecdnaaJd
import Derived.Test.YtjhpdmiafecdnaaJc
import Derived.ProofKit
import Derived.Deep.Slices
import Derived.Lib.SmallJoins
import Derived.WalkKit
namespace Go.Proofs.Cob
open Go Go.RowKit Go.Cob
set_option linter.unusedSimpArgs false
set_option linter.unusedVariables false

def conv (p : Key × Cl) : RC := ⟨p.1, stampZ p.2.wd, !goneB p.2.wd, p.2.text, !freeB p.2.wd, p.2.who⟩

theorem getR_cons (c : RC) (cs : List RC) (k : Key) : getR (c :: cs) k = if c.k = k then some (0, c) else (getR cs k).map fun ic => (ic.1 + 1, ic.2) := by
  unfold getR findR
  rw [List.findIdx?_cons]
  by_cases h : c.k = k
  · simp [h]
  · simp only [h, decide_false, Bool.false_eq_true, if_false]
    cases hf : List.findIdx? (fun c => decide (c.k = k)) cs with
    | none => simp
    | some i =>
      simp only [Option.map_some, Option.bind_some, List.getElem?_cons_succ]
      cases cs[i]? <;> rfl

theorem getR_conv_none {L : List (Key × Cl)} {k : Key} (h : aget L k = none) : getR (L.map conv) k = none := by
  induction L with
  | nil => rfl
  | cons p l ih =>
    rw [aget_cons] at h
    by_cases hp : p.1 = k
    · rw [if_pos hp] at h; cases h
    · rw [if_neg hp] at h
      rw [List.map_cons, getR_cons, if_neg (by exact hp), ih h]
      rfl
theorem getR_conv_some {L : List (Key × Cl)} {k : Key} {z : Cl} (h : aget L k = some z) :
    ∃ i, getR (L.map conv) k = some (i, conv (k, z)) ∧ (∀ z', (aput L k z').map conv = (L.map conv).set i (conv (k, z'))) ∧ (adel L k).map conv = (L.map conv).eraseIdx i := by
  induction L with
  | nil => cases h
  | cons p l ih =>
    rw [aget_cons] at h
    by_cases hp : p.1 = k
    · rw [if_pos hp] at h
      obtain ⟨pk, pz⟩ := p
      simp only at hp
      subst hp
      have hz : pz = z := by simpa using h
      subst hz
      refine ⟨0, ?_, fun z' => ?_, ?_⟩
      · rw [List.map_cons, getR_cons, if_pos (show (conv (pk, pz)).k = pk from rfl)]
      · simp [aput]
      · simp [adel]
    · rw [if_neg hp] at h
      obtain ⟨i, h1, h2, h3⟩ := ih h
      refine ⟨i + 1, ?_, fun z' => ?_, ?_⟩
      · rw [List.map_cons, getR_cons, if_neg (by exact hp), h1]; rfl
      · simp only [aput, if_neg hp, List.map_cons, h2 z', List.set_cons_succ]
      · simp only [adel, if_neg hp, List.map_cons, h3, List.eraseIdx_cons_succ]

theorem read_conv (L : List (Key × Cl)) (k : Key) : refRead (L.map conv) k = readM L k := by
  unfold refRead readM
  cases hg : aget L k with
  | none => rw [getR_conv_none hg]
  | some z =>
    obtain ⟨i, h1, -, -⟩ := getR_conv_some hg
    rw [h1]
    simp only [conv]
    by_cases hf : freeB z.wd = true
    · simp [hf]
    · simp [hf]
theorem holds_conv (L : List (Key × Cl)) (k : Key) (who : Int) : refHolds (L.map conv) k who = holdsM L k who := by
  unfold refHolds holdsM
  cases hg : aget L k with
  | none => rw [getR_conv_none hg]
  | some z =>
    obtain ⟨i, h1, -, -⟩ := getR_conv_some hg
    rw [h1]
    rfl
theorem still_conv (L : List (Key × Cl)) (k : Key) (who vw : Int) (has : Bool) : refStill (L.map conv) k who vw has = stillM L k who vw has := by
  unfold refStill stillM
  cases hg : aget L k with
  | none => rw [getR_conv_none hg]
  | some z =>
    obtain ⟨i, h1, -, -⟩ := getR_conv_some hg
    rw [h1]
    simp only [conv]
    by_cases hf : freeB z.wd = true <;> by_cases hgo : goneB z.wd = true <;> by_cases hw : (z.who != who) = true <;> cases has <;> simp [hf, hgo, hw]

/-- The words of a store are words. -/
def WordsOk (L : List (Key × Cl)) : Prop := ∀ p ∈ L, ∃ s g l, s < 4611686018427387904 ∧ p.2.wd = mkW s g l
theorem WordsOk.get {L : List (Key × Cl)} (h : WordsOk L) {k : Key} {z : Cl} (hg : aget L k = some z) : ∃ s g l, s < 4611686018427387904 ∧ z.wd = mkW s g l := h _ (aget_mem hg)
theorem WordsOk.put {L : List (Key × Cl)} (h : WordsOk L) {k : Key} {z : Cl} (hz : ∃ s g l, s < 4611686018427387904 ∧ z.wd = mkW s g l) : WordsOk (aput L k z) := fun p hp => by
  rcases mem_aput hp with hp | rfl
  · exact h p hp
  · exact hz
theorem WordsOk.del {L : List (Key × Cl)} (h : WordsOk L) {k : Key} : WordsOk (adel L k) := fun p hp => h p (adel_sub.subset hp)

theorem install_conv (L : List (Key × Cl)) (k : Key) (who stamp : Int) (vs : ByteArray) (has : Bool) (hW : WordsOk L) (h0 : 0 ≤ stamp) (h1 : stamp < 18446744073709551616) :
    (refInstall (L.map conv) k who stamp vs has).1 = (installM L k who stamp vs has).1 ∧ (refInstall (L.map conv) k who stamp vs has).2 = (installM L k who stamp vs has).2.map conv ∧ WordsOk (installM L k who stamp vs has).2 := by
  unfold refInstall installM
  rw [holds_conv]
  cases holdsM L k who
  · exact ⟨rfl, rfl, hW⟩
  · simp only [if_true]
    cases hg : aget L k with
    | none => rw [getR_conv_none hg]; exact ⟨rfl, rfl, hW⟩
    | some z =>
      obtain ⟨i, e1, e2, -⟩ := getR_conv_some hg
      rw [e1]
      simp only
      have hb : badM stamp z.wd vs has = (decide (4611686018427387904 ≤ stamp) || decide (stamp ≤ (conv (k, z)).wd) || (!vs.toList.isEmpty && !has)) := by
        unfold badM; rw [stamp_bad stamp h0 h1]; rfl
      rw [← hb]
      cases hbb : badM stamp z.wd vs has
      · simp only [Bool.false_eq_true, if_false]
        have hlt : stamp < 4611686018427387904 := by
          rw [hb] at hbb
          simp only [Bool.or_eq_false_iff, decide_eq_false_iff_not] at hbb
          omega
        obtain ⟨s, rfl⟩ := Int.eq_ofNat_of_zero_le h0
        have hs : s < 4611686018427387904 := by omega
        refine ⟨by first | rfl | trivial, ?_, hW.put ⟨s, !has, false, hs, absent_mk hs _⟩⟩
        rw [e2]
        have : conv (k, { z with wd := absentZ (s : Int) (!has), text := vs }) = { conv (k, z) with wd := (s : Int), has := has, text := vs, locked := false } := by
          simp only [conv, absent_mk hs, stamp_mk hs, gone_mk hs, free_mk hs, Bool.not_not, Bool.not_false, Bool.not_true]
        rw [this]
        try rfl
      · simp only [if_true]
        exact ⟨by first | trivial | rfl, by first | trivial | rfl, hW⟩
end Go.Proofs.Cob

namespace Go.Proofs.Cob
open Go Go.RowKit Go.Cob
set_option linter.unusedSimpArgs false
set_option linter.unusedVariables false

/-- What holds of an arena and the cells that hold its slots. -/
structure InvA (A : ArenaSt) (L : List (Key × Cl)) : Prop where
  len : L.length = A.taken.length
  sum : ((A.free.length + A.taken.length : Nat) : Int) = A.fresh
  tk : ∀ p ∈ L, aget A.taken p.2.sl = some true ∧ genOf A p.2.sl = p.2.gen
  nd : (L.map (·.2.sl)).Nodup
  fnd : A.free.Nodup
  flt : ∀ s ∈ A.free, s < A.fresh ∧ aget A.taken s = none
  tlt : ∀ s b, aget A.taken s = some b → s < A.fresh
  tnd : (A.taken.map (·.1)).Nodup

theorem InvA.empty (room : Int) : InvA ⟨room, 0, [], [], []⟩ [] := ⟨rfl, by simp, by simp, by simp, by simp, by simp, by simp [aget], by simp⟩

section
variable {α β : Type} [DecidableEq α]
theorem aput_none_length {l : List (α × β)} {k : α} {v : β} (h : aget l k = none) : (aput l k v).length = l.length + 1 := by rw [aput_new h]; simp
theorem aput_some_length {l : List (α × β)} {k : α} {v v0 : β} (h : aget l k = some v0) : (aput l k v).length = l.length := by
  obtain ⟨l1, l2, e1, -, e2⟩ := aget_cases h
  rw [e2, e1]; simp
theorem aget_none_mem {l : List (α × β)} {k : α} (h : aget l k = none) : k ∉ l.map (·.1) := by
  induction l with
  | nil => simp
  | cons p l ih =>
    rw [aget_cons] at h
    by_cases hp : p.1 = k
    · rw [if_pos hp] at h; cases h
    · rw [if_neg hp] at h
      simp only [List.map_cons, List.mem_cons, not_or]
      exact ⟨fun e => hp e.symm, ih h⟩
theorem aget_none_of {l : List (α × β)} {k : α} (h : k ∉ l.map (·.1)) : aget l k = none := by
  cases hg : aget l k with
  | none => rfl
  | some v => exact absurd (List.mem_map_of_mem (f := (·.1)) (aget_mem hg)) h
theorem aput_keys {l : List (α × β)} {k : α} {v v0 : β} (h : aget l k = some v0) : (aput l k v).map (·.1) = l.map (·.1) := by
  obtain ⟨l1, l2, e1, -, e2⟩ := aget_cases h
  rw [e2, e1]; simp
theorem aget_adel_self {l : List (α × β)} {k : α} (h : (l.map (·.1)).Nodup) : aget (adel l k) k = none := by
  induction l with
  | nil => rfl
  | cons p l ih =>
    simp only [List.map_cons, List.nodup_cons] at h
    simp only [adel]
    split
    · rename_i hp
      rw [← hp]
      exact aget_none_of h.1
    · rename_i hp
      rw [aget_cons, if_neg hp, ih h.2]
end

theorem InvA.full {A : ArenaSt} {L : List (Key × Cl)} (h : InvA A L) (hi : A.fresh ≤ A.room) : takeA A = none ↔ A.room ≤ L.length := by
  have h1 := h.len
  have h2 := h.sum
  unfold takeA
  by_cases hf : A.free = []
  · rw [if_pos hf]
    have h3 : A.free.length = 0 := by rw [hf]; rfl
    by_cases hr : (A.fresh == A.room) = true
    · rw [if_pos hr]
      have : A.fresh = A.room := by simpa using hr
      simp; omega
    · rw [if_neg hr]
      have : A.fresh ≠ A.room := by simpa using hr
      simp; omega
  · rw [if_neg hf]
    have := List.length_pos_iff.2 hf
    simp; omega

/-- A cell turned, its slot the same. -/
theorem InvA.turn {A : ArenaSt} {L : List (Key × Cl)} (h : InvA A L) {k : Key} {z z' : Cl} (hg : aget L k = some z) (h1 : z'.sl = z.sl) (h2 : z'.gen = z.gen) : InvA A (aput L k z') := by
  obtain ⟨l1, l2, e1, -, e2⟩ := aget_cases hg
  have hz := h.tk _ (aget_mem hg)
  refine ⟨by rw [aput_some_length hg]; exact h.len, h.sum, fun p hp => ?_, ?_, h.fnd, h.flt, h.tlt, h.tnd⟩
  · rcases mem_aput hp with hp | rfl
    · exact h.tk p hp
    · simp only [h1, h2]; exact hz
  · have hn := h.nd
    rw [e2, e1] at *
    simpa [h1] using hn

/-- A slot taken for a new cell. -/
theorem InvA.take {A A' : ArenaSt} {L : List (Key × Cl)} (h : InvA A L) {k : Key} {s : Int} {z : Cl} (hg : aget L k = none) (ht : takeA A = some (s, A')) (h1 : z.sl = s) (h2 : z.gen = genOf A s) : InvA A' (aput L k z) := by
  have hs : aget A.taken s = none ∧ A'.taken = aput A.taken s true ∧ A'.gens = A.gens ∧ (((A'.free.length + A.taken.length + 1 : Nat) : Int) = A'.fresh) ∧ A'.free.Nodup ∧ (∀ x ∈ A'.free, x < A'.fresh ∧ x ≠ s ∧ aget A.taken x = none) ∧ s < A'.fresh ∧ A.fresh ≤ A'.fresh := by
    unfold takeA at ht
    have hsum := h.sum
    split at ht
    · rename_i hf
      split at ht
      · cases ht
      · simp only [Option.some.injEq, Prod.mk.injEq] at ht
        obtain ⟨rfl, rfl⟩ := ht
        have hn : aget A.taken A.fresh = none := by
          cases hx : aget A.taken A.fresh with
          | none => rfl
          | some b => have := h.tlt _ _ hx; omega
        rw [hf] at hsum
        refine ⟨hn, rfl, rfl, ?_, ?_, ?_, ?_, ?_⟩
        · simp only [hf]; simp at hsum ⊢; omega
        · simp [hf]
        · simp [hf]
        · simp only; omega
        · simp only; omega
    · rename_i hf
      simp only [Option.some.injEq, Prod.mk.injEq] at ht
      obtain ⟨rfl, rfl⟩ := ht
      have hlast : A.free = A.free.dropLast ++ [A.free.getLastD 0] := by
        rw [List.getLastD_eq_getLast?, List.getLast?_eq_some_getLast hf, Option.getD_some]
        exact (List.dropLast_concat_getLast hf).symm
      have hmem : A.free.getLastD 0 ∈ A.free := by
        have : A.free.getLastD 0 ∈ A.free.dropLast ++ [A.free.getLastD 0] := by simp
        rw [← hlast] at this
        exact this
      have hnd := h.fnd
      rw [hlast, List.nodup_append] at hnd
      have hpos := List.length_pos_iff.2 hf
      refine ⟨(h.flt _ hmem).2, rfl, rfl, ?_, hnd.1, fun x hx => ?_, (h.flt _ hmem).1, Int.le_refl _⟩
      · simp only [List.length_dropLast]; omega
      · have hx2 : x ∈ A.free := List.dropLast_subset _ hx
        exact ⟨(h.flt x hx2).1, fun e => hnd.2.2 x hx (A.free.getLastD 0) (List.mem_singleton.2 rfl) e, (h.flt x hx2).2⟩
  obtain ⟨e1, e2, e3, e4, e5, e6, e7, e8⟩ := hs
  have hgen : ∀ x, genOf A' x = genOf A x := fun x => by unfold genOf; rw [e3]
  refine ⟨?_, ?_, fun p hp => ?_, ?_, e5, fun x hx => ?_, fun x b hx => ?_, ?_⟩
  · rw [aput_none_length hg, e2, aput_none_length e1, h.len]
  · rw [e2, aput_none_length e1]; omega
  · rw [hgen, e2, aget_aput]
    rcases mem_aput hp with hp | rfl
    · have := h.tk p hp
      by_cases hx : s = p.2.sl
      · rw [← hx, e1] at this; cases this.1
      · rw [if_neg hx]; exact this
    · rw [if_pos h1.symm, h1]; exact ⟨rfl, h2.symm⟩
  · rw [aput_new hg, List.map_append, List.nodup_append]
    refine ⟨h.nd, by simp, fun x hx y hy => ?_⟩
    obtain ⟨p, hp, rfl⟩ := List.mem_map.1 hx
    have : y = s := by simpa [h1] using hy
    rw [this]
    intro e
    have := (h.tk p hp).1
    rw [e, e1] at this; cases this
  · obtain ⟨g1, g2, g3⟩ := e6 x hx
    rw [e2, aget_aput, if_neg (fun e => g2 e.symm)]
    exact ⟨g1, g3⟩
  · rw [e2, aget_aput] at hx
    by_cases hxs : s = x
    · rw [← hxs]; exact e7
    · rw [if_neg hxs] at hx
      have := h.tlt x b hx; omega
  · rw [e2, aput_new e1, List.map_append, List.nodup_append]
    refine ⟨h.tnd, by simp, fun x hx y hy => ?_⟩
    have : y = s := by simpa using hy
    rw [this]
    exact fun e => aget_none_mem e1 (e ▸ hx)

/-- A cell dropped. -/
theorem InvA.drop {A : ArenaSt} {L : List (Key × Cl)} (h : InvA A L) {k : Key} {z : Cl} (hg : aget L k = some z) : liveA A z.sl z.gen = true ∧ InvA (freedA A z.sl) (adel L k) := by
  obtain ⟨t1, t2⟩ := h.tk _ (aget_mem hg)
  simp only at t1 t2
  refine ⟨by simp [liveA, t1, t2], ?_⟩
  have hl1 := adel_length A.taken z.sl true t1
  have hl2 := adel_length L k z hg
  obtain ⟨l1, l2, e1, e2, -⟩ := aget_cases hg
  have hnd := h.nd
  have hne : ∀ p ∈ adel L k, p.2.sl ≠ z.sl := fun p hp => by
    rw [e2] at hp
    rw [e1] at hnd
    simp only [List.map_append, List.map_cons, List.nodup_append, List.nodup_cons] at hnd
    rcases List.mem_append.1 hp with hp | hp
    · exact hnd.2.2 _ (List.mem_map_of_mem (f := fun p : Key × Cl => p.2.sl) hp) _ (List.mem_cons_self ..)
    · exact fun e => hnd.2.1.1 (e ▸ List.mem_map_of_mem (f := fun p : Key × Cl => p.2.sl) hp)
  refine ⟨?_, ?_, fun p hp => ?_, ?_, ?_, fun x hx => ?_, fun x b hx => ?_, ?_⟩
  · have := h.len; simp only [freedA]; omega
  · have := h.sum; simp only [freedA, List.length_append, List.length_cons, List.length_nil]; omega
  · have hp' := adel_sub.subset hp
    have hn := hne p hp
    have := h.tk p hp'
    refine ⟨?_, ?_⟩
    · simp only [freedA]; rw [aget_adel_ne _ (fun e => hn e.symm)]; exact this.1
    · have hgen : genOf (freedA A z.sl) p.2.sl = genOf A p.2.sl := by
        unfold genOf freedA
        simp only
        rw [aget_aput, if_neg (fun e => hn e.symm)]
      rw [hgen]; exact this.2
  · exact hnd.sublist (adel_sub.map _)
  · simp only [freedA]
    rw [List.nodup_append]
    refine ⟨h.fnd, by simp, fun x hx y hy => ?_⟩
    have : y = z.sl := by simpa using hy
    rw [this]
    intro e
    have := (h.flt x hx).2
    rw [e, t1] at this; cases this
  · simp only [freedA] at hx ⊢
    rcases List.mem_append.1 hx with hx | hx
    · have := h.flt x hx
      have hxz : z.sl ≠ x := fun e => by rw [← e, t1] at this; cases this.2
      exact ⟨this.1, by rw [aget_adel_ne _ hxz]; exact this.2⟩
    · have : x = z.sl := by simpa using hx
      rw [this]
      exact ⟨h.tlt _ _ t1, aget_adel_self h.tnd⟩
  · simp only [freedA] at hx ⊢
    by_cases hxz : z.sl = x
    · rw [← hxz]; exact h.tlt _ _ t1
    · rw [aget_adel_ne _ hxz] at hx
      exact h.tlt x b hx
  · exact h.tnd.sublist (adel_sub.map _)

theorem lock_conv (A : ArenaSt) (L : List (Key × Cl)) (k : Key) (who : Int) (hW : WordsOk L) (hI : InvA A L) (hi : A.fresh ≤ A.room) :
    (refLock A.room (L.map conv) k who).1 = (lockM A L k who).1 ∧ (refLock A.room (L.map conv) k who).2 = (lockM A L k who).2.2.map conv ∧ WordsOk (lockM A L k who).2.2 ∧ InvA (lockM A L k who).2.1 (lockM A L k who).2.2 ∧
      (lockM A L k who).2.1.room = A.room := by
  unfold refLock lockM
  cases hg : aget L k with
  | some z =>
    obtain ⟨i, e1, e2, -⟩ := getR_conv_some hg
    obtain ⟨s, g, l, hs, hz⟩ := hW.get hg
    rw [e1]
    cases l
    · simp only [conv, hz, free_mk hs, stamp_mk hs, lock_mk hs, Bool.not_false, Bool.not_true, Bool.false_eq_true, if_false, if_true]
      refine ⟨trivial, ?_, hW.put ⟨s, g, true, hs, rfl⟩, hI.turn hg rfl rfl, trivial⟩
      rw [e2]
      simp only [conv, stamp_mk hs, gone_mk hs, free_mk hs, Bool.not_true, Bool.not_false]
    · simp only [conv, hz, free_mk hs, stamp_mk hs, Bool.not_true, Bool.not_false, Bool.false_eq_true, if_false, if_true]
      exact ⟨trivial, trivial, hW, hI, trivial⟩
  | none =>
    rw [getR_conv_none hg]
    simp only [List.length_map]
    have hf := hI.full hi
    have h0 : (0 : Nat) < 4611686018427387904 := by decide
    cases ht : takeA A with
    | none =>
      rw [if_pos (hf.1 ht)]
      exact ⟨rfl, rfl, hW, hI, rfl⟩
    | some sa =>
      obtain ⟨s, A'⟩ := sa
      have hn : ¬ A.room ≤ (L.length : Int) := fun h => by rw [hf.2 h] at ht; cases ht
      rw [if_neg hn]
      have hz : lockZ (absentZ 0 true) = mkW 0 true true := by
        have := absent_mk h0 true
        rw [show ((0 : Nat) : Int) = 0 from rfl] at this
        rw [this, lock_mk h0]
      have hroom : A'.room = A.room := by
        unfold takeA at ht
        split at ht
        · split at ht
          · cases ht
          · simp only [Option.some.injEq, Prod.mk.injEq] at ht; obtain ⟨-, rfl⟩ := ht; rfl
        · simp only [Option.some.injEq, Prod.mk.injEq] at ht; obtain ⟨-, rfl⟩ := ht; rfl
      simp only [hz]
      refine ⟨by rw [stamp_mk h0]; rfl, ?_, hW.put ⟨0, true, true, h0, rfl⟩, hI.take hg ht rfl rfl, hroom⟩
      rw [aput_new hg, List.map_append]
      simp only [List.map_cons, List.map_nil, conv, stamp_mk h0, gone_mk h0, free_mk h0, Bool.not_true, Bool.not_false]
      rfl
end Go.Proofs.Cob

namespace Go.Proofs.Cob
open Go Go.RowKit Go.Cob
set_option linter.unusedSimpArgs false
set_option linter.unusedVariables false

theorem StN.mono {w : World} {I : Ids} {A : ArenaSt} {L : List (Key × Cl)} {F F' : Nat → Prop} (h : StN w I A L F) (hF : ∀ b, b < w.heap.size → F b → F' b) : StN w I A L F' := ⟨h.st.mono hF, h.fl⟩
theorem StN.ch {w : World} {I : Ids} {A : ArenaSt} {L : List (Key × Cl)} {F T : Nat → Prop} (h : StN w I A L F) (p : Ch T w) (hT : ∀ b, T b → ¬ F b) : StN p.w I A L F := ⟨h.st.ch p hT, h.fl⟩
theorem lock_n (I : Ids) (A : ArenaSt) (L : List (Key × Cl)) (F : Nat → Prop) (k : Key) (who : Int) (w : World) (h : StN w I A L F) (hF : ∀ b, w.heap.size ≤ b → F b) :
    Calls Try.prog 25 #[.pointer (some ⟨I.s, 0, none⟩), keyV k, .int .i64 who] w fun e w' =>
      e = .returned (.tuple #[.int .u64 (lockM A L k who).1.1, .int .i64 (lockM A L k who).1.2]) ∧ ∃ p : Ch F w, w' = p.w ∧ StN p.w I (lockM A L k who).2.1 (lockM A L k who).2.2 F := by
  refine (lock_m I A L F k who w h.st hF).mono ?_
  rintro e w' ⟨rfl, p, rfl, hS'⟩
  refine ⟨rfl, p, rfl, hS', ?_⟩
  unfold lockM
  cases aget L k with
  | some z => simp only; split <;> exact h.fl
  | none =>
    simp only
    cases ht : takeA A with
    | none => exact h.fl
    | some sa => exact take_fl (s := sa.1) (A' := sa.2) ht h.fl
theorem install_n (I : Ids) (A : ArenaSt) (L : List (Key × Cl)) (F : Nat → Prop) (k : Key) (who stamp vw : Int) (vs : ByteArray) (has : Bool) (w : World) (h : StN w I A L F) :
    Calls Try.prog 26 #[.pointer (some ⟨I.s, 0, none⟩), keyV k, .int .i64 who, .int .u64 stamp, seenV vw vs has] w fun e w' =>
      e = .returned (.int .i64 (installM L k who stamp vs has).1) ∧ ∃ p : Ch F w, w' = p.w ∧ StN p.w I A (installM L k who stamp vs has).2 F := by
  refine (install_m I A L F k who stamp vw vs has w h.st).mono ?_
  rintro e w' ⟨rfl, p, rfl, hS'⟩
  exact ⟨rfl, p, rfl, hS', h.fl⟩
theorem cellNew_n (room : Int) (w : World) (h0 : 0 ≤ room) (h1 : room ≤ 1048576) :
    Calls Try.prog 24 #[.int .i64 room] w fun e w' => ∃ I : Ids, e = .returned (.tuple #[.pointer (some ⟨I.s, 0, none⟩), .int .i64 0]) ∧ ∃ p : Ext w, w' = p.w ∧
      StN p.w I ⟨room, 0, [], [], []⟩ [] (fun b => w.heap.size ≤ b) := by
  refine (cellNew_m room w h0 h1).mono ?_
  rintro e w' ⟨I, rfl, p, rfl, hS⟩
  exact ⟨I, rfl, p, rfl, hS, by simp⟩
theorem StN.box {w0 W : World} {bs : List Box} {I : Ids} {A : ArenaSt} {L : List (Key × Cl)} (h : StN W I A L (Wide w0 bs)) (c : Array Value) (t : TypeId) : StN (W.alloc (.cells c t)) I A L (Wide w0 ((W.heap.size, t, c) :: bs)) := ⟨h.st.box c t, h.fl⟩

theorem StN.drop {w0 W : World} {I : Ids} {A : ArenaSt} {L : List (Key × Cl)} {x : Box} {bs : List Box} (h : StN W I A L (Wide w0 (x :: bs))) : StN W I A L (Wide w0 bs) := StN.mono h (fun b _ hw => ⟨hw.1, fun y hy => hw.2 y (.tail _ hy)⟩)
theorem keysIn_box {W : World} {n : Nat} {k : Key} (h : W.heap[n]? = some (.cells (keyCells k.kind k.a k.b k.s) 23 (0, 0))) : KeysIn W (some ⟨n, 0, none⟩) [k] := by
  refine .inr ⟨n, 0, rfl, fun i k' hk => ?_⟩
  match i, hk with
  | 0, hk =>
    have : k = k' := by simpa using hk
    subst this
    exact ⟨cell_at 0 h, cell_at 1 h, cell_at 2 h, cell_at 3 h⟩
/-- A box turns. -/
theorem Scene.setB {w0 W : World} {n i : Nat} {t : TypeId} {c : Array Value} {v : Value} {bs : List Box} (h : Scene w0 W ((n, t, c) :: bs)) (ht : ∀ x ∈ bs, x.2.1 ≠ t) : Scene w0 (W.setCell ⟨n, i, none⟩ v) ((n, t, c.setIfInBounds i v) :: bs) := by
  have hb := h.cell (.head _)
  have hne : ∀ x ∈ bs, x.1 ≠ n := fun x hx => blkNe (h.bx x (List.mem_cons_of_mem _ hx)).1 hb (ht x hx)
  have hn := (h.bx _ (.head _)).2
  refine ⟨fun x hx => ?_, ?_⟩
  · rcases List.mem_cons.1 hx with rfl | hx
    · exact ⟨heap_set_same hb i v, hn⟩
    · exact ⟨by rw [heap_set_other (hne x hx)]; exact (h.bx x (List.mem_cons_of_mem _ hx)).1, (h.bx x (List.mem_cons_of_mem _ hx)).2⟩
  · obtain ⟨p, rfl⟩ := h.fin
    exact ⟨p.set n i v (fun hb => by have := hn; simp only at this; omega), rfl⟩
theorem StN.setB {w0 W : World} {n i : Nat} {t : TypeId} {c c' : Array Value} {v : Value} {bs : List Box} {I : Ids} {A : ArenaSt} {L : List (Key × Cl)} (h : StN W I A L (Wide w0 ((n, t, c) :: bs))) : StN (W.setCell ⟨n, i, none⟩ v) I A L (Wide w0 ((n, t, c') :: bs)) := by
  have := StN.ch h ((Ch.refl (fun b => b = n) W).set n i v (fun _ => rfl)) (fun b hb hw => hw.2 _ (.head _) hb)
  exact StN.mono this (fun b _ hw => ⟨hw.1, fun x hx => by
    rcases List.mem_cons.1 hx with rfl | hx
    · exact hw.2 (n, t, c) (.head _)
    · exact hw.2 x (List.mem_cons_of_mem _ hx)⟩)
theorem Scene.add {w0 W : World} {bs : List Box} (h : Scene w0 W bs) {g : Nat} {t : TypeId} {c : Array Value} (hb : W.heap[g]? = some (.cells c t (0, 0))) (hw : w0.heap.size ≤ g) : Scene w0 W ((g, t, c) :: bs) :=
  ⟨fun x hx => by
    rcases List.mem_cons.1 hx with rfl | hx
    · exact ⟨hb, hw⟩
    · exact h.bx x hx, h.fin⟩
theorem StN.beyond {w0 W : World} {bs : List Box} {I : Ids} {A : ArenaSt} {L : List (Key × Cl)} (h : StN W I A L (Wide w0 bs)) {g : Nat} {t : TypeId} {c : Array Value} (hg : W.heap.size ≤ g) : StN W I A L (Wide w0 ((g, t, c) :: bs)) :=
  StN.mono h (fun b hb hw => ⟨hw.1, fun x hx => by
    rcases List.mem_cons.1 hx with rfl | hx
    · show b ≠ g
      omega
    · exact hw.2 x hx⟩)
end Go.Proofs.Cob

namespace Go.Proofs.Cob
open Go Go.RowKit Go.Cob
set_option linter.unusedSimpArgs false
set_option linter.unusedVariables false

/-- Both stores, apart, in blocks that B allows. -/
def Duo (w : World) (I : Ids) (r : Nat) (A : ArenaSt) (L : List (Key × Cl)) (room : Int) (cs : List RC) (B : Nat → Prop) : Prop :=
  ∃ F G : Nat → Prop, StN w I A L F ∧ RefM w r room cs G ∧ (∀ b, F b → B b ∧ b < w.heap.size) ∧ (∀ b, G b → B b ∧ b < w.heap.size) ∧ ∀ b, F b → ¬ G b

theorem RefM.mono {w : World} {r : Nat} {room : Int} {cs : List RC} {G G' : Nat → Prop} (h : RefM w r room cs G) (hG : ∀ b, b < w.heap.size → G b → G' b) : RefM w r room cs G' := by
  obtain ⟨⟨v, h1, h2⟩, h3⟩ := h
  exact ⟨⟨v, h1, fun b hb => hG b (by obtain ⟨cur, hc⟩ := rowBlk h1.row hb; exact lt_of_blk hc) (h2 b hb)⟩, hG r (lt_of_blk h1.st) h3⟩

theorem Duo.ext {w : World} {I : Ids} {r : Nat} {A : ArenaSt} {L : List (Key × Cl)} {room : Int} {cs : List RC} {B : Nat → Prop} (h : Duo w I r A L room cs B) (p : Ext w) : Duo p.w I r A L room cs B := by
  obtain ⟨F, G, h1, h2, h3, h4, h5⟩ := h
  exact ⟨F, G, h1.ext p, h2.ext p, fun b hb => ⟨(h3 b hb).1, Nat.lt_of_lt_of_le (h3 b hb).2 p.size⟩, fun b hb => ⟨(h4 b hb).1, Nat.lt_of_lt_of_le (h4 b hb).2 p.size⟩, h5⟩
/-- Other blocks turned. -/
theorem Duo.ch {w : World} {I : Ids} {r : Nat} {A : ArenaSt} {L : List (Key × Cl)} {room : Int} {cs : List RC} {B T : Nat → Prop} (h : Duo w I r A L room cs B) (p : Ch T w) (hT : ∀ b, T b → ¬ B b) : Duo p.w I r A L room cs B := by
  obtain ⟨F, G, h1, h2, h3, h4, h5⟩ := h
  exact ⟨F, G, h1.ch p (fun b ht hf => hT b ht (h3 b hf).1), h2.ch p (fun b ht hf => hT b ht (h4 b hf).1), fun b hb => ⟨(h3 b hb).1, Nat.lt_of_lt_of_le (h3 b hb).2 p.size⟩, fun b hb => ⟨(h4 b hb).1, Nat.lt_of_lt_of_le (h4 b hb).2 p.size⟩, h5⟩

/-- A call on the program's store. -/
theorem Duo.prog {w : World} {I : Ids} {r : Nat} {A : ArenaSt} {L : List (Key × Cl)} {room : Int} {cs : List RC} {B : Nat → Prop} (h : Duo w I r A L room cs B) (hB : ∀ b, w.heap.size ≤ b → B b) {f : FuncId} {args : Array Value} {v : Value} {A' : ArenaSt} {L' : List (Key × Cl)}
    (hc : ∀ F : Nat → Prop, StN w I A L F → (∀ b, w.heap.size ≤ b → F b) → Calls Try.prog f args w fun e w' => e = .returned v ∧ ∃ p : Ch F w, w' = p.w ∧ StN p.w I A' L' F) :
    Calls Try.prog f args w fun e w' => e = .returned v ∧ ∃ p : Ch B w, w' = p.w ∧ Duo p.w I r A' L' room cs B := by
  obtain ⟨F, G, h1, h2, h3, h4, h5⟩ := h
  refine (hc (fun b => F b ∨ w.heap.size ≤ b) (h1.mono fun b _ h => .inl h) (fun b hb => .inr hb)).mono ?_
  rintro e w' ⟨rfl, p, rfl, hS⟩
  have hsz := p.size
  refine ⟨rfl, p.mono (fun b hb h => by rcases h with h | h; exact (h3 b h).1; exact hB b h), rfl, fun b => (F b ∨ w.heap.size ≤ b) ∧ b < p.w.heap.size, G, hS.mono (fun b hb h => ⟨h, hb⟩), h2.ch p ?_, ?_, ?_, ?_⟩
  · intro b hb hg
    rcases hb with hb | hb
    · exact h5 b hb hg
    · have := (h4 b hg).2; omega
  · rintro b ⟨h, hlt⟩
    refine ⟨?_, hlt⟩
    rcases h with h | h
    · exact (h3 b h).1
    · exact hB b h
  · intro b hb
    exact ⟨(h4 b hb).1, Nat.lt_of_lt_of_le (h4 b hb).2 hsz⟩
  · rintro b ⟨h, _⟩ hg
    rcases h with h | h
    · exact h5 b h hg
    · have := (h4 b hg).2; omega
/-- A call on the reference. -/
theorem Duo.ref {w : World} {I : Ids} {r : Nat} {A : ArenaSt} {L : List (Key × Cl)} {room : Int} {cs : List RC} {B : Nat → Prop} (h : Duo w I r A L room cs B) (hB : ∀ b, w.heap.size ≤ b → B b) {f : FuncId} {args : Array Value} {v : Value} {cs' : List RC}
    (hc : ∀ G : Nat → Prop, RefM w r room cs G → (∀ b, w.heap.size ≤ b → G b) → Calls Try.prog f args w fun e w' => e = .returned v ∧ ∃ p : Ch G w, w' = p.w ∧ RefM p.w r room cs' G) :
    Calls Try.prog f args w fun e w' => e = .returned v ∧ ∃ p : Ch B w, w' = p.w ∧ Duo p.w I r A L room cs' B := by
  obtain ⟨F, G, h1, h2, h3, h4, h5⟩ := h
  refine (hc (fun b => G b ∨ w.heap.size ≤ b) (h2.mono fun b _ h => .inl h) (fun b hb => .inr hb)).mono ?_
  rintro e w' ⟨rfl, p, rfl, hS⟩
  have hsz := p.size
  refine ⟨rfl, p.mono (fun b hb h => by rcases h with h | h; exact (h4 b h).1; exact hB b h), rfl, F, fun b => (G b ∨ w.heap.size ≤ b) ∧ b < p.w.heap.size, h1.ch p ?_, hS.mono (fun b hb h => ⟨h, hb⟩), ?_, ?_, ?_⟩
  · intro b hb hf
    rcases hb with hb | hb
    · exact h5 b hf hb
    · have := (h3 b hf).2; omega
  · intro b hb
    exact ⟨(h3 b hb).1, Nat.lt_of_lt_of_le (h3 b hb).2 hsz⟩
  · rintro b ⟨h, hlt⟩
    refine ⟨?_, hlt⟩
    rcases h with h | h
    · exact (h4 b h).1
    · exact hB b h
  · rintro b hf ⟨h, _⟩
    rcases h with h | h
    · exact h5 b hf h
    · have := (h3 b hf).2; omega
end Go.Proofs.Cob

namespace Go.Proofs.Cob
open Go Go.RowKit Go.Cob Go.ChangeShapes Go.WideShapes Go.Deep
set_option linter.unusedSimpArgs false
set_option linter.unusedVariables false

section
variable {H : Type} {enc : TypeId × Value → H} {P : Program} {w : World} {base : Nat} {spare : Nat → Bool} {held : Bool}
theorem take_get {cs l : List Value} {o m : Nat} (h : (cs.drop o).take m = l) {j : Nat} {v : Value} (hv : l[j]? = some v) : cs[o + j]? = some v := by
  rw [← h, List.getElem?_take] at hv
  split at hv
  · rw [List.getElem?_drop] at hv; exact hv
  · cases hv
theorem trod_field {t : TypeId} {fs : Array Field} {fuel : Nat} {cs : List Value} {x : DataW H × List MemPlace} (ht : P.underlying t = some (.struct fs)) (h : DataW.trod enc P w base spare held fuel t cs = some x) {i : Nat} {f : Field} (hf : fs[i]? = some f) :
    ∃ n y, DataW.trod enc P w base spare held n f.type ((cs.drop f.offset).take (P.cellsOf f.type)) = some y := by
  obtain ⟨xs, n, _, _, _, hlen, hx⟩ := DataW.trod_struct ht h
  have hi : i < fs.size := (Array.getElem?_eq_some_iff.1 hf).1
  exact ⟨n, xs[i], by rw [hx i f hf]; exact List.getElem?_eq_getElem (by omega)⟩
end

section
variable {H : Type} {enc : TypeId × Value → H} {w : World} {base : Nat} {spare : Nat → Bool} {held : Bool}
theorem field_int {t o : Nat} {k : IntKind} {fuel : Nat} {cs : List Value} {x : DataW H × List MemPlace} {m : Nat} (ht : Try.prog.underlying t = some (.int k)) (h : DataW.trod enc Try.prog w base spare held fuel t ((cs.drop o).take m) = some x) :
    ∃ n, cs[o]? = some (.int k n) ∧ (Lit.int k n).wf = true := by
  obtain ⟨n, e, _, hw⟩ := DataW.trod_int ht h
  exact ⟨n, take_get e (j := 0) rfl, hw⟩
theorem field_string {t o : Nat} {fuel : Nat} {cs : List Value} {x : DataW H × List MemPlace} {m : Nat} (ht : Try.prog.underlying t = some .string) (h : DataW.trod enc Try.prog w base spare held fuel t ((cs.drop o).take m) = some x) :
    ∃ s, cs[o]? = some (.string s) ∧ s.size ≤ maxLen := by
  obtain ⟨s, e, _, hw⟩ := DataW.trod_string ht h
  exact ⟨s, take_get e (j := 0) rfl, hw⟩
theorem field_bool {t o : Nat} {fuel : Nat} {cs : List Value} {x : DataW H × List MemPlace} {m : Nat} (ht : Try.prog.underlying t = some .bool) (h : DataW.trod enc Try.prog w base spare held fuel t ((cs.drop o).take m) = some x) :
    ∃ b, cs[o]? = some (.bool b) := by
  obtain ⟨b, e, _⟩ := DataW.trod_bool ht h
  exact ⟨b, take_get e (j := 0) rfl⟩

instance : Inhabited Key := ⟨⟨0, 0, 0, ⟨#[]⟩⟩⟩
theorem add_none (b off n : Nat) : (⟨b, off, none⟩ : Addr).add n = ⟨b, off + n, none⟩ := by cases n <;> simp [Addr.add]
theorem range_get {n i j : Nat} (h : (List.range n)[i]? = some j) : i < n ∧ j = i := by
  obtain ⟨h1, h2⟩ := List.getElem?_eq_some_iff.1 h
  simp at h1 h2
  exact ⟨h1, h2.symm⟩
/-- A key's cells. -/
def KeyAtL (cs : List Value) (o : Nat) (k : Key) : Prop := cs[o]? = some (.int .i64 k.kind) ∧ cs[o + 1]? = some (.int .i64 k.a) ∧ cs[o + 2]? = some (.int .i64 k.b) ∧ cs[o + 3]? = some (.string k.s)
set_option maxRecDepth 100000 in
theorem trod_key {fuel : Nat} {cs : List Value} {x : DataW H × List MemPlace} (h : DataW.trod enc Try.prog w base spare held fuel 23 cs = some x) : ∃ k : Key, KeyAtL cs 0 k ∧ k.s.size ≤ maxLen := by
  obtain ⟨_, _, h0⟩ := trod_field Try.underlying23 h (i := 0) rfl
  obtain ⟨_, _, h1⟩ := trod_field Try.underlying23 h (i := 1) rfl
  obtain ⟨_, _, h2⟩ := trod_field Try.underlying23 h (i := 2) rfl
  obtain ⟨_, _, h3⟩ := trod_field Try.underlying23 h (i := 3) rfl
  obtain ⟨a, e0, _⟩ := field_int Try.underlying3 h0
  obtain ⟨b, e1, _⟩ := field_int Try.underlying3 h1
  obtain ⟨c, e2, _⟩ := field_int Try.underlying3 h2
  obtain ⟨s, e3, hs⟩ := field_string Try.underlying9 h3
  exact ⟨⟨a, b, c, s⟩, ⟨e0, e1, e2, e3⟩, hs⟩
theorem KeyAtL.field {cs l : List Value} {o m j : Nat} {k : Key} (h : (cs.drop o).take m = l) (hk : KeyAtL l j k) : KeyAtL cs (o + j) k := by
  obtain ⟨h0, h1, h2, h3⟩ := hk
  exact ⟨take_get h h0, take_get h h1, take_get h h2, take_get h h3⟩

set_option maxRecDepth 100000 in
theorem trod_keys {fuel : Nat} {cs : List Value} {x : DataW H × List MemPlace} (h : DataW.trod enc Try.prog w base (fun _ => true) held fuel 41 cs = some x) :
    ∃ (fa : Option Addr) (ks : List Key) (cap : Nat), cs = [.slice fa ks.length cap] ∧ KeysIn w fa ks ∧ ks.length ≤ cap ∧ cap ≤ maxLen := by
  rcases open_slice Try.underlying41 h with ⟨rfl, -⟩ | ⟨a, len, cap, m, n, D, Pl, rfl, hb, hl, hm, hmm, -, hx⟩
  · exact ⟨none, [], 0, rfl, .inl rfl, by simp, by decide⟩
  · simp only [if_true] at hmm
    subst hmm
    have hc : Try.prog.cellsOf 23 = 4 := by kernel_rfl
    rw [hc] at hx
    obtain ⟨K, hK⟩ := choose_lt (α := Key) (n := len) (p := fun i k => w.cell? ((a.add (i * 4)).add 0) = some (.int .i64 k.kind) ∧ w.cell? ((a.add (i * 4)).add 1) = some (.int .i64 k.a) ∧ w.cell? ((a.add (i * 4)).add 2) = some (.int .i64 k.b) ∧ w.cell? ((a.add (i * 4)).add 3) = some (.string k.s)) (fun i hi => by
      obtain ⟨cs', h1, h2⟩ := hx i (by omega)
      obtain ⟨_, hlen, hcell⟩ := World.cells?_some h1
      obtain ⟨k, ⟨k0, k1, k2, k3⟩, _⟩ := trod_key h2
      exact ⟨k, (hcell 0 (by omega)).trans k0, (hcell 1 (by omega)).trans k1, (hcell 2 (by omega)).trans k2, (hcell 3 (by omega)).trans k3⟩)
    refine ⟨some a, (List.range len).map K, m, by simp, ?_, by simpa using hl, hm⟩
    rcases Nat.eq_zero_or_pos len with h0 | hp
    · subst h0; exact .inl rfl
    · obtain ⟨b, off, spot⟩ := a
      have hspot : spot = none := by
        have := World.cell?_spot (hK 0 hp).1
        simpa [Addr.add] using this
      subst hspot
      refine .inr ⟨b, off, rfl, fun i k hk => ?_⟩
      rw [List.getElem?_map] at hk
      obtain ⟨i', hi', rfl⟩ := Option.map_eq_some_iff.1 hk
      obtain ⟨hlt, rfl⟩ := range_get hi'
      obtain ⟨k0, k1, k2, k3⟩ := hK i' hlt
      simp only [add_none] at k0 k1 k2 k3
      exact ⟨k0, k1, k2, k3⟩

/-- An act of the law's. -/
structure Act where
  kind : Int
  who : Int
  key : Key
  kfa : Option Addr
  kcap : Nat
  keys : List Key
  stamp : Int
  sw : Int
  stx : ByteArray
  sh : Bool
def ActAtL (cs : List Value) (a : Act) : Prop := cs[0]? = some (.int .i64 a.kind) ∧ cs[1]? = some (.int .i64 a.who) ∧ KeyAtL cs 2 a.key ∧ cs[6]? = some (.slice a.kfa a.keys.length a.kcap) ∧ cs[7]? = some (.int .u64 a.stamp) ∧ cs[8]? = some (.int .u64 a.sw) ∧ cs[9]? = some (.string a.stx) ∧ cs[10]? = some (.bool a.sh)
def ActOk (w : World) (a : Act) : Prop := KeysIn w a.kfa a.keys ∧ a.keys.length ≤ a.kcap ∧ a.kcap ≤ maxLen ∧ (Lit.int .u64 a.stamp).wf = true ∧ (Lit.int .u64 a.sw).wf = true ∧ (Lit.int .i64 a.who).wf = true
set_option maxRecDepth 100000 in
theorem trod_act {fuel : Nat} {cs : List Value} {x : DataW H × List MemPlace} (h : DataW.trod enc Try.prog w base (fun _ => true) held fuel 43 cs = some x) : ∃ a : Act, ActAtL cs a ∧ ActOk w a := by
  obtain ⟨_, _, h0⟩ := trod_field Try.underlying43 h (i := 0) rfl
  obtain ⟨_, _, h1⟩ := trod_field Try.underlying43 h (i := 1) rfl
  obtain ⟨_, _, h2⟩ := trod_field Try.underlying43 h (i := 2) rfl
  obtain ⟨_, _, h3⟩ := trod_field Try.underlying43 h (i := 3) rfl
  obtain ⟨_, _, h4⟩ := trod_field Try.underlying43 h (i := 4) rfl
  obtain ⟨_, _, h5⟩ := trod_field Try.underlying43 h (i := 5) rfl
  obtain ⟨kind, e0, _⟩ := field_int Try.underlying3 h0
  obtain ⟨who, e1, hw⟩ := field_int Try.underlying3 h1
  obtain ⟨key, ek, _⟩ := trod_key h2
  have e2 := KeyAtL.field rfl ek
  obtain ⟨fa, ks, cap, ec, hk, hl, hm⟩ := trod_keys h3
  have e3 := take_get ec (j := 0) rfl
  obtain ⟨stamp, e4, hs⟩ := field_int Try.underlying32 h4
  obtain ⟨_, _, s0⟩ := trod_field Try.underlying37 h5 (i := 0) rfl
  obtain ⟨_, _, s1⟩ := trod_field Try.underlying37 h5 (i := 1) rfl
  obtain ⟨_, _, s2⟩ := trod_field Try.underlying37 h5 (i := 2) rfl
  obtain ⟨sw, f0, hw2⟩ := field_int Try.underlying32 s0
  obtain ⟨stx, f1, _⟩ := field_string Try.underlying9 s1
  obtain ⟨sh, f2⟩ := field_bool Try.underlying4 s2
  exact ⟨⟨kind, who, key, fa, cap, ks, stamp, sw, stx, sh⟩, ⟨e0, e1, e2, e3, e4, take_get rfl f0, take_get rfl f1, take_get rfl f2⟩, hk, hl, hm, hs, hw2, hw⟩

structure ActCell (w : World) (b o : Nat) (a : Act) : Prop where
  c0 : w.cell? ⟨b, o, none⟩ = some (.int .i64 a.kind)
  c1 : w.cell? ⟨b, o + 1, none⟩ = some (.int .i64 a.who)
  c2 : w.cell? ⟨b, o + 2, none⟩ = some (.int .i64 a.key.kind)
  c3 : w.cell? ⟨b, o + 3, none⟩ = some (.int .i64 a.key.a)
  c4 : w.cell? ⟨b, o + 4, none⟩ = some (.int .i64 a.key.b)
  c5 : w.cell? ⟨b, o + 5, none⟩ = some (.string a.key.s)
  c6 : w.cell? ⟨b, o + 6, none⟩ = some (.slice a.kfa a.keys.length a.kcap)
  c7 : w.cell? ⟨b, o + 7, none⟩ = some (.int .u64 a.stamp)
  c8 : w.cell? ⟨b, o + 8, none⟩ = some (.int .u64 a.sw)
  c9 : w.cell? ⟨b, o + 9, none⟩ = some (.string a.stx)
  c10 : w.cell? ⟨b, o + 10, none⟩ = some (.bool a.sh)
def ActsIn (w : World) (fa : Option Addr) (xs : List Act) : Prop := xs = [] ∨ ∃ b off, fa = some ⟨b, off, none⟩ ∧ ∀ i a, xs[i]? = some a → ActCell w b (off + i * 11) a ∧ ActOk w a
instance : Inhabited Act := ⟨⟨0, 0, default, none, 0, [], 0, 0, ⟨#[]⟩, false⟩⟩
set_option maxRecDepth 100000 in
theorem trod_acts {fuel : Nat} {cs : List Value} {x : DataW H × List MemPlace} (h : DataW.trod enc Try.prog w base (fun _ => true) held fuel 27 cs = some x) :
    ∃ (fa : Option Addr) (xs : List Act) (cap : Nat), cs = [.slice fa xs.length cap] ∧ ActsIn w fa xs ∧ xs.length ≤ cap ∧ cap ≤ maxLen := by
  rcases open_slice Try.underlying27 h with ⟨rfl, -⟩ | ⟨a, len, cap, m, n, D, Pl, rfl, hb, hl, hm, hmm, -, hx⟩
  · exact ⟨none, [], 0, rfl, .inl rfl, by simp, by decide⟩
  · simp only [if_true] at hmm
    subst hmm
    have hc : Try.prog.cellsOf 43 = 11 := by kernel_rfl
    rw [hc] at hx
    obtain ⟨K, hK⟩ := choose_lt (α := Act) (n := len) (p := fun i k => (∃ cs' : List Value, (∀ j, j < 11 → w.cell? ((a.add (i * 11)).add j) = cs'[j]?) ∧ ActAtL cs' k) ∧ ActOk w k) (fun i hi => by
      obtain ⟨cs', h1, h2⟩ := hx i (by omega)
      obtain ⟨_, hlen, hcell⟩ := World.cells?_some h1
      obtain ⟨k, hk, hok⟩ := trod_act h2
      exact ⟨k, ⟨cs', fun j hj => hcell j (by omega), hk⟩, hok⟩)
    refine ⟨some a, (List.range len).map K, m, by simp, ?_, by simpa using hl, hm⟩
    rcases Nat.eq_zero_or_pos len with h0 | hp
    · subst h0; exact .inl rfl
    · obtain ⟨b, off, spot⟩ := a
      have hspot : spot = none := by
        obtain ⟨⟨cs', hcell, hk⟩, _⟩ := hK 0 hp
        have := World.cell?_spot ((hcell 0 (by omega)).trans hk.1)
        simpa [Addr.add] using this
      subst hspot
      refine .inr ⟨b, off, rfl, fun i k hk => ?_⟩
      rw [List.getElem?_map] at hk
      obtain ⟨i', hi', rfl⟩ := Option.map_eq_some_iff.1 hk
      obtain ⟨hlt, rfl⟩ := range_get hi'
      obtain ⟨⟨cs', hcell, k0, k1, ⟨k2, k3, k4, k5⟩, k6, k7, k8, k9, k10⟩, hok⟩ := hK i' hlt
      have hc' : ∀ j, j < 11 → w.cell? ⟨b, off + i' * 11 + j, none⟩ = cs'[j]? := fun j hj => by
        have := hcell j hj
        simpa only [add_none] using this
      exact ⟨⟨(hc' 0 (by omega)).trans k0, (hc' 1 (by omega)).trans k1, (hc' 2 (by omega)).trans k2, (hc' 3 (by omega)).trans k3, (hc' 4 (by omega)).trans k4, (hc' 5 (by omega)).trans k5, (hc' 6 (by omega)).trans k6, (hc' 7 (by omega)).trans k7, (hc' 8 (by omega)).trans k8, (hc' 9 (by omega)).trans k9, (hc' 10 (by omega)).trans k10⟩, hok⟩
theorem ActCell.lt {b o : Nat} {a : Act} (h : ActCell w b o a) : b < w.heap.size := World.block_lt_of_cell? w _ h.c0
end
theorem ActCell.keep {w w' : World} {b o : Nat} {a : Act} (h : ActCell w b o a) (e : w'.heap[b]? = w.heap[b]?) : ActCell w' b o a := by
  have hc : ∀ i, w'.cell? ⟨b, i, none⟩ = w.cell? ⟨b, i, none⟩ := fun i => World.cell?_of_block (a := ⟨b, i, none⟩) e
  exact ⟨(hc _).trans h.c0, (hc _).trans h.c1, (hc _).trans h.c2, (hc _).trans h.c3, (hc _).trans h.c4, (hc _).trans h.c5, (hc _).trans h.c6, (hc _).trans h.c7, (hc _).trans h.c8, (hc _).trans h.c9, (hc _).trans h.c10⟩
theorem ActOk.ext {w : World} {a : Act} (h : ActOk w a) (p : Ext w) : ActOk p.w a := ⟨h.1.ext p, h.2⟩
theorem ActsIn.ext {w : World} {fa : Option Addr} {xs : List Act} (h : ActsIn w fa xs) (p : Ext w) : ActsIn p.w fa xs := by
  rcases h with h | ⟨b, off, hfa, h⟩
  · exact .inl h
  · exact .inr ⟨b, off, hfa, fun i a ha => ⟨(h i a ha).1.keep (p.same _ (h i a ha).1.lt id), (h i a ha).2.ext p⟩⟩
end Go.Proofs.Cob

namespace Go.Proofs.Cob
open Go Go.RowKit Go.Cob
set_option linter.unusedSimpArgs false
set_option linter.unusedVariables false

abbrev actCells (a : Act) : Array Value := #[.int .i64 a.kind, .int .i64 a.who, .int .i64 a.key.kind, .int .i64 a.key.a, .int .i64 a.key.b, .string a.key.s, .slice a.kfa a.keys.length a.kcap, .int .u64 a.stamp, .int .u64 a.sw, .string a.stx, .bool a.sh]
abbrev actV (a : Act) : Value := .agg (actCells a)
def smallB (a : Act) : Bool := !(decide (10 < a.keys.length)) && !(decide (100 < a.key.s.size)) && !(decide (200 < a.stx.size)) && a.keys.all fun k => !(decide (100 < k.s.size))

set_option maxRecDepth 4000 in
set_option maxHeartbeats 1600000 in
theorem small_any (a : Act) (w : World) (h : KeysIn w a.kfa a.keys) : Calls Try.prog 29 #[actV a] w fun e w' => e = .returned (.bool (smallB a)) ∧ ∃ p : Ext w, w' = p.w := by
  obtain ⟨kind, who, ⟨kd, ka, kb, ks⟩, kfa, kcap, keys, stamp, sw, stx, sh⟩ := a
  obtain ⟨W, hW⟩ : ∃ W, W = w.alloc (.cells (actCells ⟨kind, who, ⟨kd, ka, kb, ks⟩, kfa, kcap, keys, stamp, sw, stx, sh⟩) 43) := ⟨_, rfl⟩
  have hb : W.heap[w.heap.size]? = some (.cells (actCells ⟨kind, who, ⟨kd, ka, kb, ks⟩, kfa, kcap, keys, stamp, sw, stx, sh⟩) 43 (0, 0)) := by rw [hW]; exact heap_alloc_at _ _
  have hK : KeysIn W kfa keys := by rw [hW]; exact h.ext ((Ch.refl NoS w).alloc _)
  have fin : ∀ p : Ext W, ∃ q : Ext w, p.w = q.w := fun p => ⟨((Ch.refl NoS w).alloc _).onto hW p (fun b hb h => h), rfl⟩
  have c6 : W.cell? ⟨w.heap.size, 6, none⟩ = some (.slice kfa keys.length kcap) := cell_at 6 hb
  by_cases h1 : (10 : Int) < (keys.length : Int)
  · have e : smallB ⟨kind, who, ⟨kd, ka, kb, ks⟩, kfa, kcap, keys, stamp, sw, stx, sh⟩ = false := by
      have : 10 < keys.length := by omega
      simp [smallB, this]
    rw [e]
    clear e
    go_enter Try.func29, Try.ntmps29
    go_wp2_with fail
    rw [← hW]
    go_ret
    exact ⟨rfl, fin (Ch.refl NoS W)⟩
  by_cases h2 : (100 : Int) < (ks.size : Int)
  · have e : smallB ⟨kind, who, ⟨kd, ka, kb, ks⟩, kfa, kcap, keys, stamp, sw, stx, sh⟩ = false := by
      have : 100 < ks.size := by omega
      simp [smallB, this]
    rw [e]
    clear e
    go_enter Try.func29, Try.ntmps29
    go_wp2_with fail
    rw [← hW]
    go_ret
    exact ⟨rfl, fin (Ch.refl NoS W)⟩
  by_cases h3 : (200 : Int) < (stx.size : Int)
  · have e : smallB ⟨kind, who, ⟨kd, ka, kb, ks⟩, kfa, kcap, keys, stamp, sw, stx, sh⟩ = false := by
      have : 200 < stx.size := by omega
      simp [smallB, this]
    rw [e]
    clear e
    go_enter Try.func29, Try.ntmps29
    go_wp2_with fail
    rw [← hW]
    go_ret
    exact ⟨rfl, fin (Ch.refl NoS W)⟩
  have e : smallB ⟨kind, who, ⟨kd, ka, kb, ks⟩, kfa, kcap, keys, stamp, sw, stx, sh⟩ = keys.all fun k => !(decide (100 < k.s.size)) := by
    have g1 : ¬ 10 < keys.length := by omega
    have g2 : ¬ 100 < ks.size := by omega
    have g3 : ¬ 200 < stx.size := by omega
    simp only [smallB, g1, g2, g3, decide_false, Bool.not_false, Bool.true_and]
  rw [e]
  clear e
  go_enter Try.func29, Try.ntmps29
  go_wp2_with fail
  rw [← hW]
  clear hW
  go_loopw [3] (fun v w' => w' = W ∧ ∃ i : Nat, v = .int .i64 i ∧ i ≤ keys.length ∧ ∀ k ∈ keys.take i, ¬ 100 < k.s.size) (fun v _ => keys.length - (intOf v).toNat)
  case atStart => exact ⟨rfl, 0, rfl, by omega, by simp⟩
  case round =>
    obtain ⟨rfl, i, rfl, hi, hne⟩ := hrel
    have Hne : Hid _ := hne
    clear hne
    by_cases h4 : i < keys.length
    · obtain ⟨⟨xd, xa, xb, xs⟩, hx, b, off, rfl, hc⟩ := hK.get h4
      have Hx : Hid _ := hx
      clear hx
      have x3 := hc.c3
      by_cases h5 : (100 : Int) < (xs.size : Int)
      · go_wp2_with fail
        go_ret
        refine ⟨?_, fin (Ch.refl NoS _)⟩
        have : (keys.all fun k => !(decide (100 < k.s.size))) = false := by
          rw [List.all_eq_false]
          refine ⟨_, List.mem_of_getElem? Hx.out, ?_⟩
          have : 100 < xs.size := by omega
          simp [this]
        rw [this]; rfl
      · go_wp2_with fail
        go_roundw
        case rel =>
          refine ⟨by first | trivial | rfl, i + 1, by go_num, by omega, ?_⟩
          rw [take_snoc Hx.out]
          intro k hk
          rcases List.mem_append.1 hk with h | h
          · exact Hne.out k h
          · have : k = ⟨xd, xa, xb, xs⟩ := by simpa using h
            rw [this]
            show ¬ 100 < xs.size
            omega
        case measure => simp [intOf]; omega
    · go_wp2_with fail
      go_ret
      refine ⟨?_, fin (Ch.refl NoS _)⟩
      have h5 : keys.take i = keys := List.take_of_length_le (by omega)
      have h6 := Hne.out
      rw [h5] at h6
      have : (keys.all fun k => !(decide (100 < k.s.size))) = true := by
        rw [List.all_eq_true]
        intro k hk
        have := h6 k hk
        simp [this]
      rw [this]; rfl
end Go.Proofs.Cob

namespace Go.Proofs.Cob
open Go Go.RowKit Go.Cob
set_option linter.unusedSimpArgs false
set_option linter.unusedVariables false

theorem run_eq_seen (a : Int) (b : ByteArray) (c : Bool) (w : World) : (Op.equalIn 10000 37 (seenV a b c) (seenV a b c)).run Try.prog w = .ok true w := by
  have hs : (b.toList == b.toList) = true := by simp
  simp [go_sem, Try.underlying37, Try.underlying32, Try.underlying9, Try.underlying4, hs]

/-- Both stores, alike. -/
structure Run (w : World) (I : Ids) (r : Nat) (A : ArenaSt) (L : List (Key × Cl)) (B : Nat → Prop) : Prop where
  duo : Duo w I r A L A.room (L.map conv) B
  wo : WordsOk L
  iv : InvA A L
theorem Run.ext {w : World} {I : Ids} {r : Nat} {A : ArenaSt} {L : List (Key × Cl)} {B : Nat → Prop} (h : Run w I r A L B) (p : Ext w) : Run p.w I r A L B := ⟨h.duo.ext p, h.wo, h.iv⟩
theorem Run.few {w : World} {I : Ids} {r : Nat} {A : ArenaSt} {L : List (Key × Cl)} {B : Nat → Prop} (h : Run w I r A L B) : L.length ≤ 1048576 ∧ A.fresh ≤ A.room := by
  obtain ⟨F, G, h1, -⟩ := h.duo
  have := h1.fl; have := h1.st.hi; have := h1.st.top; have := h.iv.len
  exact ⟨by omega, h1.st.hi⟩
theorem Run.box {w : World} {I : Ids} {r : Nat} {A : ArenaSt} {L : List (Key × Cl)} {B : Nat → Prop} (h : Run w I r A L B) (o : Obj) : Run (w.alloc o) I r A L (fun b => B b ∧ b ≠ w.heap.size) := by
  obtain ⟨F, G, h1, h2, h3, h4, h5⟩ := (h.ext ((Ch.refl NoS w).alloc o)).duo
  obtain ⟨F0, G0, g1, g2, g3, g4, g5⟩ := h.duo
  exact ⟨⟨F0, G0, g1.ext ((Ch.refl NoS w).alloc o), g2.ext ((Ch.refl NoS w).alloc o), fun b hb => ⟨⟨(g3 b hb).1, Nat.ne_of_lt (g3 b hb).2⟩, by have := (g3 b hb).2; simp; omega⟩, fun b hb => ⟨⟨(g4 b hb).1, Nat.ne_of_lt (g4 b hb).2⟩, by have := (g4 b hb).2; simp; omega⟩, g5⟩, h.wo, h.iv⟩
theorem Run.mono {w : World} {I : Ids} {r : Nat} {A : ArenaSt} {L : List (Key × Cl)} {B B' : Nat → Prop} (h : Run w I r A L B) (hB : ∀ b, B b → B' b) : Run w I r A L B' := by
  obtain ⟨F, G, h1, h2, h3, h4, h5⟩ := h.duo
  exact ⟨⟨F, G, h1, h2, fun b hb => ⟨hB b (h3 b hb).1, (h3 b hb).2⟩, fun b hb => ⟨hB b (h4 b hb).1, (h4 b hb).2⟩, h5⟩, h.wo, h.iv⟩
theorem Run.read {w : World} {I : Ids} {r : Nat} {A : ArenaSt} {L : List (Key × Cl)} {B : Nat → Prop} (h : Run w I r A L B) (k : Key) :
    Calls Try.prog 28 #[.pointer (some ⟨I.s, 0, none⟩), keyV k] w fun e w' => e = .returned (.tuple #[(readM L k).1, .int .i64 (readM L k).2]) ∧ ∃ p : Ext w, w' = p.w := by
  obtain ⟨F, G, h1, -⟩ := h.duo
  exact read_m I A L F k w h1.st
theorem Run.rread {w : World} {I : Ids} {r : Nat} {A : ArenaSt} {L : List (Key × Cl)} {B : Nat → Prop} (h : Run w I r A L B) (k : Key) :
    Calls Try.prog 123 #[.pointer (some ⟨r, 0, none⟩), keyV k] w fun e w' => e = .returned (.tuple #[(readM L k).1, .int .i64 (readM L k).2]) ∧ ∃ p : Ext w, w' = p.w := by
  have hf := h.few.1
  obtain ⟨F, G, h1, h2, -⟩ := h.duo
  obtain ⟨⟨v, g1, -⟩, -⟩ := h2
  have := refRead_any r v A.room (L.map conv) k w g1 (by simp; omega)
  rw [read_conv] at this
  exact this
theorem readM_form (L : List (Key × Cl)) (k : Key) : ∃ a b c n, readM L k = (seenV a b c, n) := by
  unfold readM
  cases aget L k with
  | none => exact ⟨_, _, _, _, rfl⟩
  | some z => simp only; split <;> exact ⟨_, _, _, _, rfl⟩

set_option maxRecDepth 4000 in
set_option maxHeartbeats 1600000 in
theorem does_read (I : Ids) (r : Nat) (A : ArenaSt) (L : List (Key × Cl)) (B : Nat → Prop) (a : Act) (w : World) (h : Run w I r A L B) (hB : ∀ b, w.heap.size ≤ b → B b) (hk : a.kind = 0) :
    Calls Try.prog 30 #[.pointer (some ⟨I.s, 0, none⟩), .pointer (some ⟨r, 0, none⟩), actV a] w fun e w' => e = .returned (.bool true) ∧ ∃ p : Ext w, w' = p.w := by
  obtain ⟨kind, who, ⟨kd, ka, kb, ks⟩, kfa, kcap, keys, stamp, sw, stx, sh⟩ := a
  simp only at hk
  subst hk
  obtain ⟨x, y, z, n, hr⟩ := readM_form L ⟨kd, ka, kb, ks⟩
  obtain ⟨W, hW⟩ : ∃ W, W = w.alloc (.cells (actCells ⟨0, who, ⟨kd, ka, kb, ks⟩, kfa, kcap, keys, stamp, sw, stx, sh⟩) 43) := ⟨_, rfl⟩
  have hb : W.heap[w.heap.size]? = some (.cells (actCells ⟨0, who, ⟨kd, ka, kb, ks⟩, kfa, kcap, keys, stamp, sw, stx, sh⟩) 43 (0, 0)) := by rw [hW]; exact heap_alloc_at _ _
  have hR : Run W I r A L B := by rw [hW]; exact h.ext ((Ch.refl NoS w).alloc _)
  have fin : ∀ p : Ext W, ∃ q : Ext w, p.w = q.w := fun p => ⟨((Ch.refl NoS w).alloc _).onto hW p (fun b hb h => h), rfl⟩
  have hE := run_eq_seen x y z
  clear h
  go_enter Try.func30, Try.ntmps30
  go_wp2_with fail
  rw [← hW]
  clear hW
  go_at_call 28
  have hcc := hR.read ⟨kd, ka, kb, ks⟩
  rw [hr] at hcc
  refine hcc.mono ?_
  clear hcc
  rintro e w' ⟨rfl, p, rfl⟩
  have hb1 := p.blkE hb
  have hR1 := hR.ext p
  have fin1 : ∀ q : Ext p.w, ∃ q' : Ext w, q.w = q'.w := fun q => fin (p.thenE q)
  have hlt := lt_of_blk hb1
  clear hR hb fin hB
  generalize p.w = W1 at *
  clear p W
  obtain ⟨bk, hbk⟩ : ∃ bk, bk = w.heap.size := ⟨_, rfl⟩
  rw [← hbk] at hb1 hlt ⊢
  have k2 : W1.cell? ⟨bk, 2, none⟩ = some (.int .i64 kd) := cell_at 2 hb1
  have k3 : W1.cell? ⟨bk, 3, none⟩ = some (.int .i64 ka) := cell_at 3 hb1
  have k4 : W1.cell? ⟨bk, 4, none⟩ = some (.int .i64 kb) := cell_at 4 hb1
  have k5 : W1.cell? ⟨bk, 5, none⟩ = some (.string ks) := cell_at 5 hb1
  clear hbk
  have hne : bk ≠ W1.heap.size := Nat.ne_of_lt hlt
  go_wp2_with fail
  go_at_call 123
  have hcc := (hR1.ext ((Ch.refl NoS W1).alloc (.cells #[.int .u64 x, .string y, .bool z] 37))).rread ⟨kd, ka, kb, ks⟩
  rw [hr] at hcc
  refine hcc.mono ?_
  clear hcc
  rintro e w' ⟨rfl, q, rfl⟩
  have hb2 := q.blkE (heap_alloc_at W1 (.cells #[.int .u64 x, .string y, .bool z] 37))
  have fin2 : ∀ s : Ext q.w, ∃ q' : Ext w, s.w = q'.w := fun s => fin1 ((((Ch.refl NoS W1).alloc _).thenE q).thenE s)
  have hlt2 := lt_of_blk hb2
  have o0 := cell_at 0 hb2
  have o1 := cell_at 1 hb2
  have o2 := cell_at 2 hb2
  generalize q.w = W2 at *
  go_wp2_with fail
  go_ret
  exact ⟨rfl, fin2 ((Ch.refl NoS W2).alloc _)⟩

theorem Duo.lock {w : World} {I : Ids} {r : Nat} {A : ArenaSt} {L : List (Key × Cl)} {room : Int} {cs : List RC} {B : Nat → Prop} (h : Duo w I r A L room cs B) (hB : ∀ b, w.heap.size ≤ b → B b) (k : Key) (who : Int) :
    Calls Try.prog 25 #[.pointer (some ⟨I.s, 0, none⟩), keyV k, .int .i64 who] w fun e w' => e = .returned (.tuple #[.int .u64 (lockM A L k who).1.1, .int .i64 (lockM A L k who).1.2]) ∧ ∃ p : Ch B w, w' = p.w ∧ Duo p.w I r (lockM A L k who).2.1 (lockM A L k who).2.2 room cs B := by
  refine h.prog hB (fun F hS hF => ?_)
  refine (lock_m I A L F k who w hS.st hF).mono ?_
  rintro e w' ⟨rfl, p, rfl, hS'⟩
  refine ⟨rfl, p, rfl, hS', ?_⟩
  unfold lockM
  cases aget L k with
  | some z => simp only; split <;> exact hS.fl
  | none =>
    simp only
    cases ht : takeA A with
    | none => exact hS.fl
    | some sa => exact take_fl (s := sa.1) (A' := sa.2) ht hS.fl
theorem Duo.rlock {w : World} {I : Ids} {r : Nat} {A : ArenaSt} {L : List (Key × Cl)} {room : Int} {cs : List RC} {B : Nat → Prop} (h : Duo w I r A L room cs B) (hB : ∀ b, w.heap.size ≤ b → B b) (hb : cs.length < 1000000000000) (k : Key) (who : Int) :
    Calls Try.prog 124 #[.pointer (some ⟨r, 0, none⟩), keyV k, .int .i64 who] w fun e w' => e = .returned (.tuple #[.int .u64 (refLock room cs k who).1.1, .int .i64 (refLock room cs k who).1.2]) ∧ ∃ p : Ch B w, w' = p.w ∧ Duo p.w I r A L room (refLock room cs k who).2 B :=
  h.ref hB (fun G hR hG => refLock_any r room cs G k who w hR hG hb)
theorem Duo.install {w : World} {I : Ids} {r : Nat} {A : ArenaSt} {L : List (Key × Cl)} {room : Int} {cs : List RC} {B : Nat → Prop} (h : Duo w I r A L room cs B) (hB : ∀ b, w.heap.size ≤ b → B b) (k : Key) (who stamp vw : Int) (vs : ByteArray) (has : Bool) :
    Calls Try.prog 26 #[.pointer (some ⟨I.s, 0, none⟩), keyV k, .int .i64 who, .int .u64 stamp, seenV vw vs has] w fun e w' => e = .returned (.int .i64 (installM L k who stamp vs has).1) ∧ ∃ p : Ch B w, w' = p.w ∧ Duo p.w I r A (installM L k who stamp vs has).2 room cs B := by
  refine h.prog hB (fun F hS hF => ?_)
  refine (install_m I A L F k who stamp vw vs has w hS.st).mono ?_
  rintro e w' ⟨rfl, p, rfl, hS'⟩
  exact ⟨rfl, p, rfl, hS', hS.fl⟩
theorem Duo.rinstall {w : World} {I : Ids} {r : Nat} {A : ArenaSt} {L : List (Key × Cl)} {room : Int} {cs : List RC} {B : Nat → Prop} (h : Duo w I r A L room cs B) (hB : ∀ b, w.heap.size ≤ b → B b) (hb : cs.length < 1000000000000) (k : Key) (who stamp vw : Int) (vs : ByteArray) (has : Bool) :
    Calls Try.prog 126 #[.pointer (some ⟨r, 0, none⟩), keyV k, .int .i64 who, .int .u64 stamp, seenV vw vs has] w fun e w' => e = .returned (.int .i64 (refInstall cs k who stamp vs has).1) ∧ ∃ p : Ch B w, w' = p.w ∧ Duo p.w I r A L room (refInstall cs k who stamp vs has).2 B :=
  h.ref hB (fun G hR hG => refInstall_any r room cs G k who stamp vw vs has w hR (by omega))
theorem Duo.still {w : World} {I : Ids} {r : Nat} {A : ArenaSt} {L : List (Key × Cl)} {room : Int} {cs : List RC} {B : Nat → Prop} (h : Duo w I r A L room cs B) (k : Key) (who vw : Int) (vs : ByteArray) (has : Bool) :
    Calls Try.prog 33 #[.pointer (some ⟨I.s, 0, none⟩), keyV k, .int .i64 who, seenV vw vs has] w fun e w' => e = .returned (.bool (stillM L k who vw has)) ∧ ∃ p : Ext w, w' = p.w := by
  obtain ⟨F, G, h1, -⟩ := h
  exact still_m I A L F k who vw vs has w h1.st
theorem Duo.rstill {w : World} {I : Ids} {r : Nat} {A : ArenaSt} {L : List (Key × Cl)} {room : Int} {cs : List RC} {B : Nat → Prop} (h : Duo w I r A L room cs B) (hb : cs.length < 1000000000000) (k : Key) (who vw : Int) (vs : ByteArray) (has : Bool) :
    Calls Try.prog 127 #[.pointer (some ⟨r, 0, none⟩), keyV k, .int .i64 who, seenV vw vs has] w fun e w' => e = .returned (.bool (refStill cs k who vw has)) ∧ ∃ p : Ext w, w' = p.w := by
  obtain ⟨F, G, h1, h2, -⟩ := h
  obtain ⟨⟨v, g1, -⟩, -⟩ := h2
  exact refStill_any r v room cs k who vw vs has w g1 (by omega)

theorem Duo.mono {w : World} {I : Ids} {r : Nat} {A : ArenaSt} {L : List (Key × Cl)} {room : Int} {cs : List RC} {B B' : Nat → Prop} (h : Duo w I r A L room cs B) (hB : ∀ b, B b → B' b) : Duo w I r A L room cs B' := by
  obtain ⟨F, G, h1, h2, h3, h4, h5⟩ := h
  exact ⟨F, G, h1, h2, fun b hb => ⟨hB b (h3 b hb).1, (h3 b hb).2⟩, fun b hb => ⟨hB b (h4 b hb).1, (h4 b hb).2⟩, h5⟩

set_option maxRecDepth 4000 in
set_option maxHeartbeats 1600000 in
theorem does_lock (I : Ids) (r : Nat) (A : ArenaSt) (L : List (Key × Cl)) (B : Nat → Prop) (a : Act) (w : World) (h : Run w I r A L B) (hB : ∀ b, w.heap.size ≤ b → B b) (hk : a.kind = 1) :
    Calls Try.prog 30 #[.pointer (some ⟨I.s, 0, none⟩), .pointer (some ⟨r, 0, none⟩), actV a] w fun e w' => e = .returned (.bool true) ∧ ∃ p : Ch B w, w' = p.w ∧ Run p.w I r (lockM A L a.key a.who).2.1 (lockM A L a.key a.who).2.2 B := by
  obtain ⟨kind, who, ⟨kd, ka, kb, ks⟩, kfa, kcap, keys, stamp, sw, stx, sh⟩ := a
  simp only at hk
  subst hk
  obtain ⟨bk, hbk⟩ : ∃ bk, bk = w.heap.size := ⟨_, rfl⟩
  obtain ⟨W, hW⟩ : ∃ W, W = w.alloc (.cells (actCells ⟨1, who, ⟨kd, ka, kb, ks⟩, kfa, kcap, keys, stamp, sw, stx, sh⟩) 43) := ⟨_, rfl⟩
  have hb : W.heap[bk]? = some (.cells (actCells ⟨1, who, ⟨kd, ka, kb, ks⟩, kfa, kcap, keys, stamp, sw, stx, sh⟩) 43 (0, 0)) := by rw [hW, hbk]; exact heap_alloc_at _ _
  have hR : Run W I r A L (fun b => B b ∧ b ≠ bk) := by rw [hW, hbk]; exact h.box _
  have hB' : ∀ b, W.heap.size ≤ b → B b ∧ b ≠ bk := fun b hb => by
    rw [hW] at hb; simp at hb
    exact ⟨hB b (by omega), by omega⟩
  have fin : ∀ p : Ch (fun b => B b ∧ b ≠ bk) W, ∃ q : Ch B w, p.w = q.w := fun p => ⟨((Ch.refl B w).alloc _).onto hW p (fun b hb h => h.1), rfl⟩
  have hfew := h.few
  obtain ⟨c1, c2, c3, c4, c5⟩ := lock_conv A L ⟨kd, ka, kb, ks⟩ who h.wo h.iv hfew.2
  obtain ⟨⟨x, y⟩, hxy⟩ : ∃ xy, xy = (lockM A L ⟨kd, ka, kb, ks⟩ who).1 := ⟨_, rfl⟩
  have Hfin : Hid _ := fin
  have HC : Hid _ := And.intro c2 (And.intro c3 (And.intro c4 c5))
  have c1' : (refLock A.room (L.map conv) ⟨kd, ka, kb, ks⟩ who).1 = (x, y) := c1.trans hxy.symm
  clear h c1 c2 c3 c4 c5
  go_enter Try.func30, Try.ntmps30
  go_wp2_with fail
  rw [← hbk, ← hW]
  clear hW hbk
  go_at_call 25
  have hcc := hR.duo.lock hB' ⟨kd, ka, kb, ks⟩ who
  rw [← hxy] at hcc
  refine hcc.mono ?_
  clear hcc
  rintro e w' ⟨rfl, p, rfl, hD⟩
  have hb1 := p.blk hb (fun h => h.2 rfl)
  have k1 : p.w.cell? ⟨bk, 1, none⟩ = some (.int .i64 who) := cell_at 1 hb1; have k2 : p.w.cell? ⟨bk, 2, none⟩ = some (.int .i64 kd) := cell_at 2 hb1; have k3 : p.w.cell? ⟨bk, 3, none⟩ = some (.int .i64 ka) := cell_at 3 hb1; have k4 : p.w.cell? ⟨bk, 4, none⟩ = some (.int .i64 kb) := cell_at 4 hb1; have k5 : p.w.cell? ⟨bk, 5, none⟩ = some (.string ks) := cell_at 5 hb1
  have HD : Hid _ := hD
  have hB1 : ∀ b, p.w.heap.size ≤ b → B b ∧ b ≠ bk := fun b hb => hB' b (by have := p.size; omega)
  have HB1 : Hid _ := hB1
  clear hD hB1 hb1 hB' hR hxy hb
  go_wp2_with fail
  go_at_call 124
  have hcc := Duo.rlock HD.out HB1.out (by simp; omega) ⟨kd, ka, kb, ks⟩ who
  rw [c1'] at hcc
  refine hcc.mono ?_
  clear hcc
  rintro e w' ⟨rfl, q, rfl, hD2⟩
  have HD2 : Hid _ := hD2
  clear hD2 c1'
  go_wp2_with fail
  go_ret
  obtain ⟨s, hs⟩ := Hfin.out (p.then q (fun _ _ h => h))
  obtain ⟨d2, d3, d4, d5⟩ := HC.out
  refine ⟨rfl, s, hs, hs ▸ ⟨?_, d3, d4⟩⟩
  have := HD2.out
  rw [d2] at this
  rw [d5]
  exact Duo.mono this (fun b h => h.1)

/-- Nothing has turned yet. -/
def Ch.still {S : Nat → Prop} {w0 : World} (p : Ch S w0) (h : p.w.heap = w0.heap) : Ext w0 := ⟨p.w, p.os, p.tape, p.output, by rw [h]; exact Nat.le_refl _, fun b _ _ => by rw [h]⟩
theorem ch_still_w {S : Nat → Prop} {w0 : World} (p : Ch S w0) (h : p.w.heap = w0.heap) : (Ch.still p h).w = p.w := rfl
set_option maxRecDepth 4000 in
set_option maxHeartbeats 1600000 in
theorem does_install (I : Ids) (r : Nat) (A : ArenaSt) (L : List (Key × Cl)) (B : Nat → Prop) (a : Act) (w : World) (h : Run w I r A L B) (hB : ∀ b, w.heap.size ≤ b → B b) (hk : a.kind = 3) (hs0 : 0 ≤ a.stamp) (hs1 : a.stamp < 18446744073709551616) :
    Calls Try.prog 30 #[.pointer (some ⟨I.s, 0, none⟩), .pointer (some ⟨r, 0, none⟩), actV a] w fun e w' => e = .returned (.bool true) ∧ ∃ p : Ch B w, w' = p.w ∧ Run p.w I r A (installM L a.key a.who a.stamp a.stx a.sh).2 B := by
  obtain ⟨kind, who, ⟨kd, ka, kb, ks⟩, kfa, kcap, keys, stamp, sw, stx, sh⟩ := a
  simp only at hk
  subst hk
  obtain ⟨bk, hbk⟩ : ∃ bk, bk = w.heap.size := ⟨_, rfl⟩
  obtain ⟨W, hW⟩ : ∃ W, W = w.alloc (.cells (actCells ⟨3, who, ⟨kd, ka, kb, ks⟩, kfa, kcap, keys, stamp, sw, stx, sh⟩) 43) := ⟨_, rfl⟩
  have hb : W.heap[bk]? = some (.cells (actCells ⟨3, who, ⟨kd, ka, kb, ks⟩, kfa, kcap, keys, stamp, sw, stx, sh⟩) 43 (0, 0)) := by rw [hW, hbk]; exact heap_alloc_at _ _
  have hR : Run W I r A L (fun b => B b ∧ b ≠ bk) := by rw [hW, hbk]; exact h.box _
  have hB' : ∀ b, W.heap.size ≤ b → B b ∧ b ≠ bk := fun b hb => by
    rw [hW] at hb; simp at hb
    exact ⟨hB b (by omega), by omega⟩
  have fin : ∀ p : Ch (fun b => B b ∧ b ≠ bk) W, ∃ q : Ch B w, p.w = q.w := fun p => ⟨((Ch.refl B w).alloc _).onto hW p (fun b hb h => h.1), rfl⟩
  have hfew := h.few
  obtain ⟨c1, c2, c3⟩ := install_conv L ⟨kd, ka, kb, ks⟩ who stamp stx sh h.wo hs0 hs1
  have HI := h.iv
  obtain ⟨x, hx⟩ : ∃ x, x = (installM L ⟨kd, ka, kb, ks⟩ who stamp stx sh).1 := ⟨_, rfl⟩
  have Hfin : Hid _ := fin
  have HC : Hid _ := And.intro c2 c3
  have hInv : InvA A (installM L ⟨kd, ka, kb, ks⟩ who stamp stx sh).2 := by
    unfold installM
    split
    · cases hg : aget L ⟨kd, ka, kb, ks⟩ with
      | none => exact h.iv
      | some z =>
        simp only
        split
        · exact h.iv
        · exact h.iv.turn hg rfl rfl
    · exact h.iv
  have c1' : (refInstall (L.map conv) ⟨kd, ka, kb, ks⟩ who stamp stx sh).1 = x := c1.trans hx.symm
  have b1 : ∀ p : Ch (fun b => B b ∧ b ≠ bk) W, p.w.cell? ⟨bk, 1, none⟩ = some (.int .i64 who) := (fun p => cell_at 1 (p.blk hb (fun h => h.2 rfl))); have b2 : ∀ p : Ch (fun b => B b ∧ b ≠ bk) W, p.w.cell? ⟨bk, 2, none⟩ = some (.int .i64 kd) := (fun p => cell_at 2 (p.blk hb (fun h => h.2 rfl))); have b3 : ∀ p : Ch (fun b => B b ∧ b ≠ bk) W, p.w.cell? ⟨bk, 3, none⟩ = some (.int .i64 ka) := (fun p => cell_at 3 (p.blk hb (fun h => h.2 rfl))); have b4 : ∀ p : Ch (fun b => B b ∧ b ≠ bk) W, p.w.cell? ⟨bk, 4, none⟩ = some (.int .i64 kb) := (fun p => cell_at 4 (p.blk hb (fun h => h.2 rfl))); have b5 : ∀ p : Ch (fun b => B b ∧ b ≠ bk) W, p.w.cell? ⟨bk, 5, none⟩ = some (.string ks) := (fun p => cell_at 5 (p.blk hb (fun h => h.2 rfl))); have b7 : ∀ p : Ch (fun b => B b ∧ b ≠ bk) W, p.w.cell? ⟨bk, 7, none⟩ = some (.int .u64 stamp) := (fun p => cell_at 7 (p.blk hb (fun h => h.2 rfl))); have b8 : ∀ p : Ch (fun b => B b ∧ b ≠ bk) W, p.w.cell? ⟨bk, 8, none⟩ = some (.int .u64 sw) := (fun p => cell_at 8 (p.blk hb (fun h => h.2 rfl))); have b9 : ∀ p : Ch (fun b => B b ∧ b ≠ bk) W, p.w.cell? ⟨bk, 9, none⟩ = some (.string stx) := (fun p => cell_at 9 (p.blk hb (fun h => h.2 rfl))); have b10 : ∀ p : Ch (fun b => B b ∧ b ≠ bk) W, p.w.cell? ⟨bk, 10, none⟩ = some (.bool sh) := (fun p => cell_at 10 (p.blk hb (fun h => h.2 rfl)))
  have HD : Hid _ := hR.duo
  have HB : Hid _ := hB'
  have HX : Hid _ := hx
  have HC1 : Hid _ := c1'
  have HInv : Hid _ := hInv
  have Hb : Hid _ := hb
  clear h c1 c2 c3 hB' hR hx hb c1' hInv HI fin
  go_enter Try.func30, Try.ntmps30
  go_wp2_with fail
  rw [← hbk, ← hW]
  clear hW hbk
  refine wp_region_ch (fun b => B b ∧ b ≠ bk) (by kernel_rfl) (by kernel_rfl) (fun p hp => ?_)
  have HDp : Hid (Duo p.w I r A L A.room (L.map conv) (fun b => B b ∧ b ≠ bk)) := Duo.ext HD.out (Ch.still p hp)
  clear hp
  (repeat (first | (refine wpMix_skip rfl rfl ?_) | (refine wpMix_step (fun K hK => ?_); go_simp; (with_reducible (refine hK _ _ ?_)); clear hK K)))
  refine wpMix_step (fun K hK => ?_); go_simp
  have hcc := Duo.install HDp.out (fun b hb => HB.out b (by have := p.size; omega)) ⟨kd, ka, kb, ks⟩ who stamp sw stx sh
  rw [← HX.out] at hcc
  refine hcc.mono ?_
  clear hcc
  rintro e w' ⟨rfl, q, rfl, hD⟩
  obtain ⟨q2, hq2⟩ : ∃ q2 : Ch (fun b => B b ∧ b ≠ bk) W, q.w = q2.w := ⟨p.then q (fun _ _ h => h), rfl⟩
  rw [hq2] at hD ⊢
  have HD2 : Hid _ := hD
  clear hD hq2
  refine ⟨⟨q2, rfl⟩, hK _ _ ?_⟩; clear hK K
  (repeat (first | (refine wpMix_skip rfl rfl ?_) | (refine wpMix_step (fun K hK => ?_); go_simp; (with_reducible (refine hK _ _ ?_)); clear hK K)))
  refine wpMix_step (fun K hK => ?_); go_simp
  have hcc := Duo.rinstall HD2.out (fun b hb => HB.out b (by have := q2.size; omega)) (by simp; omega) ⟨kd, ka, kb, ks⟩ who stamp sw stx sh
  rw [HC1.out] at hcc
  refine hcc.mono ?_
  clear hcc
  rintro e w' ⟨rfl, q3, rfl, hD⟩
  obtain ⟨q4, hq4⟩ : ∃ q4 : Ch (fun b => B b ∧ b ≠ bk) W, q3.w = q4.w := ⟨q2.then q3 (fun _ _ h => h), rfl⟩
  rw [hq4] at hD ⊢
  have HD4 : Hid _ := hD
  clear hD hq4
  refine ⟨⟨q4, rfl⟩, hK _ _ ?_⟩; clear hK K
  (repeat (first | (refine wpMix_skip rfl rfl ?_) | (refine wpMix_step (fun K hK => ?_); go_simp; (with_reducible (refine hK _ _ ?_)); clear hK K)))
  refine wpMix_nil ?_
  go_wp2_with fail
  go_ret
  obtain ⟨s, hs⟩ := Hfin.out q4
  obtain ⟨d2, d3⟩ := HC.out
  refine ⟨rfl, s, hs, hs ▸ ⟨?_, d3, HInv.out⟩⟩
  have := HD4.out
  rw [d2] at this
  exact Duo.mono this (fun b h => h.1)

set_option maxRecDepth 4000 in
set_option maxHeartbeats 1600000 in
theorem does_still (I : Ids) (r : Nat) (A : ArenaSt) (L : List (Key × Cl)) (B : Nat → Prop) (a : Act) (w : World) (h : Run w I r A L B) (hk : a.kind = 4) :
    Calls Try.prog 30 #[.pointer (some ⟨I.s, 0, none⟩), .pointer (some ⟨r, 0, none⟩), actV a] w fun e w' => e = .returned (.bool true) ∧ ∃ p : Ext w, w' = p.w := by
  obtain ⟨kind, who, ⟨kd, ka, kb, ks⟩, kfa, kcap, keys, stamp, sw, stx, sh⟩ := a
  simp only at hk
  subst hk
  obtain ⟨bk, hbk⟩ : ∃ bk, bk = w.heap.size := ⟨_, rfl⟩
  obtain ⟨W, hW⟩ : ∃ W, W = w.alloc (.cells (actCells ⟨4, who, ⟨kd, ka, kb, ks⟩, kfa, kcap, keys, stamp, sw, stx, sh⟩) 43) := ⟨_, rfl⟩
  have hb : W.heap[bk]? = some (.cells (actCells ⟨4, who, ⟨kd, ka, kb, ks⟩, kfa, kcap, keys, stamp, sw, stx, sh⟩) 43 (0, 0)) := by rw [hW, hbk]; exact heap_alloc_at _ _
  have hR : Run W I r A L B := by rw [hW]; exact h.ext ((Ch.refl NoS w).alloc _)
  have fin : ∀ p : Ext W, ∃ q : Ext w, p.w = q.w := fun p => ⟨((Ch.refl NoS w).alloc _).onto hW p (fun b hb h => h), rfl⟩
  have hfew := h.few
  have hc := still_conv L ⟨kd, ka, kb, ks⟩ who sw sh
  obtain ⟨x, hx⟩ : ∃ x, x = stillM L ⟨kd, ka, kb, ks⟩ who sw sh := ⟨_, rfl⟩
  rw [← hx] at hc
  have b1 : ∀ p : Ext W, p.w.cell? ⟨bk, 1, none⟩ = some (.int .i64 who) := (fun p => cell_at 1 (p.blkE hb)); have b2 : ∀ p : Ext W, p.w.cell? ⟨bk, 2, none⟩ = some (.int .i64 kd) := (fun p => cell_at 2 (p.blkE hb)); have b3 : ∀ p : Ext W, p.w.cell? ⟨bk, 3, none⟩ = some (.int .i64 ka) := (fun p => cell_at 3 (p.blkE hb)); have b4 : ∀ p : Ext W, p.w.cell? ⟨bk, 4, none⟩ = some (.int .i64 kb) := (fun p => cell_at 4 (p.blkE hb)); have b5 : ∀ p : Ext W, p.w.cell? ⟨bk, 5, none⟩ = some (.string ks) := (fun p => cell_at 5 (p.blkE hb)); have b8 : ∀ p : Ext W, p.w.cell? ⟨bk, 8, none⟩ = some (.int .u64 sw) := (fun p => cell_at 8 (p.blkE hb)); have b9 : ∀ p : Ext W, p.w.cell? ⟨bk, 9, none⟩ = some (.string stx) := (fun p => cell_at 9 (p.blkE hb)); have b10 : ∀ p : Ext W, p.w.cell? ⟨bk, 10, none⟩ = some (.bool sh) := (fun p => cell_at 10 (p.blkE hb))
  have HD : Hid _ := hR.duo
  have HX : Hid _ := hx
  have HC1 : Hid _ := hc
  have Hfin : Hid _ := fin
  clear h hR hx hb hc fin
  go_enter Try.func30, Try.ntmps30
  go_wp2_with fail
  rw [← hbk, ← hW]
  clear hW hbk
  refine wp_region_ch NoS (by kernel_rfl) (by kernel_rfl) (fun p hp => ?_)
  clear hp
  (repeat (first | (refine wpMix_skip rfl rfl ?_) | (refine wpMix_step (fun K hK => ?_); go_simp; (with_reducible (refine hK _ _ ?_)); clear hK K)))
  refine wpMix_step (fun K hK => ?_); go_simp
  have hcc := Duo.still (Duo.ext HD.out p) ⟨kd, ka, kb, ks⟩ who sw stx sh
  rw [← HX.out] at hcc
  refine (Calls.inCh hcc).mono ?_
  clear hcc
  rintro e w' ⟨rfl, q, rfl⟩
  refine ⟨⟨q, rfl⟩, hK _ _ ?_⟩; clear hK K
  (repeat (first | (refine wpMix_skip rfl rfl ?_) | (refine wpMix_step (fun K hK => ?_); go_simp; (with_reducible (refine hK _ _ ?_)); clear hK K)))
  refine wpMix_step (fun K hK => ?_); go_simp
  have hcc := Duo.rstill (Duo.ext HD.out q) (by simp; omega) ⟨kd, ka, kb, ks⟩ who sw stx sh
  rw [HC1.out] at hcc
  refine (Calls.inCh hcc).mono ?_
  clear hcc
  rintro e w' ⟨rfl, q2, rfl⟩
  refine ⟨⟨q2, rfl⟩, hK _ _ ?_⟩; clear hK K
  (repeat (first | (refine wpMix_skip rfl rfl ?_) | (refine wpMix_step (fun K hK => ?_); go_simp; (with_reducible (refine hK _ _ ?_)); clear hK K)))
  refine wpMix_nil ?_
  go_wp2_with fail
  go_ret
  exact ⟨by simp, Hfin.out q2⟩

set_option maxRecDepth 4000 in
set_option maxHeartbeats 1600000 in
theorem does_other (I : Ids) (r : Nat) (a : Act) (w : World) (h0 : a.kind ≠ 0) (h1 : a.kind ≠ 1) (h2 : a.kind ≠ 2) (h3 : a.kind ≠ 3) (h4 : a.kind ≠ 4) (h5 : a.kind ≠ 5) :
    Calls Try.prog 30 #[.pointer (some ⟨I.s, 0, none⟩), .pointer (some ⟨r, 0, none⟩), actV a] w fun e w' => e = .returned (.bool true) ∧ ∃ p : Ext w, w' = p.w := by
  have g0 : (a.kind == 0) = false := by simpa using h0
  have g1 : (a.kind == 1) = false := by simpa using h1
  have g2 : (a.kind == 2) = false := by simpa using h2
  have g3 : (a.kind == 3) = false := by simpa using h3
  have g4 : (a.kind == 4) = false := by simpa using h4
  have g5 : (a.kind == 5) = false := by simpa using h5
  clear h0 h1 h2 h3 h4 h5
  go_enter Try.func30, Try.ntmps30
  go_wp2_with fail
  go_ret
  exact ⟨rfl, (Ch.refl NoS w).alloc _, rfl⟩
end Go.Proofs.Cob
