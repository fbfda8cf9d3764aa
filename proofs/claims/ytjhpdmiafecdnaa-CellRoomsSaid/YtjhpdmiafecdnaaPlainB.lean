/-
  The arena's own count, kept; Lock, alike.
-/
import Derived.Test.YtjhpdmiafecdnaaPlainA
namespace Go.Proofs.Cob
open Go Go.RowKit Go.Cob
set_option linter.unusedSimpArgs false
set_option linter.unusedVariables false

/-- What holds of an arena and the cells that hold its slots. -/
structure InvA (A : ArenaSt) (L : List (Key × Cl)) : Prop where
  len : L.length = A.taken.length
  sum : ((A.free.length + A.taken.length : Nat) : Int) = A.fresh
  tk : ∀ p ∈ L, aget A.taken p.2.sl = some true ∧ genOf A p.2.sl = p.2.gen
  nd : (L.map (·.2.sl)).Nodup
  fnd : A.free.Nodup
  flt : ∀ s ∈ A.free, s < A.fresh ∧ aget A.taken s = none
  tlt : ∀ s b, aget A.taken s = some b → s < A.fresh
  tnd : (A.taken.map (·.1)).Nodup

theorem InvA.empty (room : Int) : InvA ⟨room, 0, [], [], []⟩ [] := ⟨rfl, by simp, by simp, by simp, by simp, by simp, by simp [aget], by simp⟩

section
variable {α β : Type} [DecidableEq α]
theorem aput_none_length {l : List (α × β)} {k : α} {v : β} (h : aget l k = none) : (aput l k v).length = l.length + 1 := by rw [aput_new h]; simp
theorem aput_some_length {l : List (α × β)} {k : α} {v v0 : β} (h : aget l k = some v0) : (aput l k v).length = l.length := by
  obtain ⟨l1, l2, e1, -, e2⟩ := aget_cases h
  rw [e2, e1]; simp
theorem aget_none_mem {l : List (α × β)} {k : α} (h : aget l k = none) : k ∉ l.map (·.1) := by
  induction l with
  | nil => simp
  | cons p l ih =>
    rw [aget_cons] at h
    by_cases hp : p.1 = k
    · rw [if_pos hp] at h; cases h
    · rw [if_neg hp] at h
      simp only [List.map_cons, List.mem_cons, not_or]
      exact ⟨fun e => hp e.symm, ih h⟩
theorem aget_none_of {l : List (α × β)} {k : α} (h : k ∉ l.map (·.1)) : aget l k = none := by
  cases hg : aget l k with
  | none => rfl
  | some v => exact absurd (List.mem_map_of_mem (f := (·.1)) (aget_mem hg)) h
theorem aput_keys {l : List (α × β)} {k : α} {v v0 : β} (h : aget l k = some v0) : (aput l k v).map (·.1) = l.map (·.1) := by
  obtain ⟨l1, l2, e1, -, e2⟩ := aget_cases h
  rw [e2, e1]; simp
theorem aget_adel_self {l : List (α × β)} {k : α} (h : (l.map (·.1)).Nodup) : aget (adel l k) k = none := by
  induction l with
  | nil => rfl
  | cons p l ih =>
    simp only [List.map_cons, List.nodup_cons] at h
    simp only [adel]
    split
    · rename_i hp
      rw [← hp]
      exact aget_none_of h.1
    · rename_i hp
      rw [aget_cons, if_neg hp, ih h.2]
end

theorem InvA.full {A : ArenaSt} {L : List (Key × Cl)} (h : InvA A L) (hi : A.fresh ≤ A.room) : takeA A = none ↔ A.room ≤ L.length := by
  have h1 := h.len
  have h2 := h.sum
  unfold takeA
  by_cases hf : A.free = []
  · rw [if_pos hf]
    have h3 : A.free.length = 0 := by rw [hf]; rfl
    by_cases hr : (A.fresh == A.room) = true
    · rw [if_pos hr]
      have : A.fresh = A.room := by simpa using hr
      simp; omega
    · rw [if_neg hr]
      have : A.fresh ≠ A.room := by simpa using hr
      simp; omega
  · rw [if_neg hf]
    have := List.length_pos_iff.2 hf
    simp; omega

/-- A cell turned, its slot the same. -/
theorem InvA.turn {A : ArenaSt} {L : List (Key × Cl)} (h : InvA A L) {k : Key} {z z' : Cl} (hg : aget L k = some z) (h1 : z'.sl = z.sl) (h2 : z'.gen = z.gen) : InvA A (aput L k z') := by
  obtain ⟨l1, l2, e1, -, e2⟩ := aget_cases hg
  have hz := h.tk _ (aget_mem hg)
  refine ⟨by rw [aput_some_length hg]; exact h.len, h.sum, fun p hp => ?_, ?_, h.fnd, h.flt, h.tlt, h.tnd⟩
  · rcases mem_aput hp with hp | rfl
    · exact h.tk p hp
    · simp only [h1, h2]; exact hz
  · have hn := h.nd
    rw [e2, e1] at *
    simpa [h1] using hn

/-- A slot taken for a new cell. -/
theorem InvA.take {A A' : ArenaSt} {L : List (Key × Cl)} (h : InvA A L) {k : Key} {s : Int} {z : Cl} (hg : aget L k = none) (ht : takeA A = some (s, A')) (h1 : z.sl = s) (h2 : z.gen = genOf A s) : InvA A' (aput L k z) := by
  have hs : aget A.taken s = none ∧ A'.taken = aput A.taken s true ∧ A'.gens = A.gens ∧ (((A'.free.length + A.taken.length + 1 : Nat) : Int) = A'.fresh) ∧ A'.free.Nodup ∧ (∀ x ∈ A'.free, x < A'.fresh ∧ x ≠ s ∧ aget A.taken x = none) ∧ s < A'.fresh ∧ A.fresh ≤ A'.fresh := by
    unfold takeA at ht
    have hsum := h.sum
    split at ht
    · rename_i hf
      split at ht
      · cases ht
      · simp only [Option.some.injEq, Prod.mk.injEq] at ht
        obtain ⟨rfl, rfl⟩ := ht
        have hn : aget A.taken A.fresh = none := by
          cases hx : aget A.taken A.fresh with
          | none => rfl
          | some b => have := h.tlt _ _ hx; omega
        rw [hf] at hsum
        refine ⟨hn, rfl, rfl, ?_, ?_, ?_, ?_, ?_⟩
        · simp only [hf]; simp at hsum ⊢; omega
        · simp [hf]
        · simp [hf]
        · simp only; omega
        · simp only; omega
    · rename_i hf
      simp only [Option.some.injEq, Prod.mk.injEq] at ht
      obtain ⟨rfl, rfl⟩ := ht
      have hlast : A.free = A.free.dropLast ++ [A.free.getLastD 0] := by
        rw [List.getLastD_eq_getLast?, List.getLast?_eq_some_getLast hf, Option.getD_some]
        exact (List.dropLast_concat_getLast hf).symm
      have hmem : A.free.getLastD 0 ∈ A.free := by
        have : A.free.getLastD 0 ∈ A.free.dropLast ++ [A.free.getLastD 0] := by simp
        rw [← hlast] at this
        exact this
      have hnd := h.fnd
      rw [hlast, List.nodup_append] at hnd
      have hpos := List.length_pos_iff.2 hf
      refine ⟨(h.flt _ hmem).2, rfl, rfl, ?_, hnd.1, fun x hx => ?_, (h.flt _ hmem).1, Int.le_refl _⟩
      · simp only [List.length_dropLast]; omega
      · have hx2 : x ∈ A.free := List.dropLast_subset _ hx
        exact ⟨(h.flt x hx2).1, fun e => hnd.2.2 x hx (A.free.getLastD 0) (List.mem_singleton.2 rfl) e, (h.flt x hx2).2⟩
  obtain ⟨e1, e2, e3, e4, e5, e6, e7, e8⟩ := hs
  have hgen : ∀ x, genOf A' x = genOf A x := fun x => by unfold genOf; rw [e3]
  refine ⟨?_, ?_, fun p hp => ?_, ?_, e5, fun x hx => ?_, fun x b hx => ?_, ?_⟩
  · rw [aput_none_length hg, e2, aput_none_length e1, h.len]
  · rw [e2, aput_none_length e1]; omega
  · rw [hgen, e2, aget_aput]
    rcases mem_aput hp with hp | rfl
    · have := h.tk p hp
      by_cases hx : s = p.2.sl
      · rw [← hx, e1] at this; cases this.1
      · rw [if_neg hx]; exact this
    · rw [if_pos h1.symm, h1]; exact ⟨rfl, h2.symm⟩
  · rw [aput_new hg, List.map_append, List.nodup_append]
    refine ⟨h.nd, by simp, fun x hx y hy => ?_⟩
    obtain ⟨p, hp, rfl⟩ := List.mem_map.1 hx
    have : y = s := by simpa [h1] using hy
    rw [this]
    intro e
    have := (h.tk p hp).1
    rw [e, e1] at this; cases this
  · obtain ⟨g1, g2, g3⟩ := e6 x hx
    rw [e2, aget_aput, if_neg (fun e => g2 e.symm)]
    exact ⟨g1, g3⟩
  · rw [e2, aget_aput] at hx
    by_cases hxs : s = x
    · rw [← hxs]; exact e7
    · rw [if_neg hxs] at hx
      have := h.tlt x b hx; omega
  · rw [e2, aput_new e1, List.map_append, List.nodup_append]
    refine ⟨h.tnd, by simp, fun x hx y hy => ?_⟩
    have : y = s := by simpa using hy
    rw [this]
    exact fun e => aget_none_mem e1 (e ▸ hx)

/-- A cell dropped. -/
theorem InvA.drop {A : ArenaSt} {L : List (Key × Cl)} (h : InvA A L) {k : Key} {z : Cl} (hg : aget L k = some z) : liveA A z.sl z.gen = true ∧ InvA (freedA A z.sl) (adel L k) := by
  obtain ⟨t1, t2⟩ := h.tk _ (aget_mem hg)
  simp only at t1 t2
  refine ⟨by simp [liveA, t1, t2], ?_⟩
  have hl1 := adel_length A.taken z.sl true t1
  have hl2 := adel_length L k z hg
  obtain ⟨l1, l2, e1, e2, -⟩ := aget_cases hg
  have hnd := h.nd
  have hne : ∀ p ∈ adel L k, p.2.sl ≠ z.sl := fun p hp => by
    rw [e2] at hp
    rw [e1] at hnd
    simp only [List.map_append, List.map_cons, List.nodup_append, List.nodup_cons] at hnd
    rcases List.mem_append.1 hp with hp | hp
    · exact hnd.2.2 _ (List.mem_map_of_mem (f := fun p : Key × Cl => p.2.sl) hp) _ (List.mem_cons_self ..)
    · exact fun e => hnd.2.1.1 (e ▸ List.mem_map_of_mem (f := fun p : Key × Cl => p.2.sl) hp)
  refine ⟨?_, ?_, fun p hp => ?_, ?_, ?_, fun x hx => ?_, fun x b hx => ?_, ?_⟩
  · have := h.len; simp only [freedA]; omega
  · have := h.sum; simp only [freedA, List.length_append, List.length_cons, List.length_nil]; omega
  · have hp' := adel_sub.subset hp
    have hn := hne p hp
    have := h.tk p hp'
    refine ⟨?_, ?_⟩
    · simp only [freedA]; rw [aget_adel_ne _ (fun e => hn e.symm)]; exact this.1
    · have hgen : genOf (freedA A z.sl) p.2.sl = genOf A p.2.sl := by
        unfold genOf freedA
        simp only
        rw [aget_aput, if_neg (fun e => hn e.symm)]
      rw [hgen]; exact this.2
  · exact hnd.sublist (adel_sub.map _)
  · simp only [freedA]
    rw [List.nodup_append]
    refine ⟨h.fnd, by simp, fun x hx y hy => ?_⟩
    have : y = z.sl := by simpa using hy
    rw [this]
    intro e
    have := (h.flt x hx).2
    rw [e, t1] at this; cases this
  · simp only [freedA] at hx ⊢
    rcases List.mem_append.1 hx with hx | hx
    · have := h.flt x hx
      have hxz : z.sl ≠ x := fun e => by rw [← e, t1] at this; cases this.2
      exact ⟨this.1, by rw [aget_adel_ne _ hxz]; exact this.2⟩
    · have : x = z.sl := by simpa using hx
      rw [this]
      exact ⟨h.tlt _ _ t1, aget_adel_self h.tnd⟩
  · simp only [freedA] at hx ⊢
    by_cases hxz : z.sl = x
    · rw [← hxz]; exact h.tlt _ _ t1
    · rw [aget_adel_ne _ hxz] at hx
      exact h.tlt x b hx
  · exact h.tnd.sublist (adel_sub.map _)

theorem lock_conv (A : ArenaSt) (L : List (Key × Cl)) (k : Key) (who : Int) (hW : WordsOk L) (hI : InvA A L) (hi : A.fresh ≤ A.room) :
    (refLock A.room (L.map conv) k who).1 = (lockM A L k who).1 ∧ (refLock A.room (L.map conv) k who).2 = (lockM A L k who).2.2.map conv ∧ WordsOk (lockM A L k who).2.2 ∧ InvA (lockM A L k who).2.1 (lockM A L k who).2.2 ∧
      (lockM A L k who).2.1.room = A.room := by
  unfold refLock lockM
  cases hg : aget L k with
  | some z =>
    obtain ⟨i, e1, e2, -⟩ := getR_conv_some hg
    obtain ⟨s, g, l, hs, hz⟩ := hW.get hg
    rw [e1]
    cases l
    · simp only [conv, hz, free_mk hs, stamp_mk hs, lock_mk hs, Bool.not_false, Bool.not_true, Bool.false_eq_true, if_false, if_true]
      refine ⟨trivial, ?_, hW.put ⟨s, g, true, hs, rfl⟩, hI.turn hg rfl rfl, trivial⟩
      rw [e2]
      simp only [conv, stamp_mk hs, gone_mk hs, free_mk hs, Bool.not_true, Bool.not_false]
    · simp only [conv, hz, free_mk hs, stamp_mk hs, Bool.not_true, Bool.not_false, Bool.false_eq_true, if_false, if_true]
      exact ⟨trivial, trivial, hW, hI, trivial⟩
  | none =>
    rw [getR_conv_none hg]
    simp only [List.length_map]
    have hf := hI.full hi
    have h0 : (0 : Nat) < 4611686018427387904 := by decide
    cases ht : takeA A with
    | none =>
      rw [if_pos (hf.1 ht)]
      exact ⟨rfl, rfl, hW, hI, rfl⟩
    | some sa =>
      obtain ⟨s, A'⟩ := sa
      have hn : ¬ A.room ≤ (L.length : Int) := fun h => by rw [hf.2 h] at ht; cases ht
      rw [if_neg hn]
      have hz : lockZ (absentZ 0 true) = mkW 0 true true := by
        have := absent_mk h0 true
        rw [show ((0 : Nat) : Int) = 0 from rfl] at this
        rw [this, lock_mk h0]
      have hroom : A'.room = A.room := by
        unfold takeA at ht
        split at ht
        · split at ht
          · cases ht
          · simp only [Option.some.injEq, Prod.mk.injEq] at ht; obtain ⟨-, rfl⟩ := ht; rfl
        · simp only [Option.some.injEq, Prod.mk.injEq] at ht; obtain ⟨-, rfl⟩ := ht; rfl
      simp only [hz]
      refine ⟨by rw [stamp_mk h0]; rfl, ?_, hW.put ⟨0, true, true, h0, rfl⟩, hI.take hg ht rfl rfl, hroom⟩
      rw [aput_new hg, List.map_append]
      simp only [List.map_cons, List.map_nil, conv, stamp_mk h0, gone_mk h0, free_mk h0, Bool.not_true, Bool.not_false]
      rfl
end Go.Proofs.Cob
