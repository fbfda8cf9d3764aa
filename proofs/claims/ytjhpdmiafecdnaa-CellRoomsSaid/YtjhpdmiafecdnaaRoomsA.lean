/-
  CellRooms, the plain law: what the store is at each step.
-/
import Derived.Test.YtjhpdmiafecdnaaPlainB
import Derived.Test.YtjhpdmiafecdnaaHeldB
import Derived.Test.YtjhpdmiafecdnaaCellJ
namespace Go.Proofs.Cob
open Go Go.RowKit Go.Cob
set_option linter.unusedSimpArgs false
set_option linter.unusedVariables false

abbrev keyN (j : Int) : Key := ⟨1, j, 0, ⟨#[]⟩⟩
abbrev keysUpto (i : Nat) : List Key := (List.range i).map fun (j : Nat) => keyN j
theorem keysUpto_not (i : Nat) : keyN i ∉ keysUpto i := by
  intro h
  obtain ⟨j, hj, e⟩ := List.mem_map.1 h
  simp at hj
  simp only [Key.mk.injEq] at e
  omega
theorem keysUpto_nodup (i : Nat) : (keysUpto i).Nodup := by
  induction i with
  | zero => exact List.nodup_nil
  | succ i ih =>
    have e : keysUpto (i + 1) = keysUpto i ++ [keyN i] := by simp [keysUpto, List.range_succ]
    rw [e, List.nodup_append]
    refine ⟨ih, by simp, fun a ha b hb e => ?_⟩
    have : b = keyN i := by simpa using hb
    subst this
    exact keysUpto_not i (e ▸ ha)
/-- All cells are present, unlocked, at stamp 5. -/
def AllFive (L : List (Key × Cl)) : Prop := ∀ p ∈ L, p.2.wd = 5
theorem five_get {L : List (Key × Cl)} (h : AllFive L) {k : Key} {z : Cl} (hg : aget L k = some z) : z.wd = 5 := h _ (aget_mem hg)
theorem f5 : freeB 5 = true := by kernel_rfl
theorem g5 : goneB 5 = false := by kernel_rfl
theorem s5 : stampZ 5 = 5 := by kernel_rfl

theorem aput_last {α β : Type} [DecidableEq α] {l : List (α × β)} {k : α} (h : aget l k = none) (v v' : β) : aput (l ++ [(k, v)]) k v' = l ++ [(k, v')] := by
  induction l with
  | nil => simp [aput]
  | cons q l ih =>
    rw [aget_cons] at h
    by_cases hq : q.1 = k
    · rw [if_pos hq] at h; cases h
    · rw [if_neg hq] at h
      simp only [List.cons_append, aput]
      rw [if_neg hq, ih h]
/-- The filling's state behind i rounds. -/
structure Fill (n : Nat) (i : Nat) (A : ArenaSt) (L : List (Key × Cl)) : Prop where
  iv : InvA A L
  room : A.room = n
  keys : L.map (·.1) = keysUpto i
  five : AllFive L
theorem Fill.len {n i : Nat} {A : ArenaSt} {L : List (Key × Cl)} (h : Fill n i A L) : L.length = i := by
  have := congrArg List.length h.keys
  simpa using this
theorem Fill.empty (n : Nat) : Fill n 0 ⟨n, 0, [], [], []⟩ [] := ⟨InvA.empty _, rfl, rfl, by intro p hp; cases hp⟩
theorem Fill.none {n i : Nat} {A : ArenaSt} {L : List (Key × Cl)} (h : Fill n i A L) : aget L (keyN i) = none := aget_none_of (by rw [h.keys]; exact keysUpto_not i)
theorem Fill.step {n i : Nat} {A : ArenaSt} {L : List (Key × Cl)} (h : Fill n i A L) (hi : i < n) (hr : A.fresh ≤ A.room) :
    ∃ A' L1 L', lockM A L (keyN i) 1 = ((0, 0), A', L1) ∧ installM L1 (keyN i) 1 5 ⟨#[120]⟩ true = (0, L') ∧ Fill n (i + 1) A' L' := by
  have hn := h.none
  have hfull := h.iv.full hr
  cases ht : takeA A with
  | none =>
    have := hfull.1 ht
    rw [h.room, h.len] at this
    omega
  | some sa =>
    obtain ⟨s, A'⟩ := sa
    have e : lockM A L (keyN i) 1 = ((stampZ (lockZ (absentZ 0 true)), 0), A', aput L (keyN i) ⟨s, genOf A s, lockZ (absentZ 0 true), ⟨#[]⟩, 1⟩) := by
      unfold lockM; rw [hn]; simp only [ht]
    have hg : aget (aput L (keyN i) ⟨s, genOf A s, lockZ (absentZ 0 true), ⟨#[]⟩, 1⟩) (keyN i) = some ⟨s, genOf A s, lockZ (absentZ 0 true), ⟨#[]⟩, 1⟩ := by rw [aget_aput, if_pos rfl]
    have hi2 : installM (aput L (keyN i) ⟨s, genOf A s, lockZ (absentZ 0 true), ⟨#[]⟩, 1⟩) (keyN i) 1 5 ⟨#[120]⟩ true = (0, aput (aput L (keyN i) ⟨s, genOf A s, lockZ (absentZ 0 true), ⟨#[]⟩, 1⟩) (keyN i) ⟨s, genOf A s, absentZ 5 false, ⟨#[120]⟩, 1⟩) := by
      have h1 : holdsM (aput L (keyN i) ⟨s, genOf A s, lockZ (absentZ 0 true), ⟨#[]⟩, 1⟩) (keyN i) 1 = true := by
        unfold holdsM
        rw [hg]
        have : freeB (lockZ (absentZ 0 true)) = false := by kernel_rfl
        simp [this]
      have h2 : badM 5 (lockZ (absentZ 0 true)) ⟨#[120]⟩ true = false := by kernel_rfl
      unfold installM
      rw [h1, if_pos rfl, hg]
      simp only [h2]
      rfl
    have hroom : A'.room = A.room := by
      unfold takeA at ht
      split at ht
      · split at ht
        · cases ht
        · simp only [Option.some.injEq, Prod.mk.injEq] at ht; obtain ⟨-, rfl⟩ := ht; rfl
      · simp only [Option.some.injEq, Prod.mk.injEq] at ht; obtain ⟨-, rfl⟩ := ht; rfl
    refine ⟨A', _, _, e.trans (by rw [show stampZ (lockZ (absentZ 0 true)) = 0 from by kernel_rfl]), hi2, ?_⟩
    have hv := (h.iv.take hn ht (z := ⟨s, genOf A s, lockZ (absentZ 0 true), ⟨#[]⟩, 1⟩) rfl rfl)
    refine ⟨hv.turn hg rfl rfl, hroom.trans h.room, ?_, ?_⟩
    · rw [aput_keys hg, aput_new hn, List.map_append, h.keys]
      simp [keysUpto, List.range_succ]
    · intro p hp
      rw [aput_new hn] at hp
      have e3 := aput_last hn (⟨s, genOf A s, lockZ (absentZ 0 true), ⟨#[]⟩, 1⟩ : Cl) ⟨s, genOf A s, absentZ 5 false, ⟨#[120]⟩, 1⟩
      rw [e3] at hp
      rcases List.mem_append.1 hp with hp | hp
      · exact h.five p hp
      · have : p = (keyN i, ⟨s, genOf A s, absentZ 5 false, ⟨#[120]⟩, 1⟩) := by simpa using hp
        subst this
        show absentZ 5 false = 5
        kernel_rfl
theorem Fill.full {n : Nat} {A : ArenaSt} {L : List (Key × Cl)} (h : Fill n n A L) (hr : A.fresh ≤ A.room) : lockM A L (keyN n) 1 = ((0, 50), A, L) := by
  have ht := (h.iv.full hr).2 (by rw [h.room, h.len]; exact Int.le_refl _)
  unfold lockM
  rw [h.none]
  simp only [ht]

/-- The emptying's state. -/
structure Left (left : Nat) (A : ArenaSt) (L : List (Key × Cl)) : Prop where
  iv : InvA A L
  nd : (L.map (·.1)).Nodup
  five : AllFive L
  len : L.length = left
theorem Fill.left {n : Nat} {A : ArenaSt} {L : List (Key × Cl)} (h : Fill n n A L) : Left n A L := ⟨h.iv, by rw [h.keys]; exact keysUpto_nodup n, h.five, h.len⟩
theorem Left.taken {left : Nat} {A : ArenaSt} {L : List (Key × Cl)} (h : Left left A L) : A.taken.length = left := by rw [← h.iv.len]; exact h.len
theorem Left.keysLen {left : Nat} {A : ArenaSt} {L : List (Key × Cl)} (h : Left left A L) : (keysM L).length = left := by
  unfold keysM
  rw [(sortK_perm _).length_eq, List.length_map]
  have : (L.filter fun x => !goneB x.2.wd) = L := List.filter_eq_self.2 (fun p hp => by rw [h.five p hp, g5]; rfl)
  rw [this]
  exact h.len

section
variable {left : Nat} {A : ArenaSt} {L : List (Key × Cl)} {k : Key} {z : Cl}
theorem Left.handle (hg : aget L k = some z) : handleM L k = ((z.sl, z.gen), true) := by unfold handleM; rw [hg]
theorem Left.read (h : Left left A L) (hg : aget L k = some z) : readM L k = (seenV 5 z.text true, 0) := by
  unfold readM
  rw [hg]
  simp only [five_get h.five hg, f5, if_true, s5, g5]
  rfl
theorem Left.stay (h : Left left A L) (hg : aget L k = some z) : freeM A L [k] = (0, A, L) := by
  unfold freeM
  simp only [List.foldl_cons, List.foldl_nil]
  unfold fr1
  simp only [hg, five_get h.five hg, g5]
  rfl
theorem Left.live (h : Left left A L) (hg : aget L k = some z) : liveA A z.sl z.gen = true := (h.iv.drop hg).1
def lockedC (z : Cl) : Cl := ⟨z.sl, z.gen, lockZ 5, z.text, 2⟩
def goneC (z : Cl) : Cl := ⟨z.sl, z.gen, absentZ 6 true, ⟨#[]⟩, 2⟩
theorem Left.lock (h : Left left A L) (hg : aget L k = some z) : lockM A L k 2 = ((5, 0), A, aput L k (lockedC z)) := by
  unfold lockM
  rw [hg]
  simp only [five_get h.five hg, f5, if_true]
  have : stampZ (lockZ 5) = 5 := by kernel_rfl
  rw [this]
  rfl
theorem Left.install (hg : aget L k = some z) : installM (aput L k (lockedC z)) k 2 6 ⟨#[]⟩ false = (0, aput (aput L k (lockedC z)) k (goneC z)) := by
  have h0 : aget (aput L k (lockedC z)) k = some (lockedC z) := by rw [aget_aput, if_pos rfl]
  have h1 : holdsM (aput L k (lockedC z)) k 2 = true := by
    unfold holdsM
    rw [h0]
    have : freeB (lockZ 5) = false := by kernel_rfl
    simp [lockedC, this]
  have h2 : badM 6 (lockZ 5) ⟨#[]⟩ false = false := by kernel_rfl
  unfold installM
  rw [h1, if_pos rfl, h0]
  simp only [lockedC, h2]
  rfl
theorem adel_aput {α β : Type} [DecidableEq α] (l : List (α × β)) (k : α) (v v0 : β) (h : aget l k = some v0) : adel (aput l k v) k = adel l k := by
  induction l with
  | nil => simp [aget] at h
  | cons q l ih =>
    rw [aget_cons] at h
    by_cases hq : q.1 = k
    · simp only [aput, adel, if_pos hq]
      simp [adel]
    · rw [if_neg hq] at h
      simp only [aput, adel, if_neg hq]
      rw [ih h]
theorem gone_len (hg : aget L k = some z) : (aput (aput L k (lockedC z)) k (goneC z)).length = L.length := by
  rw [aput_some_length (v0 := lockedC z) (by rw [aget_aput, if_pos rfl]), aput_some_length hg]
theorem Left.free (h : Left left A L) (hg : aget L k = some z) : freeM A (aput (aput L k (lockedC z)) k (goneC z)) [k, k] = (1, freedA A z.sl, adel L k) := by
  have h0 : aget (aput (aput L k (lockedC z)) k (goneC z)) k = some (goneC z) := by rw [aget_aput, if_pos rfl]
  have h1 : fr1 (0, A, aput (aput L k (lockedC z)) k (goneC z)) k = (1, freedA A z.sl, adel L k) := by
    unfold fr1
    have e1 : goneB (absentZ 6 true) = true := by kernel_rfl
    have e2 : freeB (absentZ 6 true) = true := by kernel_rfl
    have e3 : dropM A (aput (aput L k (lockedC z)) k (goneC z)) k = (freedA A z.sl, adel L k) := by
      unfold dropM
      rw [h0]
      have hl0 : liveA A z.sl z.gen = true := h.live hg
      have hl : liveA A (goneC z).sl (goneC z).gen = true := hl0
      simp only [hl, if_true]
      rw [adel_aput _ _ _ (lockedC z) (by rw [aget_aput, if_pos rfl]), adel_aput _ _ _ z hg]
      rfl
    simp only [h0, e3]
    simp [goneC, e1, e2]
  have h2 : fr1 (1, freedA A z.sl, adel L k) k = (1, freedA A z.sl, adel L k) := by
    unfold fr1
    simp only [aget_adel_self h.nd]
  unfold freeM
  simp only [List.foldl_cons, List.foldl_nil]
  rw [h1, h2]
theorem Left.dead (h : Left left A L) (hg : aget L k = some z) : liveA (freedA A z.sl) z.sl z.gen = false := by
  unfold liveA freedA
  simp only [aget_adel_self h.iv.tnd]
  rfl
theorem Left.next (h : Left left A L) (hg : aget L k = some z) : 0 < left ∧ Left (left - 1) (freedA A z.sl) (adel L k) := by
  have hl := adel_length L k z hg
  have := h.len
  refine ⟨by omega, (h.iv.drop hg).2, h.nd.sublist (adel_sub.map _), fun p hp => h.five p (adel_sub.subset hp), by omega⟩
theorem Left.gone_taken (h : Left left A L) : A.taken.length = left := h.taken
end
end Go.Proofs.Cob
