/-
  The program's plain store and the reference's: alike.
-/
import Derived.Test.YtjhpdmiafecdnaaBits
import Derived.Test.YtjhpdmiafecdnaaRefH
namespace Go.Proofs.Cob
open Go Go.RowKit Go.Cob
set_option linter.unusedSimpArgs false
set_option linter.unusedVariables false

def conv (p : Key × Cl) : RC := ⟨p.1, stampZ p.2.wd, !goneB p.2.wd, p.2.text, !freeB p.2.wd, p.2.who⟩

theorem getR_cons (c : RC) (cs : List RC) (k : Key) : getR (c :: cs) k = if c.k = k then some (0, c) else (getR cs k).map fun ic => (ic.1 + 1, ic.2) := by
  unfold getR findR
  rw [List.findIdx?_cons]
  by_cases h : c.k = k
  · simp [h]
  · simp only [h, decide_false, Bool.false_eq_true, if_false]
    cases hf : List.findIdx? (fun c => decide (c.k = k)) cs with
    | none => simp
    | some i =>
      simp only [Option.map_some, Option.bind_some, List.getElem?_cons_succ]
      cases cs[i]? <;> rfl

theorem getR_conv_none {L : List (Key × Cl)} {k : Key} (h : aget L k = none) : getR (L.map conv) k = none := by
  induction L with
  | nil => rfl
  | cons p l ih =>
    rw [aget_cons] at h
    by_cases hp : p.1 = k
    · rw [if_pos hp] at h; cases h
    · rw [if_neg hp] at h
      rw [List.map_cons, getR_cons, if_neg (by exact hp), ih h]
      rfl
theorem getR_conv_some {L : List (Key × Cl)} {k : Key} {z : Cl} (h : aget L k = some z) :
    ∃ i, getR (L.map conv) k = some (i, conv (k, z)) ∧ (∀ z', (aput L k z').map conv = (L.map conv).set i (conv (k, z'))) ∧ (adel L k).map conv = (L.map conv).eraseIdx i := by
  induction L with
  | nil => cases h
  | cons p l ih =>
    rw [aget_cons] at h
    by_cases hp : p.1 = k
    · rw [if_pos hp] at h
      obtain ⟨pk, pz⟩ := p
      simp only at hp
      subst hp
      have hz : pz = z := by simpa using h
      subst hz
      refine ⟨0, ?_, fun z' => ?_, ?_⟩
      · rw [List.map_cons, getR_cons, if_pos (show (conv (pk, pz)).k = pk from rfl)]
      · simp [aput]
      · simp [adel]
    · rw [if_neg hp] at h
      obtain ⟨i, h1, h2, h3⟩ := ih h
      refine ⟨i + 1, ?_, fun z' => ?_, ?_⟩
      · rw [List.map_cons, getR_cons, if_neg (by exact hp), h1]; rfl
      · simp only [aput, if_neg hp, List.map_cons, h2 z', List.set_cons_succ]
      · simp only [adel, if_neg hp, List.map_cons, h3, List.eraseIdx_cons_succ]

theorem read_conv (L : List (Key × Cl)) (k : Key) : refRead (L.map conv) k = readM L k := by
  unfold refRead readM
  cases hg : aget L k with
  | none => rw [getR_conv_none hg]
  | some z =>
    obtain ⟨i, h1, -, -⟩ := getR_conv_some hg
    rw [h1]
    simp only [conv]
    by_cases hf : freeB z.wd = true
    · simp [hf]
    · simp [hf]
theorem holds_conv (L : List (Key × Cl)) (k : Key) (who : Int) : refHolds (L.map conv) k who = holdsM L k who := by
  unfold refHolds holdsM
  cases hg : aget L k with
  | none => rw [getR_conv_none hg]
  | some z =>
    obtain ⟨i, h1, -, -⟩ := getR_conv_some hg
    rw [h1]
    rfl
theorem still_conv (L : List (Key × Cl)) (k : Key) (who vw : Int) (has : Bool) : refStill (L.map conv) k who vw has = stillM L k who vw has := by
  unfold refStill stillM
  cases hg : aget L k with
  | none => rw [getR_conv_none hg]
  | some z =>
    obtain ⟨i, h1, -, -⟩ := getR_conv_some hg
    rw [h1]
    simp only [conv]
    by_cases hf : freeB z.wd = true <;> by_cases hgo : goneB z.wd = true <;> by_cases hw : (z.who != who) = true <;> cases has <;> simp [hf, hgo, hw]

/-- The words of a store are words. -/
def WordsOk (L : List (Key × Cl)) : Prop := ∀ p ∈ L, ∃ s g l, s < 4611686018427387904 ∧ p.2.wd = mkW s g l
theorem WordsOk.get {L : List (Key × Cl)} (h : WordsOk L) {k : Key} {z : Cl} (hg : aget L k = some z) : ∃ s g l, s < 4611686018427387904 ∧ z.wd = mkW s g l := h _ (aget_mem hg)
theorem WordsOk.put {L : List (Key × Cl)} (h : WordsOk L) {k : Key} {z : Cl} (hz : ∃ s g l, s < 4611686018427387904 ∧ z.wd = mkW s g l) : WordsOk (aput L k z) := fun p hp => by
  rcases mem_aput hp with hp | rfl
  · exact h p hp
  · exact hz
theorem WordsOk.del {L : List (Key × Cl)} (h : WordsOk L) {k : Key} : WordsOk (adel L k) := fun p hp => h p (adel_sub.subset hp)

theorem install_conv (L : List (Key × Cl)) (k : Key) (who stamp : Int) (vs : ByteArray) (has : Bool) (hW : WordsOk L) (h0 : 0 ≤ stamp) (h1 : stamp < 18446744073709551616) :
    (refInstall (L.map conv) k who stamp vs has).1 = (installM L k who stamp vs has).1 ∧ (refInstall (L.map conv) k who stamp vs has).2 = (installM L k who stamp vs has).2.map conv ∧ WordsOk (installM L k who stamp vs has).2 := by
  unfold refInstall installM
  rw [holds_conv]
  cases holdsM L k who
  · exact ⟨rfl, rfl, hW⟩
  · simp only [if_true]
    cases hg : aget L k with
    | none => rw [getR_conv_none hg]; exact ⟨rfl, rfl, hW⟩
    | some z =>
      obtain ⟨i, e1, e2, -⟩ := getR_conv_some hg
      rw [e1]
      simp only
      have hb : badM stamp z.wd vs has = (decide (4611686018427387904 ≤ stamp) || decide (stamp ≤ (conv (k, z)).wd) || (!vs.toList.isEmpty && !has)) := by
        unfold badM; rw [stamp_bad stamp h0 h1]; rfl
      rw [← hb]
      cases hbb : badM stamp z.wd vs has
      · simp only [Bool.false_eq_true, if_false]
        have hlt : stamp < 4611686018427387904 := by
          rw [hb] at hbb
          simp only [Bool.or_eq_false_iff, decide_eq_false_iff_not] at hbb
          omega
        obtain ⟨s, rfl⟩ := Int.eq_ofNat_of_zero_le h0
        have hs : s < 4611686018427387904 := by omega
        refine ⟨by first | rfl | trivial, ?_, hW.put ⟨s, !has, false, hs, absent_mk hs _⟩⟩
        rw [e2]
        have : conv (k, { z with wd := absentZ (s : Int) (!has), text := vs }) = { conv (k, z) with wd := (s : Int), has := has, text := vs, locked := false } := by
          simp only [conv, absent_mk hs, stamp_mk hs, gone_mk hs, free_mk hs, Bool.not_not, Bool.not_false, Bool.not_true]
        rw [this]
        try rfl
      · simp only [if_true]
        exact ⟨by first | trivial | rfl, by first | trivial | rfl, hW⟩
end Go.Proofs.Cob
