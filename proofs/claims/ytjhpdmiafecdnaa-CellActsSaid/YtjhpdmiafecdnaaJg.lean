/-
  CellRooms, the plain law: what the store is at each step. The reference's store (layer 9): Unlock. The plain stores agree: Unlock, Free. One act on both stores: Unlock, Free. Keys put into a list in order, one by one: they are the sorted ones. The reference's store (layer 9): Keys. Two slices of keys: are they the same?
-/
import Derived.Test.YtjhpdmiafecdnaaJe
import Derived.Test.YtjhpdmiafecdnaaJf
import Derived.Test.YtjhpdmiafecdnaaJd
import Derived.Test.YtjhpdmiafecdnaaJc
namespace Go.Proofs.Cob
open Go Go.RowKit Go.Cob
set_option linter.unusedSimpArgs false
set_option linter.unusedVariables false

abbrev keyN (j : Int) : Key := ⟨1, j, 0, ⟨#[]⟩⟩
abbrev keysUpto (i : Nat) : List Key := (List.range i).map fun (j : Nat) => keyN j
theorem keysUpto_not (i : Nat) : keyN i ∉ keysUpto i := by
  intro h
  obtain ⟨j, hj, e⟩ := List.mem_map.1 h
  simp at hj
  simp only [Key.mk.injEq] at e
  omega
theorem keysUpto_nodup (i : Nat) : (keysUpto i).Nodup := by
  induction i with
  | zero => exact List.nodup_nil
  | succ i ih =>
    have e : keysUpto (i + 1) = keysUpto i ++ [keyN i] := by simp [keysUpto, List.range_succ]
    rw [e, List.nodup_append]
    refine ⟨ih, by simp, fun a ha b hb e => ?_⟩
    have : b = keyN i := by simpa using hb
    subst this
    exact keysUpto_not i (e ▸ ha)
/-- All cells are present, unlocked, at stamp 5. -/
def AllFive (L : List (Key × Cl)) : Prop := ∀ p ∈ L, p.2.wd = 5
theorem five_get {L : List (Key × Cl)} (h : AllFive L) {k : Key} {z : Cl} (hg : aget L k = some z) : z.wd = 5 := h _ (aget_mem hg)
theorem f5 : freeB 5 = true := by kernel_rfl
theorem g5 : goneB 5 = false := by kernel_rfl
theorem s5 : stampZ 5 = 5 := by kernel_rfl

theorem aput_last {α β : Type} [DecidableEq α] {l : List (α × β)} {k : α} (h : aget l k = none) (v v' : β) : aput (l ++ [(k, v)]) k v' = l ++ [(k, v')] := by
  induction l with
  | nil => simp [aput]
  | cons q l ih =>
    rw [aget_cons] at h
    by_cases hq : q.1 = k
    · rw [if_pos hq] at h; cases h
    · rw [if_neg hq] at h
      simp only [List.cons_append, aput]
      rw [if_neg hq, ih h]
/-- The filling's state behind i rounds. -/
structure Fill (n : Nat) (i : Nat) (A : ArenaSt) (L : List (Key × Cl)) : Prop where
  iv : InvA A L
  room : A.room = n
  keys : L.map (·.1) = keysUpto i
  five : AllFive L
theorem Fill.len {n i : Nat} {A : ArenaSt} {L : List (Key × Cl)} (h : Fill n i A L) : L.length = i := by
  have := congrArg List.length h.keys
  simpa using this
theorem Fill.empty (n : Nat) : Fill n 0 ⟨n, 0, [], [], []⟩ [] := ⟨InvA.empty _, rfl, rfl, by intro p hp; cases hp⟩
theorem Fill.none {n i : Nat} {A : ArenaSt} {L : List (Key × Cl)} (h : Fill n i A L) : aget L (keyN i) = none := aget_none_of (by rw [h.keys]; exact keysUpto_not i)
theorem Fill.step {n i : Nat} {A : ArenaSt} {L : List (Key × Cl)} (h : Fill n i A L) (hi : i < n) (hr : A.fresh ≤ A.room) :
    ∃ A' L1 L', lockM A L (keyN i) 1 = ((0, 0), A', L1) ∧ installM L1 (keyN i) 1 5 ⟨#[120]⟩ true = (0, L') ∧ Fill n (i + 1) A' L' := by
  have hn := h.none
  have hfull := h.iv.full hr
  cases ht : takeA A with
  | none =>
    have := hfull.1 ht
    rw [h.room, h.len] at this
    omega
  | some sa =>
    obtain ⟨s, A'⟩ := sa
    have e : lockM A L (keyN i) 1 = ((stampZ (lockZ (absentZ 0 true)), 0), A', aput L (keyN i) ⟨s, genOf A s, lockZ (absentZ 0 true), ⟨#[]⟩, 1⟩) := by
      unfold lockM; rw [hn]; simp only [ht]
    have hg : aget (aput L (keyN i) ⟨s, genOf A s, lockZ (absentZ 0 true), ⟨#[]⟩, 1⟩) (keyN i) = some ⟨s, genOf A s, lockZ (absentZ 0 true), ⟨#[]⟩, 1⟩ := by rw [aget_aput, if_pos rfl]
    have hi2 : installM (aput L (keyN i) ⟨s, genOf A s, lockZ (absentZ 0 true), ⟨#[]⟩, 1⟩) (keyN i) 1 5 ⟨#[120]⟩ true = (0, aput (aput L (keyN i) ⟨s, genOf A s, lockZ (absentZ 0 true), ⟨#[]⟩, 1⟩) (keyN i) ⟨s, genOf A s, absentZ 5 false, ⟨#[120]⟩, 1⟩) := by
      have h1 : holdsM (aput L (keyN i) ⟨s, genOf A s, lockZ (absentZ 0 true), ⟨#[]⟩, 1⟩) (keyN i) 1 = true := by
        unfold holdsM
        rw [hg]
        have : freeB (lockZ (absentZ 0 true)) = false := by kernel_rfl
        simp [this]
      have h2 : badM 5 (lockZ (absentZ 0 true)) ⟨#[120]⟩ true = false := by kernel_rfl
      unfold installM
      rw [h1, if_pos rfl, hg]
      simp only [h2]
      rfl
    have hroom : A'.room = A.room := by
      unfold takeA at ht
      split at ht
      · split at ht
        · cases ht
        · simp only [Option.some.injEq, Prod.mk.injEq] at ht; obtain ⟨-, rfl⟩ := ht; rfl
      · simp only [Option.some.injEq, Prod.mk.injEq] at ht; obtain ⟨-, rfl⟩ := ht; rfl
    refine ⟨A', _, _, e.trans (by rw [show stampZ (lockZ (absentZ 0 true)) = 0 from by kernel_rfl]), hi2, ?_⟩
    have hv := (h.iv.take hn ht (z := ⟨s, genOf A s, lockZ (absentZ 0 true), ⟨#[]⟩, 1⟩) rfl rfl)
    refine ⟨hv.turn hg rfl rfl, hroom.trans h.room, ?_, ?_⟩
    · rw [aput_keys hg, aput_new hn, List.map_append, h.keys]
      simp [keysUpto, List.range_succ]
    · intro p hp
      rw [aput_new hn] at hp
      have e3 := aput_last hn (⟨s, genOf A s, lockZ (absentZ 0 true), ⟨#[]⟩, 1⟩ : Cl) ⟨s, genOf A s, absentZ 5 false, ⟨#[120]⟩, 1⟩
      rw [e3] at hp
      rcases List.mem_append.1 hp with hp | hp
      · exact h.five p hp
      · have : p = (keyN i, ⟨s, genOf A s, absentZ 5 false, ⟨#[120]⟩, 1⟩) := by simpa using hp
        subst this
        show absentZ 5 false = 5
        kernel_rfl
theorem Fill.full {n : Nat} {A : ArenaSt} {L : List (Key × Cl)} (h : Fill n n A L) (hr : A.fresh ≤ A.room) : lockM A L (keyN n) 1 = ((0, 50), A, L) := by
  have ht := (h.iv.full hr).2 (by rw [h.room, h.len]; exact Int.le_refl _)
  unfold lockM
  rw [h.none]
  simp only [ht]

/-- The emptying's state. -/
structure Left (left : Nat) (A : ArenaSt) (L : List (Key × Cl)) : Prop where
  iv : InvA A L
  nd : (L.map (·.1)).Nodup
  five : AllFive L
  len : L.length = left
theorem Fill.left {n : Nat} {A : ArenaSt} {L : List (Key × Cl)} (h : Fill n n A L) : Left n A L := ⟨h.iv, by rw [h.keys]; exact keysUpto_nodup n, h.five, h.len⟩
theorem Left.taken {left : Nat} {A : ArenaSt} {L : List (Key × Cl)} (h : Left left A L) : A.taken.length = left := by rw [← h.iv.len]; exact h.len
theorem Left.keysLen {left : Nat} {A : ArenaSt} {L : List (Key × Cl)} (h : Left left A L) : (keysM L).length = left := by
  unfold keysM
  rw [(sortK_perm _).length_eq, List.length_map]
  have : (L.filter fun x => !goneB x.2.wd) = L := List.filter_eq_self.2 (fun p hp => by rw [h.five p hp, g5]; rfl)
  rw [this]
  exact h.len

section
variable {left : Nat} {A : ArenaSt} {L : List (Key × Cl)} {k : Key} {z : Cl}
theorem Left.handle (hg : aget L k = some z) : handleM L k = ((z.sl, z.gen), true) := by unfold handleM; rw [hg]
theorem Left.read (h : Left left A L) (hg : aget L k = some z) : readM L k = (seenV 5 z.text true, 0) := by
  unfold readM
  rw [hg]
  simp only [five_get h.five hg, f5, if_true, s5, g5]
  rfl
theorem Left.stay (h : Left left A L) (hg : aget L k = some z) : freeM A L [k] = (0, A, L) := by
  unfold freeM
  simp only [List.foldl_cons, List.foldl_nil]
  unfold fr1
  simp only [hg, five_get h.five hg, g5]
  rfl
theorem Left.live (h : Left left A L) (hg : aget L k = some z) : liveA A z.sl z.gen = true := (h.iv.drop hg).1
def lockedC (z : Cl) : Cl := ⟨z.sl, z.gen, lockZ 5, z.text, 2⟩
def goneC (z : Cl) : Cl := ⟨z.sl, z.gen, absentZ 6 true, ⟨#[]⟩, 2⟩
theorem Left.lock (h : Left left A L) (hg : aget L k = some z) : lockM A L k 2 = ((5, 0), A, aput L k (lockedC z)) := by
  unfold lockM
  rw [hg]
  simp only [five_get h.five hg, f5, if_true]
  have : stampZ (lockZ 5) = 5 := by kernel_rfl
  rw [this]
  rfl
theorem Left.install (hg : aget L k = some z) : installM (aput L k (lockedC z)) k 2 6 ⟨#[]⟩ false = (0, aput (aput L k (lockedC z)) k (goneC z)) := by
  have h0 : aget (aput L k (lockedC z)) k = some (lockedC z) := by rw [aget_aput, if_pos rfl]
  have h1 : holdsM (aput L k (lockedC z)) k 2 = true := by
    unfold holdsM
    rw [h0]
    have : freeB (lockZ 5) = false := by kernel_rfl
    simp [lockedC, this]
  have h2 : badM 6 (lockZ 5) ⟨#[]⟩ false = false := by kernel_rfl
  unfold installM
  rw [h1, if_pos rfl, h0]
  simp only [lockedC, h2]
  rfl
theorem adel_aput {α β : Type} [DecidableEq α] (l : List (α × β)) (k : α) (v v0 : β) (h : aget l k = some v0) : adel (aput l k v) k = adel l k := by
  induction l with
  | nil => simp [aget] at h
  | cons q l ih =>
    rw [aget_cons] at h
    by_cases hq : q.1 = k
    · simp only [aput, adel, if_pos hq]
      simp [adel]
    · rw [if_neg hq] at h
      simp only [aput, adel, if_neg hq]
      rw [ih h]
theorem gone_len (hg : aget L k = some z) : (aput (aput L k (lockedC z)) k (goneC z)).length = L.length := by
  rw [aput_some_length (v0 := lockedC z) (by rw [aget_aput, if_pos rfl]), aput_some_length hg]
theorem Left.free (h : Left left A L) (hg : aget L k = some z) : freeM A (aput (aput L k (lockedC z)) k (goneC z)) [k, k] = (1, freedA A z.sl, adel L k) := by
  have h0 : aget (aput (aput L k (lockedC z)) k (goneC z)) k = some (goneC z) := by rw [aget_aput, if_pos rfl]
  have h1 : fr1 (0, A, aput (aput L k (lockedC z)) k (goneC z)) k = (1, freedA A z.sl, adel L k) := by
    unfold fr1
    have e1 : goneB (absentZ 6 true) = true := by kernel_rfl
    have e2 : freeB (absentZ 6 true) = true := by kernel_rfl
    have e3 : dropM A (aput (aput L k (lockedC z)) k (goneC z)) k = (freedA A z.sl, adel L k) := by
      unfold dropM
      rw [h0]
      have hl0 : liveA A z.sl z.gen = true := h.live hg
      have hl : liveA A (goneC z).sl (goneC z).gen = true := hl0
      simp only [hl, if_true]
      rw [adel_aput _ _ _ (lockedC z) (by rw [aget_aput, if_pos rfl]), adel_aput _ _ _ z hg]
      rfl
    simp only [h0, e3]
    simp [goneC, e1, e2]
  have h2 : fr1 (1, freedA A z.sl, adel L k) k = (1, freedA A z.sl, adel L k) := by
    unfold fr1
    simp only [aget_adel_self h.nd]
  unfold freeM
  simp only [List.foldl_cons, List.foldl_nil]
  rw [h1, h2]
theorem Left.dead (h : Left left A L) (hg : aget L k = some z) : liveA (freedA A z.sl) z.sl z.gen = false := by
  unfold liveA freedA
  simp only [aget_adel_self h.iv.tnd]
  rfl
theorem Left.next (h : Left left A L) (hg : aget L k = some z) : 0 < left ∧ Left (left - 1) (freedA A z.sl) (adel L k) := by
  have hl := adel_length L k z hg
  have := h.len
  refine ⟨by omega, (h.iv.drop hg).2, h.nd.sublist (adel_sub.map _), fun p hp => h.five p (adel_sub.subset hp), by omega⟩
theorem Left.gone_taken (h : Left left A L) : A.taken.length = left := h.taken
end
end Go.Proofs.Cob

namespace Go.Proofs.Cob
open Go Go.RowKit Go.Cob
set_option linter.unusedSimpArgs false
set_option linter.unusedVariables false

def okR (cs : List RC) (who : Int) : List Key → List Key → Bool
  | _, [] => true
  | seen, k :: ks => refHolds cs k who && !decide (k ∈ seen) && okR cs who (seen ++ [k]) ks
def refUnl1 (cs : List RC) (k : Key) : List RC :=
  match getR cs k with
  | none => cs
  | some (i, c) => if c.wd == 0 then (cs.set i { c with locked := false }).eraseIdx i else cs.set i { c with locked := false }
def refUnlock (cs : List RC) (who : Int) (ks : List Key) : Int × List RC := if okR cs who [] ks then (0, ks.foldl refUnl1 cs) else (51, cs)

theorem okR_spec {cs : List RC} {who : Int} : ∀ {ks seen : List Key}, okR cs who seen ks = true → ks.Nodup ∧ (∀ k ∈ ks, refHolds cs k who = true ∧ k ∉ seen)
  | [], seen, _ => ⟨.nil, by simp⟩
  | k :: ks, seen, h => by
    simp only [okR, Bool.and_eq_true, Bool.not_eq_true', decide_eq_false_iff_not] at h
    obtain ⟨⟨h1, h2⟩, h3⟩ := h
    obtain ⟨i1, i2⟩ := okR_spec h3
    refine ⟨List.nodup_cons.2 ⟨fun hk => (i2 k hk).2 (by simp), i1⟩, fun x hx => ?_⟩
    rcases List.mem_cons.1 hx with rfl | hx
    · exact ⟨h1, h2⟩
    · exact ⟨(i2 x hx).1, fun hs => (i2 x hx).2 (by simp [hs])⟩
theorem refUnl1_length (cs : List RC) (k : Key) : (refUnl1 cs k).length ≤ cs.length := by
  unfold refUnl1
  cases getR cs k with
  | none => simp
  | some ic =>
    simp only
    split
    · have := List.length_eraseIdx_le (cs.set ic.1 { ic.2 with locked := false }) ic.1
      simpa using this
    · simp

theorem getR_iff (cs : List RC) (k : Key) : (∃ ic, getR cs k = some ic) ↔ ∃ c ∈ cs, c.k = k := by
  induction cs with
  | nil => simp [getR, findR]
  | cons c cs ih =>
    rw [getR_cons]
    by_cases h : c.k = k
    · rw [if_pos h]; simp [h]
    · rw [if_neg h]
      constructor
      · rintro ⟨ic, hic⟩
        obtain ⟨x, hx, -⟩ := Option.map_eq_some_iff.1 hic
        obtain ⟨c', hc', hk⟩ := ih.1 ⟨x, hx⟩
        exact ⟨c', List.mem_cons_of_mem _ hc', hk⟩
      · rintro ⟨c', hc', hk⟩
        rcases List.mem_cons.1 hc' with rfl | hc'
        · exact absurd hk h
        · obtain ⟨ic, hic⟩ := ih.2 ⟨c', hc', hk⟩
          exact ⟨_, by rw [hic]; rfl⟩
theorem split_at {α : Type} {l : List α} {i : Nat} {x : α} (h : l[i]? = some x) : l = l.take i ++ x :: l.drop (i + 1) := by rw [← drop_cons h, List.take_append_drop]
theorem set_split {α : Type} {l : List α} {i : Nat} {x : α} (h : l[i]? = some x) (y : α) : l.set i y = l.take i ++ y :: l.drop (i + 1) := by
  rw [List.set_eq_take_append_cons_drop, if_pos (List.getElem?_eq_some_iff.1 h).1]
theorem erase_set {α : Type} {l : List α} {i : Nat} {x : α} (h : l[i]? = some x) (y : α) : (l.set i y).eraseIdx i = l.take i ++ l.drop (i + 1) := by
  have hl : (l.take i).length = i := by have := (List.getElem?_eq_some_iff.1 h).1; simp; omega
  rw [set_split h, List.eraseIdx_append_of_length_le (by omega), hl, Nat.sub_self]
  rfl
/-- Other keys stay. -/
theorem refUnl1_keeps {cs : List RC} {k k' : Key} (hne : k ≠ k') (h : ∃ ic, getR cs k' = some ic) : ∃ ic, getR (refUnl1 cs k) k' = some ic := by
  unfold refUnl1
  cases hg : getR cs k with
  | none => exact h
  | some ic =>
    obtain ⟨i, c⟩ := ic
    obtain ⟨-, hx, hck⟩ := getR_some hg
    obtain ⟨c', hc', hk'⟩ := (getR_iff cs k').1 h
    rw [split_at hx] at hc'
    have hc2 : c' ∈ cs.take i ∨ c' ∈ cs.drop (i + 1) := by
      rcases List.mem_append.1 hc' with h | h
      · exact .inl h
      · rcases List.mem_cons.1 h with rfl | h
        · exact absurd (hck.symm.trans hk') hne
        · exact .inr h
    refine (getR_iff _ k').2 ⟨c', ?_, hk'⟩
    simp only
    split
    · rw [erase_set hx]
      rcases hc2 with h | h <;> simp [h]
    · rw [set_split hx]
      rcases hc2 with h | h <;> simp [h]
set_option maxRecDepth 4000 in
set_option maxHeartbeats 6400000 in
theorem refUnlock_any (r : Nat) (room : Int) (cs : List RC) (G : Nat → Prop) (who : Int) (fa : Option Addr) (n cap : Nat) (ks : List Key) (w : World) (h : RefM w r room cs G) (hG : ∀ b, w.heap.size ≤ b → G b) (hb : cs.length < 1000000000000)
    (hk : KeysIn w fa ks) (hfa : ks = [] ∨ ∀ a, fa = some a → ¬ G a.block) (hn : n = ks.length) (hcap : n ≤ cap) (hbn : n < 4611686018427387904) :
    Calls Try.prog 125 #[.pointer (some ⟨r, 0, none⟩), .int .i64 who, .slice fa n cap] w fun e w' => e = .returned (.int .i64 (refUnlock cs who ks).1) ∧ ∃ p : Ch G w, w' = p.w ∧ RefM p.w r room (refUnlock cs who ks).2 G := by
  have HN : Hid (n = ks.length) := hn
  clear hn
  go_enter Try.func125, Try.ntmps125
  go_wp2_with fail
  go_loopw [7] (fun v w' => (∃ p : Ext w, w' = p.w) ∧ ∃ i : Nat, v = .int .i64 i ∧ i ≤ n ∧ okR cs who (ks.take i) (ks.drop i) = okR cs who [] ks) (fun v _ => n - (intOf v).toNat)
  case atStart => exact ⟨⟨Ch.refl NoS _, rfl⟩, 0, rfl, by omega, rfl⟩
  case round =>
    obtain ⟨⟨p, rfl⟩, i, rfl, hi, hne⟩ := hrel
    have Hne : Hid (okR cs who (ks.take i) (ks.drop i) = okR cs who [] ks) := hne
    clear hne
    by_cases h1 : i < n
    · have h1' : i < ks.length := by have := HN.out; omega
      obtain ⟨⟨xd, xa, xb, xs⟩, hx, b, off, rfl, hc⟩ := (hk.ext p).get h1'
      have Hkp : Hid (KeysIn p.w (some ⟨b, off, none⟩) ks) := hk.ext p
      have HR : Hid _ := h.ext p
      have Hfin : Hid (∀ q : Ext p.w, ∃ q' : Ext w, q.w = q'.w) := fun q => ⟨p.thenE q, rfl⟩
      have Hx : Hid (ks[i]? = some ⟨xd, xa, xb, xs⟩) := hx
      have HBad : Hid ((refHolds cs ⟨xd, xa, xb, xs⟩ who && !decide ((⟨xd, xa, xb, xs⟩ : Key) ∈ ks.take i)) = false → okR cs who [] ks = false) := fun hb => by
        rw [← Hne.out, drop_cons hx, okR, hb]; rfl
      have HGood : Hid ((refHolds cs ⟨xd, xa, xb, xs⟩ who && !decide ((⟨xd, xa, xb, xs⟩ : Key) ∈ ks.take i)) = true → okR cs who (ks.take (i + 1)) (ks.drop (i + 1)) = okR cs who [] ks) := fun hb => by
        rw [← Hne.out, drop_cons hx, okR, hb, take_snoc hx]; simp
      have HFin : Hid (okR cs who [] ks = false → ∀ q : Ext w, refUnlock cs who ks = (51, cs) ∧ ∃ p : Ch G w, q.w = p.w ∧ RefM p.w r room cs G) := fun ho q => ⟨by unfold refUnlock; rw [ho]; rfl, q.up G, rfl, h.ext q⟩
      clear h1' hx hk h hfa
      have y0 := hc.c0
      have y1 := hc.c1
      have y2 := hc.c2
      have y3 := hc.c3
      generalize p.w = W1 at *
      clear p
      go_wp2_with fail
      go_at_call 194
      obtain ⟨⟨v, hv, -⟩, -⟩ := HR.out
      have hcc := refHolds_any r v room cs ⟨xd, xa, xb, xs⟩ who W1 hv (by omega)
      cases hh : refHolds cs ⟨xd, xa, xb, xs⟩ who
      · rw [hh] at hcc
        refine hcc.mono ?_
        clear hcc y0 y1 y2 y3 hv
        rintro e w' ⟨rfl, q, rfl⟩
        have HX : Hid _ := HBad.out (by rw [hh]; rfl)
        clear hh
        go_wp2_with fail
        go_ret
        obtain ⟨q', hq'⟩ := Hfin.out q
        obtain ⟨e1, p', hp', hS⟩ := HFin.out HX.out q'
        rw [e1]
        exact ⟨rfl, p', hq'.trans hp', hS⟩
      · rw [hh] at hcc
        refine hcc.mono ?_
        clear hcc y0 y1 y2 y3 hv
        rintro e w' ⟨rfl, q, rfl⟩
        have Hfin2 : Hid (∀ s : Ext q.w, ∃ s' : Ext w, s.w = s'.w) := fun s => Hfin.out (q.thenE s)
        have HR2 : Hid _ := HR.out.ext q
        have Hkp2 : Hid (KeysIn q.w (some ⟨b, off, none⟩) ks) := KeysIn.ext Hkp.out q
        have Hh : Hid _ := hh
        clear Hfin HR Hkp hh hc
        generalize q.w = W2 at Hfin2 HR2 Hkp2 ⊢
        clear q
        go_wp2_with fail
        go_loopw [8] (fun v w' => (∃ p : Ext W2, w' = p.w) ∧ ∃ m : Nat, v = .int .i64 m ∧ m ≤ i ∧ (⟨xd, xa, xb, xs⟩ : Key) ∉ ks.take m) (fun v _ => i - (intOf v).toNat)
        case atStart => exact ⟨⟨Ch.refl NoS _, rfl⟩, 0, rfl, by omega, by simp⟩
        case round =>
          obtain ⟨⟨q, rfl⟩, m, rfl, hm, hnm⟩ := hrel
          have Hnm : Hid _ := hnm
          clear hnm
          by_cases h2 : m < i
          · have h2' : m < ks.length := by have := HN.out; omega
            have h1' : i < ks.length := by have := HN.out; omega
            obtain ⟨⟨yd, ya, yb, ys⟩, hy, b', off', hbo, hcy⟩ := KeysIn.get (KeysIn.ext Hkp2.out q) h2'
            obtain ⟨rfl, rfl⟩ : b = b' ∧ off = off' := by simpa using hbo
            obtain ⟨x', hx', b', off', hbo, hcx⟩ := KeysIn.get (KeysIn.ext Hkp2.out q) h1'
            obtain ⟨rfl, rfl⟩ : b = b' ∧ off = off' := by simpa using hbo
            obtain rfl : (⟨xd, xa, xb, xs⟩ : Key) = x' := by have := Hx.out; rw [hx'] at this; exact (Option.some.inj this).symm
            have Hy : Hid (ks[m]? = some ⟨yd, ya, yb, ys⟩) := hy
            have Hfin3 : Hid (∀ s : Ext q.w, ∃ s' : Ext w, s.w = s'.w) := fun s => Hfin2.out (q.thenE s)
            have Hq3 : Hid (∀ s : Ext q.w, ∃ s' : Ext W2, s.w = s'.w) := fun s => ⟨q.thenE s, rfl⟩
            clear hx' hy hbo h1' h2'
            generalize q.w = W3 at *
            clear q
            have x0 : ∀ q : Ext W3, q.w.cell? ⟨b, off + i * 4, none⟩ = some (.int .i64 xd) := fun q => (hcx.keep (q.same _ hcx.lt id)).c0
            have x1 : ∀ q : Ext W3, q.w.cell? ⟨b, off + i * 4 + 1, none⟩ = some (.int .i64 xa) := fun q => (hcx.keep (q.same _ hcx.lt id)).c1
            have x2 : ∀ q : Ext W3, q.w.cell? ⟨b, off + i * 4 + 2, none⟩ = some (.int .i64 xb) := fun q => (hcx.keep (q.same _ hcx.lt id)).c2
            have x3 : ∀ q : Ext W3, q.w.cell? ⟨b, off + i * 4 + 3, none⟩ = some (.string xs) := fun q => (hcx.keep (q.same _ hcx.lt id)).c3
            have y0 : ∀ q : Ext W3, q.w.cell? ⟨b, off + m * 4, none⟩ = some (.int .i64 yd) := fun q => (hcy.keep (q.same _ hcy.lt id)).c0
            have y1 : ∀ q : Ext W3, q.w.cell? ⟨b, off + m * 4 + 1, none⟩ = some (.int .i64 ya) := fun q => (hcy.keep (q.same _ hcy.lt id)).c1
            have y2 : ∀ q : Ext W3, q.w.cell? ⟨b, off + m * 4 + 2, none⟩ = some (.int .i64 yb) := fun q => (hcy.keep (q.same _ hcy.lt id)).c2
            have y3 : ∀ q : Ext W3, q.w.cell? ⟨b, off + m * 4 + 3, none⟩ = some (.string ys) := fun q => (hcy.keep (q.same _ hcy.lt id)).c3
            have hE : ∀ w, (Op.equalIn 10000 23 (.agg #[.int .i64 yd, .int .i64 ya, .int .i64 yb, .string ys]) (.agg #[.int .i64 xd, .int .i64 xa, .int .i64 xb, .string xs])).run Try.prog w = .ok (decide ((⟨yd, ya, yb, ys⟩ : Key) = ⟨xd, xa, xb, xs⟩)) w := run_eq_key ⟨yd, ya, yb, ys⟩ ⟨xd, xa, xb, xs⟩
            clear hcx hcy
            have hmn : m < n := by omega
            by_cases hk : (⟨yd, ya, yb, ys⟩ : Key) = ⟨xd, xa, xb, xs⟩
            · rw [decide_eq_true hk] at hE
              have Hk : Hid _ := hk
              clear hk
              go_wp2_with fail
              refine wp_region_ch NoS (by kernel_rfl) (by kernel_rfl) (fun q hq => ?_)
              clear hq
              (repeat (first | (refine wpMix_skip rfl rfl ?_) | (refine wpMix_step (fun K hK => ?_); go_simp; (with_reducible (refine hK _ _ ?_)); clear hK K)))
              refine wpMix_nil ?_
              have hmem : (⟨xd, xa, xb, xs⟩ : Key) ∈ ks.take i := by
                rw [← Hk.out]
                refine List.mem_of_getElem? (i := m) ?_
                rw [List.getElem?_take, if_pos h2]; exact Hy.out
              have HX : Hid _ := HBad.out (by rw [decide_eq_true hmem]; simp)
              clear hmem
              go_wp2_with fail
              go_ret
              obtain ⟨q', hq'⟩ := Hfin3.out q
              obtain ⟨e1, p', hp', hS⟩ := HFin.out HX.out q'
              rw [e1]
              exact ⟨rfl, p', hq'.trans hp', hS⟩
            · rw [decide_eq_false hk] at hE
              have Hk : Hid _ := hk
              clear hk
              go_wp2_with fail
              refine wp_region_ch NoS (by kernel_rfl) (by kernel_rfl) (fun q hq => ?_)
              clear hq
              (repeat (first | (refine wpMix_skip rfl rfl ?_) | (refine wpMix_step (fun K hK => ?_); go_simp; (with_reducible (refine hK _ _ ?_)); clear hK K)))
              refine wpMix_nil ?_
              go_wp2_with fail
              go_roundw
              case rel =>
                refine ⟨Hq3.out q, m + 1, by go_num, by omega, ?_⟩
                rw [List.take_add_one, Hy.out]
                intro hm'
                rcases List.mem_append.1 hm' with h | h
                · exact Hnm.out h
                · have e : (⟨xd, xa, xb, xs⟩ : Key) = ⟨yd, ya, yb, ys⟩ := by simpa using h
                  exact Hk.out e.symm
              case measure => simp [intOf]; omega
          · obtain rfl : m = i := by omega
            have HX : Hid _ := HGood.out (by rw [Hh.out, decide_eq_false Hnm.out]; rfl)
            have Hq : Hid _ := Hfin2.out q
            go_wp2_with fail
            go_roundw
            case rel => exact ⟨Hq.out, m + 1, by go_num, by omega, HX.out⟩
            case measure => simp [intOf]; omega
    · have h2 := Hne.out
      rw [List.drop_eq_nil_of_le (by have := HN.out; omega)] at h2
      have hok : okR cs who [] ks = true := h2.symm
      have HOk : Hid _ := hok
      obtain ⟨hnd, hhs⟩ := okR_spec hok
      have Hnd : Hid ks.Nodup := hnd
      have Hhs : Hid (∀ k ∈ ks, ∃ ic, getR cs k = some ic) := fun k hk => by
        have := (hhs k hk).1
        unfold refHolds at this
        cases hg : getR cs k with
        | none => rw [hg] at this; cases this
        | some ic => exact ⟨ic, rfl⟩
      have HR : Hid _ := h.ext p
      have Hkp : Hid (KeysIn p.w fa ks) := hk.ext p
      have Hfin : Hid (∀ q : Ch G p.w, ∃ q' : Ch G w, q.w = q'.w) := fun q => ⟨(p.up G).then q (fun _ _ h => h), rfl⟩
      have HG1 : Hid (∀ b, p.w.heap.size ≤ b → G b) := fun b hb => hG b (by have := p.size; omega)
      have Hfa : Hid _ := hfa
      clear h2 hok hnd hhs Hne h hk hG hfa
      generalize p.w = W1 at *
      clear p
      go_wp2_with fail
      go_loopw [9] (fun v w' => ∃ (q : Ch G W1) (i : Nat) (S : List RC), w' = q.w ∧ v = .int .i64 i ∧ i ≤ n ∧ RefM q.w r room S G ∧ S.length ≤ cs.length ∧ (ks.drop i).foldl refUnl1 S = ks.foldl refUnl1 cs ∧ ∀ k ∈ ks.drop i, ∃ ic, getR S k = some ic) (fun v _ => n - (intOf v).toNat)
      case atStart => exact ⟨Ch.refl G W1, 0, cs, rfl, rfl, by omega, HR.out, Nat.le_refl _, rfl, Hhs.out⟩
      case round =>
        obtain ⟨q, i, S, rfl, rfl, hi2, hS, hSl, hfold, hall⟩ := hrel
        have Hfold : Hid _ := hfold
        have Hall : Hid _ := hall
        have HRq : Hid _ := hS
        clear hfold hall hS HR
        by_cases h2 : i < n
        · have h2' : i < ks.length := by have := HN.out; omega
          have hne : ks ≠ [] := fun e => by rw [e] at h2'; simp at h2'
          have hfa' : ∀ a, fa = some a → ¬ G a.block := Hfa.out.resolve_left hne
          have hkq := KeysIn.ch Hkp.out q hfa'
          obtain ⟨⟨xd, xa, xb, xs⟩, hx, b, off, rfl, hc⟩ := hkq.get h2'
          obtain ⟨ic, hic⟩ := Hall.out ⟨xd, xa, xb, xs⟩ (by rw [drop_cons hx]; exact List.mem_cons_self ..)
          obtain ⟨j, c⟩ := ic
          obtain ⟨hix, hxc, hck⟩ := getR_some hic
          have hj : j < S.length := (List.getElem?_eq_some_iff.1 hxc).1
          have Hx : Hid (ks[i]? = some ⟨xd, xa, xb, xs⟩) := hx
          have Hc : Hid _ := hxc
          have Hic : Hid _ := hic
          have Hfinq : Hid (∀ s : Ch G q.w, ∃ s' : Ch G W1, s.w = s'.w) := fun s => ⟨q.then s (fun _ _ h => h), rfl⟩
          have HGq : Hid (∀ b, q.w.heap.size ≤ b → G b) := fun b hb => HG1.out b (by have := q.size; omega)
          have y0 := hc.c0
          have y1 := hc.c1
          have y2 := hc.c2
          have y3 := hc.c3
          clear h2' hx hkq hc hne hfa' hxc hic
          generalize q.w = W3 at *
          clear q
          go_wp2_with fail
          go_at_call 98
          obtain ⟨⟨v, hv, hvG⟩, hrG⟩ := HRq.out
          have hcc := find_any r v room S ⟨xd, xa, xb, xs⟩ W3 hv (by omega)
          rw [hix] at hcc
          refine hcc.mono ?_
          clear hcc y0 y1 y2 y3
          rintro e w' ⟨rfl, q, rfl⟩
          have hv4 := hv.ext q
          have Hfin4 : Hid (∀ s : Ch G q.w, ∃ s' : Ch G W1, s.w = s'.w) := fun s => Hfinq.out ((q.up G).then s (fun _ _ h => h))
          have HG4 : Hid (∀ b, q.w.heap.size ≤ b → G b) := fun b hb => HGq.out b (by have := q.size; omega)
          clear hv HRq Hfinq HGq
          generalize q.w = W4 at *
          clear q
          obtain ⟨g, cp, hvf, -, -⟩ := hv4.get Hc.out
          subst hvf
          have hg2 : G g := hvG g rfl
          obtain ⟨⟨cd, ca, cb, ct⟩, xw, xh, xt, xl, xo⟩ := c
          have hrg : r ≠ g := by
            obtain ⟨cur, hgb⟩ := rowBlk hv4.row rfl
            exact blkNe hv4.st hgb (by decide)
          have s1 : W4.cell? ⟨r, 1, none⟩ = some (.slice (some ⟨g, 0, none⟩) S.length cp) := by have := cell_at 1 hv4.st; simpa using this
          have y7 : W4.cell? ⟨g, j * 9 + 7, none⟩ = some (.bool xl) := hv4.cellj Hc.out 7 (by decide)
          have y4 : W4.cell? ⟨g, j * 9 + 4, none⟩ = some (.int .u64 xw) := hv4.cellj Hc.out 4 (by decide)
          have f7 : W4.frozen? ⟨g, j * 9 + 7, none⟩ = false := hv4.frozj _
          have HR5 : Hid (RefM (W4.setCell ⟨g, j * 9 + 7, none⟩ (.bool false)) r room (S.set j ⟨⟨cd, ca, cb, ct⟩, xw, xh, xt, false, xo⟩) G) := by
            refine ⟨⟨_, RefAt.put (c' := ⟨⟨cd, ca, cb, ct⟩, xw, xh, xt, false, xo⟩) (j := 7) (u := .bool false) hv4 Hc.out (by decide) rfl, fun b hb => ?_⟩, hrG⟩
            have : g = b := by simpa [Value.ownBlock] using hb
            exact this ▸ hg2
          have Hfin5 : Hid (∀ s : Ch G (W4.setCell ⟨g, j * 9 + 7, none⟩ (.bool false)), ∃ s' : Ch G W1, s.w = s'.w) := fun s => Hfin4.out (((Ch.refl G W4).set g (j * 9 + 7) _ (fun _ => hg2)).then s (fun _ _ h => h))
          have HG5 : Hid (∀ b, (W4.setCell ⟨g, j * 9 + 7, none⟩ (.bool false)).heap.size ≤ b → G b) := fun b hb => HG4.out b (by simpa using hb)
          have hun : refUnl1 S ⟨xd, xa, xb, xs⟩ = if xw == 0 then (S.set j ⟨⟨cd, ca, cb, ct⟩, xw, xh, xt, false, xo⟩).eraseIdx j else S.set j ⟨⟨cd, ca, cb, ct⟩, xw, xh, xt, false, xo⟩ := by unfold refUnl1; rw [Hic.out]
          have Hlen : Hid ((refUnl1 S ⟨xd, xa, xb, xs⟩).length ≤ cs.length) := Nat.le_trans (refUnl1_length S _) hSl
          have Hnext : Hid ((ks.drop (i + 1)).foldl refUnl1 (refUnl1 S ⟨xd, xa, xb, xs⟩) = ks.foldl refUnl1 cs) := by
            rw [← Hfold.out, drop_cons Hx.out]; rfl
          have Hall' : Hid (∀ k ∈ ks.drop (i + 1), ∃ ic, getR (refUnl1 S ⟨xd, xa, xb, xs⟩) k = some ic) := fun k hk => by
            have hnd := Hnd.out
            rw [← List.take_append_drop i ks, drop_cons Hx.out, List.nodup_append] at hnd
            have h3 := (List.nodup_cons.1 hnd.2.1).1
            have hne' : (⟨xd, xa, xb, xs⟩ : Key) ≠ k := fun e => h3 (by rw [e]; exact hk)
            exact refUnl1_keeps hne' (Hall.out k (by rw [drop_cons Hx.out]; exact List.mem_cons_of_mem _ hk))
          have Hun : Hid _ := hun
          clear hun hv4 hvG
          cases hw : (xw == 0)
          · go_wp2_with fail
            have Hw : Hid _ := hw
            clear hw
            go_roundw
            case rel =>
              obtain ⟨q', hq'⟩ := Hfin5.out (Ch.refl G _)
              refine ⟨q', i + 1, refUnl1 S ⟨xd, xa, xb, xs⟩, hq', by go_num, by omega, ?_, Hlen.out, Hnext.out, Hall'.out⟩
              rw [← hq', Hun.out, Hw.out]
              exact HR5.out
            case measure => simp [intOf]; omega
          · have hj5 : j < (S.set j ⟨⟨cd, ca, cb, ct⟩, xw, xh, xt, false, xo⟩).length := by simpa using hj
            go_wp2_with fail
            go_at_call 195
            refine (refDrop_any r room _ G j _ HR5.out HG5.out (by simp; omega) hj5).mono ?_
            rintro e w' ⟨rfl, q, rfl, hM⟩
            have HM : Hid _ := hM
            have Hw : Hid _ := hw
            clear hM hw
            go_wp2_with fail
            go_roundw
            case rel =>
              obtain ⟨q', hq'⟩ := Hfin5.out q
              refine ⟨q', i + 1, refUnl1 S ⟨xd, xa, xb, xs⟩, hq', by go_num, by omega, ?_, Hlen.out, Hnext.out, Hall'.out⟩
              rw [← hq', Hun.out, Hw.out]
              exact HM.out
            case measure => simp [intOf]; omega
        · go_wp2_with fail
          go_ret
          have h3 := Hfold.out
          rw [List.drop_eq_nil_of_le (by have := HN.out; omega)] at h3
          have e : refUnlock cs who ks = (0, S) := by unfold refUnlock; rw [HOk.out, if_pos rfl, ← h3]; rfl
          obtain ⟨q', hq'⟩ := Hfin.out q
          rw [e]
          exact ⟨rfl, q', hq', hq' ▸ HRq.out⟩
end Go.Proofs.Cob

namespace Go.Proofs.Cob
open Go Go.RowKit Go.Cob
set_option linter.unusedSimpArgs false
set_option linter.unusedVariables false

theorem okR_conv (L : List (Key × Cl)) (who : Int) : ∀ ks seen, okR (L.map conv) who seen ks = okU L who seen ks
  | [], seen => rfl
  | k :: ks, seen => by simp only [okR, okU, holds_conv, okR_conv L who ks]

/-- The plain states match. -/
structure Match (room : Int) (A : ArenaSt) (L : List (Key × Cl)) (cs : List RC) : Prop where
  eq : cs = L.map conv
  wo : WordsOk L
  iv : InvA A L
  rm : A.room = room

theorem unl_step {room : Int} {A : ArenaSt} {L : List (Key × Cl)} {cs : List RC} (h : Match room A L cs) (k : Key) : Match room (unl1 (A, L) k).1 (unl1 (A, L) k).2 (refUnl1 cs k) := by
  obtain ⟨rfl, hW, hI, hr⟩ := h
  unfold unl1 refUnl1
  cases hg : aget L k with
  | none =>
    rw [getR_conv_none hg]
    exact ⟨rfl, hW, hI, hr⟩
  | some z =>
    obtain ⟨i, e1, e2, e3⟩ := getR_conv_some hg
    obtain ⟨s, g, l, hs, hz⟩ := hW.get hg
    rw [e1]
    have hW' : WordsOk (aput L k { z with wd := unlockZ z.wd }) := hW.put ⟨s, g, false, hs, by show unlockZ z.wd = _; rw [hz]; exact unlock_mk hs _ _⟩
    have hI' : InvA A (aput L k { z with wd := unlockZ z.wd }) := hI.turn hg rfl rfl
    have hst : stampZ (unlockZ z.wd) = stampZ z.wd := by rw [hz, unlock_mk hs, stamp_mk hs, stamp_mk hs]
    have hc : conv (k, { z with wd := unlockZ z.wd }) = { conv (k, z) with locked := false } := by
      simp only [conv, hz, unlock_mk hs, stamp_mk hs, gone_mk hs, free_mk hs]
      rfl
    simp only [hst]
    have hset : (L.map conv).set i { conv (k, z) with locked := false } = (aput L k { z with wd := unlockZ z.wd }).map conv := by rw [← hc]; exact (e2 _).symm
    obtain ⟨j, e1', e2', e3'⟩ := getR_conv_some (L := aput L k { z with wd := unlockZ z.wd }) (k := k) (by rw [aget_aput, if_pos rfl])
    by_cases h0 : (stampZ z.wd == 0) = true
    · have h0' : ((conv (k, z)).wd == 0) = true := h0
      rw [if_pos h0, if_pos h0']
      have hx : (L.map conv)[i]? = some (conv (k, z)) := (getR_some e1).2.1
      have hd : dropM A (aput L k { z with wd := unlockZ z.wd }) k = (freedA A z.sl, adel L k) := by
        unfold dropM
        rw [aget_aput, if_pos rfl]
        simp only [(hI.drop hg).1, if_true]
        rw [adel_aput _ _ _ z hg]
      rw [hd]
      refine ⟨?_, hW.del, (hI.drop hg).2, hr⟩
      rw [erase_set hx, e3, List.eraseIdx_eq_take_drop_succ]
    · have h0' : ¬ ((conv (k, z)).wd == 0) = true := h0
      rw [if_neg h0, if_neg h0']
      exact ⟨hset, hW', hI', hr⟩
theorem unl_fold {room : Int} : ∀ (ks : List Key) (S : ArenaSt × List (Key × Cl)) (cs : List RC), Match room S.1 S.2 cs → Match room (ks.foldl unl1 S).1 (ks.foldl unl1 S).2 (ks.foldl refUnl1 cs)
  | [], S, cs, h => h
  | k :: ks, S, cs, h => unl_fold ks (unl1 S k) (refUnl1 cs k) (unl_step h k)
theorem unlock_conv {room : Int} {A : ArenaSt} {L : List (Key × Cl)} {cs : List RC} (h : Match room A L cs) (who : Int) (ks : List Key) :
    (refUnlock cs who ks).1 = (unlM A L who ks).1 ∧ Match room (unlM A L who ks).2.1 (unlM A L who ks).2.2 (refUnlock cs who ks).2 := by
  unfold refUnlock unlM
  rw [show okR cs who [] ks = okU L who [] ks from by rw [h.eq]; exact okR_conv L who ks []]
  cases okU L who [] ks
  · exact ⟨rfl, h⟩
  · exact ⟨rfl, unl_fold ks (A, L) cs h⟩

def refFr1 (S : Int × List RC) (k : Key) : Int × List RC := (S.1 + (refFree S.2 k).1, (refFree S.2 k).2)
theorem fr_step {room : Int} {n : Nat} {A : ArenaSt} {L : List (Key × Cl)} {cs : List RC} (h : Match room A L cs) (k : Key) :
    (refFr1 ((n : Int), cs) k).1 = ((fr1 (n, A, L) k).1 : Int) ∧ Match room (fr1 (n, A, L) k).2.1 (fr1 (n, A, L) k).2.2 (refFr1 ((n : Int), cs) k).2 := by
  have h' := h
  obtain ⟨rfl, hW, hI, hr⟩ := h
  unfold refFr1 fr1 refFree
  cases hg : aget L k with
  | none =>
    rw [getR_conv_none hg]
    exact ⟨by simp, h'⟩
  | some z =>
    obtain ⟨i, e1, e2, e3⟩ := getR_conv_some hg
    rw [e1]
    simp only
    by_cases hc : (goneB z.wd && freeB z.wd) = true
    · have hc' : ¬ ((conv (k, z)).has || (conv (k, z)).locked) = true := by
        simp only [conv]
        simp at hc ⊢
        exact hc
      rw [if_pos hc, if_neg hc']
      have hd : dropM A L k = (freedA A z.sl, adel L k) := by
        unfold dropM
        rw [hg]
        simp only [(hI.drop hg).1, if_true]
      rw [hd]
      exact ⟨by simp, e3.symm, hW.del, (hI.drop hg).2, hr⟩
    · have hc' : ((conv (k, z)).has || (conv (k, z)).locked) = true := by
        simp only [conv]
        cases h1 : goneB z.wd <;> cases h2 : freeB z.wd <;> simp_all
      rw [if_neg hc, if_pos hc']
      exact ⟨by simp, h'⟩
theorem fr_fold {room : Int} : ∀ (ks : List Key) (S : Nat × ArenaSt × List (Key × Cl)) (T : Int × List RC), T.1 = (S.1 : Int) → Match room S.2.1 S.2.2 T.2 →
    (ks.foldl refFr1 T).1 = ((ks.foldl fr1 S).1 : Int) ∧ Match room (ks.foldl fr1 S).2.1 (ks.foldl fr1 S).2.2 (ks.foldl refFr1 T).2
  | [], S, T, h1, h2 => ⟨h1, h2⟩
  | k :: ks, (n, A, L), (m, cs), h1, h2 => by
    simp only at h1
    subst h1
    obtain ⟨a, b⟩ := fr_step (n := n) h2 k
    exact fr_fold ks (fr1 (n, A, L) k) (refFr1 ((n : Int), cs) k) a b
theorem free_conv {room : Int} {A : ArenaSt} {L : List (Key × Cl)} {cs : List RC} (h : Match room A L cs) (ks : List Key) :
    (ks.foldl refFr1 (0, cs)).1 = ((freeM A L ks).1 : Int) ∧ Match room (freeM A L ks).2.1 (freeM A L ks).2.2 (ks.foldl refFr1 (0, cs)).2 :=
  fr_fold ks (0, A, L) (0, cs) rfl h
end Go.Proofs.Cob

namespace Go.Proofs.Cob
open Go Go.RowKit Go.Cob
set_option linter.unusedSimpArgs false
set_option linter.unusedVariables false

/-- A call on the program's store; what it may turn is within B. -/
theorem Duo.progB {w : World} {I : Ids} {r : Nat} {A : ArenaSt} {L : List (Key × Cl)} {room : Int} {cs : List RC} {B : Nat → Prop} (h : Duo w I r A L room cs B) (hB : ∀ b, w.heap.size ≤ b → B b) {f : FuncId} {args : Array Value} {v : Value} {A' : ArenaSt} {L' : List (Key × Cl)}
    (hc : ∀ F : Nat → Prop, StN w I A L F → (∀ b, w.heap.size ≤ b → F b) → (∀ b, F b → B b) → Calls Try.prog f args w fun e w' => e = .returned v ∧ ∃ p : Ch F w, w' = p.w ∧ StN p.w I A' L' F) :
    Calls Try.prog f args w fun e w' => e = .returned v ∧ ∃ p : Ch B w, w' = p.w ∧ Duo p.w I r A' L' room cs B := by
  have h' := h
  obtain ⟨F, G, h1, h2, h3, h4, h5⟩ := h
  refine (hc (fun b => F b ∨ w.heap.size ≤ b) (StN.mono h1 fun b _ h => .inl h) (fun b hb => .inr hb) (fun b hb => by rcases hb with hb | hb; exact (h3 b hb).1; exact hB b hb)).mono ?_
  rintro e w' ⟨rfl, p, rfl, hS⟩
  have hsz := p.size
  refine ⟨rfl, p.mono (fun b hb h => by rcases h with h | h; exact (h3 b h).1; exact hB b h), rfl, fun b => (F b ∨ w.heap.size ≤ b) ∧ b < p.w.heap.size, G, StN.mono hS (fun b hb h => ⟨h, hb⟩), RefM.ch h2 p ?_, ?_, ?_, ?_⟩
  · intro b hb hg
    rcases hb with hb | hb
    · exact h5 b hb hg
    · have := (h4 b hg).2; omega
  · rintro b ⟨h, hlt⟩
    refine ⟨?_, hlt⟩
    rcases h with h | h
    · exact (h3 b h).1
    · exact hB b h
  · intro b hb
    exact ⟨(h4 b hb).1, Nat.lt_of_lt_of_le (h4 b hb).2 hsz⟩
  · rintro b ⟨h, _⟩ hg
    rcases h with h | h
    · exact h5 b h hg
    · have := (h4 b hg).2; omega
theorem Duo.refB {w : World} {I : Ids} {r : Nat} {A : ArenaSt} {L : List (Key × Cl)} {room : Int} {cs : List RC} {B : Nat → Prop} (h : Duo w I r A L room cs B) (hB : ∀ b, w.heap.size ≤ b → B b) {f : FuncId} {args : Array Value} {v : Value} {cs' : List RC}
    (hc : ∀ G : Nat → Prop, RefM w r room cs G → (∀ b, w.heap.size ≤ b → G b) → (∀ b, G b → B b) → Calls Try.prog f args w fun e w' => e = .returned v ∧ ∃ p : Ch G w, w' = p.w ∧ RefM p.w r room cs' G) :
    Calls Try.prog f args w fun e w' => e = .returned v ∧ ∃ p : Ch B w, w' = p.w ∧ Duo p.w I r A L room cs' B := by
  obtain ⟨F, G, h1, h2, h3, h4, h5⟩ := h
  refine (hc (fun b => G b ∨ w.heap.size ≤ b) (h2.mono fun b _ h => .inl h) (fun b hb => .inr hb) (fun b hb => by rcases hb with hb | hb; exact (h4 b hb).1; exact hB b hb)).mono ?_
  rintro e w' ⟨rfl, p, rfl, hS⟩
  have hsz := p.size
  refine ⟨rfl, p.mono (fun b hb h => by rcases h with h | h; exact (h4 b h).1; exact hB b h), rfl, F, fun b => (G b ∨ w.heap.size ≤ b) ∧ b < p.w.heap.size, StN.ch h1 p ?_, hS.mono (fun b hb h => ⟨h, hb⟩), ?_, ?_, ?_⟩
  · intro b hb hf
    rcases hb with hb | hb
    · exact h5 b hf hb
    · have := (h3 b hf).2; omega
  · intro b hb
    exact ⟨(h3 b hb).1, Nat.lt_of_lt_of_le (h3 b hb).2 hsz⟩
  · rintro b ⟨h, hlt⟩
    refine ⟨?_, hlt⟩
    rcases h with h | h
    · exact (h4 b h).1
    · exact hB b h
  · rintro b hf ⟨h, _⟩
    rcases h with h | h
    · exact h5 b hf h
    · have := (h3 b hf).2; omega
theorem KeysIn.chW {w : World} {fa : Option Addr} {ks : List Key} {T : Nat → Prop} (h : KeysIn w fa ks) (p : Ch T w) (hT : ks = [] ∨ ∀ a, fa = some a → ¬ T a.block) : KeysIn p.w fa ks := by
  rcases hT with h0 | hT
  · exact .inl h0
  · exact KeysIn.ch h p hT
theorem Run.match {w : World} {I : Ids} {r : Nat} {A : ArenaSt} {L : List (Key × Cl)} {B : Nat → Prop} (h : Run w I r A L B) : Match A.room A L (L.map conv) := ⟨rfl, h.wo, h.iv, rfl⟩

set_option maxRecDepth 4000 in
set_option maxHeartbeats 1600000 in
theorem does_unlock (I : Ids) (r : Nat) (A : ArenaSt) (L : List (Key × Cl)) (B : Nat → Prop) (a : Act) (w : World) (h : Run w I r A L B) (hB : ∀ b, w.heap.size ≤ b → B b) (hk : a.kind = 2)
    (hK : KeysIn w a.kfa a.keys) (hfa : a.keys = [] ∨ ∀ x, a.kfa = some x → ¬ B x.block) (hlen : a.keys.length ≤ a.kcap) (h10 : a.keys.length ≤ 10) :
    Calls Try.prog 30 #[.pointer (some ⟨I.s, 0, none⟩), .pointer (some ⟨r, 0, none⟩), actV a] w fun e w' => e = .returned (.bool true) ∧ ∃ p : Ch B w, w' = p.w ∧ Run p.w I r (unlM A L a.who a.keys).2.1 (unlM A L a.who a.keys).2.2 B := by
  obtain ⟨kind, who, ⟨kd, ka, kb, ks⟩, kfa, kcap, keys, stamp, sw, stx, sh⟩ := a
  simp only at hk hK hfa hlen h10
  subst hk
  obtain ⟨bk, hbk⟩ : ∃ bk, bk = w.heap.size := ⟨_, rfl⟩
  obtain ⟨W, hW⟩ : ∃ W, W = w.alloc (.cells (actCells ⟨2, who, ⟨kd, ka, kb, ks⟩, kfa, kcap, keys, stamp, sw, stx, sh⟩) 43) := ⟨_, rfl⟩
  have hb : W.heap[bk]? = some (.cells (actCells ⟨2, who, ⟨kd, ka, kb, ks⟩, kfa, kcap, keys, stamp, sw, stx, sh⟩) 43 (0, 0)) := by rw [hW, hbk]; exact heap_alloc_at _ _
  have hR : Run W I r A L (fun b => B b ∧ b ≠ bk) := by rw [hW, hbk]; exact h.box _
  have hKW : KeysIn W kfa keys := by rw [hW]; exact KeysIn.ext hK ((Ch.refl NoS w).alloc _)
  have hB' : ∀ b, W.heap.size ≤ b → B b ∧ b ≠ bk := fun b hb => by
    rw [hW] at hb; simp at hb
    exact ⟨hB b (by omega), by omega⟩
  have fin : ∀ p : Ch (fun b => B b ∧ b ≠ bk) W, ∃ q : Ch B w, p.w = q.w := fun p => ⟨((Ch.refl B w).alloc _).onto hW p (fun b hb h => h.1), rfl⟩
  have hfa' : keys = [] ∨ ∀ x, kfa = some x → ¬ (B x.block ∧ x.block ≠ bk) := hfa.imp id (fun h x hx hb => h x hx hb.1)
  have hfew := h.few
  obtain ⟨c1, c2⟩ := unlock_conv h.match who keys
  obtain ⟨x, hx⟩ : ∃ x, x = (unlM A L who keys).1 := ⟨_, rfl⟩
  have c1' : (refUnlock (L.map conv) who keys).1 = x := c1.trans hx.symm
  have Hfin : Hid _ := fin
  have HC : Hid _ := c2
  have b1 : ∀ p : Ch (fun b => B b ∧ b ≠ bk) W, p.w.cell? ⟨bk, 1, none⟩ = some (.int .i64 who) := (fun p => cell_at 1 (p.blk hb (fun h => h.2 rfl))); have b6 : ∀ p : Ch (fun b => B b ∧ b ≠ bk) W, p.w.cell? ⟨bk, 6, none⟩ = some (.slice kfa keys.length kcap) := (fun p => cell_at 6 (p.blk hb (fun h => h.2 rfl)))
  have HD : Hid _ := hR.duo
  have HB : Hid _ := hB'
  have HX : Hid _ := hx
  have HC1 : Hid _ := c1'
  have HK : Hid (KeysIn W kfa keys) := hKW
  have Hfa : Hid _ := hfa'
  clear h c1 c2 hB' hR hx hb c1' fin hK hKW hfa hfa' hB
  go_enter Try.func30, Try.ntmps30
  go_wp2_with fail
  rw [← hbk, ← hW]
  clear hW hbk
  refine wp_region_ch (fun b => B b ∧ b ≠ bk) (by kernel_rfl) (by kernel_rfl) (fun p hp => ?_)
  have HDp : Hid (Duo p.w I r A L A.room (L.map conv) (fun b => B b ∧ b ≠ bk)) := Duo.ext HD.out (Ch.still p hp)
  clear hp
  (repeat (first | (refine wpMix_skip rfl rfl ?_) | (refine wpMix_step (fun K hK => ?_); go_simp; (with_reducible (refine hK _ _ ?_)); clear hK K)))
  refine wpMix_step (fun K hK => ?_); go_simp
  have hcc := Duo.progB HDp.out (fun b hb => HB.out b (by have := p.size; omega)) (fun F hS hF hFB => unlock_mw I A L F who kfa keys.length kcap keys p.w hS hF (KeysIn.chW HK.out p Hfa.out) (Hfa.out.imp id (fun h a ha hf => h a ha (hFB _ hf))) rfl hlen (by omega))
  rw [← HX.out] at hcc
  refine hcc.mono ?_
  clear hcc
  rintro e w' ⟨rfl, q, rfl, hD⟩
  obtain ⟨q2, hq2⟩ : ∃ q2 : Ch (fun b => B b ∧ b ≠ bk) W, q.w = q2.w := ⟨p.then q (fun _ _ h => h), rfl⟩
  rw [hq2] at hD ⊢
  have HD2 : Hid _ := hD
  clear hD hq2
  refine ⟨⟨q2, rfl⟩, hK _ _ ?_⟩; clear hK K
  (repeat (first | (refine wpMix_skip rfl rfl ?_) | (refine wpMix_step (fun K hK => ?_); go_simp; (with_reducible (refine hK _ _ ?_)); clear hK K)))
  refine wpMix_step (fun K hK => ?_); go_simp
  have hcc := Duo.refB HD2.out (fun b hb => HB.out b (by have := q2.size; omega)) (fun G hS hG hGB => refUnlock_any r A.room (L.map conv) G who kfa keys.length kcap keys q2.w hS hG (by simp; omega) (KeysIn.chW HK.out q2 Hfa.out) (Hfa.out.imp id (fun h a ha hf => h a ha (hGB _ hf))) rfl hlen (by omega))
  rw [HC1.out] at hcc
  refine hcc.mono ?_
  clear hcc
  rintro e w' ⟨rfl, q3, rfl, hD⟩
  obtain ⟨q4, hq4⟩ : ∃ q4 : Ch (fun b => B b ∧ b ≠ bk) W, q3.w = q4.w := ⟨q2.then q3 (fun _ _ h => h), rfl⟩
  rw [hq4] at hD ⊢
  have HD4 : Hid _ := hD
  clear hD hq4
  refine ⟨⟨q4, rfl⟩, hK _ _ ?_⟩; clear hK K
  (repeat (first | (refine wpMix_skip rfl rfl ?_) | (refine wpMix_step (fun K hK => ?_); go_simp; (with_reducible (refine hK _ _ ?_)); clear hK K)))
  refine wpMix_nil ?_
  go_wp2_with fail
  go_ret
  obtain ⟨s, hs⟩ := Hfin.out q4
  obtain ⟨d1, d2, d3, d4⟩ := HC.out
  refine ⟨by simp, s, hs, hs ▸ ⟨?_, d2, d3⟩⟩
  have := HD4.out
  rw [d1] at this
  rw [d4]
  exact Duo.mono this (fun b h => h.1)

theorem refFree_range (cs : List RC) (k : Key) : (refFree cs k).1 = 0 ∨ (refFree cs k).1 = 1 := by
  unfold refFree
  cases getR cs k with
  | none => exact .inl rfl
  | some ic => simp only; split <;> simp
theorem refFree_length (cs : List RC) (k : Key) : (refFree cs k).2.length ≤ cs.length := by
  unfold refFree
  cases getR cs k with
  | none => simp
  | some ic =>
    simp only
    split
    · simp
    · exact List.length_eraseIdx_le ..
set_option maxRecDepth 4000 in
set_option maxHeartbeats 3200000 in
theorem does_free (I : Ids) (r : Nat) (A : ArenaSt) (L : List (Key × Cl)) (B : Nat → Prop) (a : Act) (w : World) (h : Run w I r A L B) (hB : ∀ b, w.heap.size ≤ b → B b) (hk : a.kind = 5)
    (hK : KeysIn w a.kfa a.keys) (hfa : a.keys = [] ∨ ∀ x, a.kfa = some x → ¬ B x.block) (hlen : a.keys.length ≤ a.kcap) (h10 : a.keys.length ≤ 10) :
    Calls Try.prog 30 #[.pointer (some ⟨I.s, 0, none⟩), .pointer (some ⟨r, 0, none⟩), actV a] w fun e w' => e = .returned (.bool true) ∧ ∃ p : Ch B w, w' = p.w ∧ Run p.w I r (freeM A L a.keys).2.1 (freeM A L a.keys).2.2 B := by
  obtain ⟨kind, who, ⟨kd, ka, kb, ks⟩, kfa, kcap, keys, stamp, sw, stx, sh⟩ := a
  simp only at hk hK hfa hlen h10
  subst hk
  obtain ⟨bk, hbk⟩ : ∃ bk, bk = w.heap.size := ⟨_, rfl⟩
  obtain ⟨W, hW⟩ : ∃ W, W = w.alloc (.cells (actCells ⟨5, who, ⟨kd, ka, kb, ks⟩, kfa, kcap, keys, stamp, sw, stx, sh⟩) 43) := ⟨_, rfl⟩
  have hb : W.heap[bk]? = some (.cells (actCells ⟨5, who, ⟨kd, ka, kb, ks⟩, kfa, kcap, keys, stamp, sw, stx, sh⟩) 43 (0, 0)) := by rw [hW, hbk]; exact heap_alloc_at _ _
  have hR : Run W I r A L (fun b => B b ∧ b ≠ bk) := by rw [hW, hbk]; exact h.box _
  have hKW : KeysIn W kfa keys := by rw [hW]; exact KeysIn.ext hK ((Ch.refl NoS w).alloc _)
  have hB' : ∀ b, W.heap.size ≤ b → B b ∧ b ≠ bk := fun b hb => by
    rw [hW] at hb; simp at hb
    exact ⟨hB b (by omega), by omega⟩
  have fin : ∀ p : Ch (fun b => B b ∧ b ≠ bk) W, ∃ q : Ch B w, p.w = q.w := fun p => ⟨((Ch.refl B w).alloc _).onto hW p (fun b hb h => h.1), rfl⟩
  have hfa' : keys = [] ∨ ∀ x, kfa = some x → ¬ (B x.block ∧ x.block ≠ bk) := hfa.imp id (fun h x hx hb => h x hx hb.1)
  have hfew := h.few
  obtain ⟨c1, c2⟩ := free_conv h.match keys
  have Hfin : Hid _ := fin
  have HC : Hid _ := c2
  have HC1 : Hid _ := c1
  have HD : Hid _ := hR.duo
  have HB : Hid _ := hB'
  have HK : Hid (KeysIn W kfa keys) := hKW
  have Hfa : Hid _ := hfa'
  have Hb : Hid _ := hb
  have c6 : W.cell? ⟨bk, 6, none⟩ = some (.slice kfa keys.length kcap) := cell_at 6 hb
  clear h c1 c2 hB' hR hb fin hK hKW hfa hfa' hB
  go_enter Try.func30, Try.ntmps30
  go_wp2_with fail
  rw [← hbk, ← hW]
  clear hW hbk
  go_wp2_with fail
  clear c6
  go_loopw [15, 16] (fun c v w' => ∃ (q : Ch (fun b => B b ∧ b ≠ bk) W) (i : Nat) (S : Int × List RC), w' = q.w ∧ v = .int .i64 i ∧ c = .int .i64 S.1 ∧ i ≤ keys.length ∧ 0 ≤ S.1 ∧ S.1 ≤ i ∧ S.2.length ≤ L.length ∧ Duo q.w I r A L A.room S.2 (fun b => B b ∧ b ≠ bk) ∧ (keys.drop i).foldl refFr1 S = keys.foldl refFr1 (0, L.map conv)) (fun _ v _ => keys.length - (intOf v).toNat)
  case atStart => exact ⟨Ch.refl _ W, 0, (0, L.map conv), rfl, rfl, rfl, by omega, by simp, by simp, by simp, HD.out, rfl⟩
  case round =>
    obtain ⟨q, i, S, rfl, rfl, rfl, hi, h0, hi1, hSl, hD, hfold⟩ := hrel
    have HDq : Hid _ := hD
    have Hfold : Hid _ := hfold
    clear hD hfold HD
    have c6 : q.w.cell? ⟨bk, 6, none⟩ = some (.slice kfa keys.length kcap) := cell_at 6 (q.blk Hb.out (fun h => h.2 rfl))
    by_cases h1 : i < keys.length
    · obtain ⟨⟨xd, xa, xb, xs⟩, hx, b, off, rfl, hc⟩ := KeysIn.get (KeysIn.chW HK.out q Hfa.out) h1
      have y0 := hc.c0
      have y1 := hc.c1
      have y2 := hc.c2
      have y3 := hc.c3
      have Hx : Hid (keys[i]? = some ⟨xd, xa, xb, xs⟩) := hx
      have hcb : i ≤ kcap := by omega
      clear hc hx
      go_wp2_with fail
      go_at_call 128
      have hcc := Duo.refB HDq.out (fun b hb => HB.out b (by have := q.size; omega)) (fun G hS hG hGB => refFree_any r A.room S.2 G ⟨xd, xa, xb, xs⟩ q.w hS hG (by omega))
      have hrg := refFree_range S.2 ⟨xd, xa, xb, xs⟩
      have Hl : Hid ((refFree S.2 ⟨xd, xa, xb, xs⟩).2.length ≤ L.length) := Nat.le_trans (refFree_length ..) hSl
      have Hnext : Hid ((keys.drop (i + 1)).foldl refFr1 (S.1 + (refFree S.2 ⟨xd, xa, xb, xs⟩).1, (refFree S.2 ⟨xd, xa, xb, xs⟩).2) = keys.foldl refFr1 (0, L.map conv)) := by
        rw [← Hfold.out, drop_cons Hx.out]; rfl
      generalize refFree S.2 ⟨xd, xa, xb, xs⟩ = T at hcc hrg Hl Hnext
      obtain ⟨t1, t2⟩ := T
      simp only at hcc hrg
      refine hcc.mono ?_
      clear hcc y0 y1 y2 y3 c6
      rintro e w' ⟨rfl, q3, rfl, hD⟩
      obtain ⟨q4, hq4⟩ : ∃ q4 : Ch (fun b => B b ∧ b ≠ bk) W, q3.w = q4.w := ⟨q.then q3 (fun _ _ h => h), rfl⟩
      rw [hq4] at hD ⊢
      have HD4 : Hid _ := hD
      clear hD hq4
      go_wp2_with fail
      go_roundw
      case rel => exact ⟨q4, i + 1, (S.1 + t1, t2), rfl, by go_num, by go_num, by omega, by simp only; omega, by simp only; omega, Hl.out, HD4.out, Hnext.out⟩
      case measure => simp [intOf]; omega
    · have hdr : keys.drop i = [] := List.drop_eq_nil_of_le (by omega)
      have hS : S = keys.foldl refFr1 (0, L.map conv) := by have := Hfold.out; rw [hdr] at this; exact this
      have h3 : S.1 = ((freeM A L keys).1 : Int) := by rw [hS]; exact HC1.out
      have HS2 : Hid (S.2 = (keys.foldl refFr1 (0, L.map conv)).2) := by show _ = _; rw [hS]
      clear hS hdr
      go_wp2_with fail
      go_at_call 31
      have hcc := Duo.progB HDq.out (fun b hb => HB.out b (by have := q.size; omega)) (fun F hS hF hFB => free_mw I A L F kfa keys.length kcap keys q.w hS hF (KeysIn.chW HK.out q Hfa.out) (Hfa.out.imp id (fun h a ha hf => h a ha (hFB _ hf))) rfl (by omega))
      refine hcc.mono ?_
      clear hcc c6
      rintro e w' ⟨rfl, q3, rfl, hD⟩
      have HD4 : Hid _ := hD
      clear hD
      rw [← h3]
      go_wp2_with fail
      go_ret
      obtain ⟨s, hs⟩ := Hfin.out (q.then q3 (fun _ _ h => h))
      obtain ⟨d1, d2, d3, d4⟩ := HC.out
      refine ⟨by simp, s, hs, hs ▸ ⟨?_, d2, d3⟩⟩
      have := HD4.out
      rw [HS2.out, d1] at this
      rw [d4]
      exact Duo.mono this (fun b h => h.1)
end Go.Proofs.Cob

namespace Go.Proofs.Cob
open Go Go.RowKit Go.Cob Go.Sort
set_option linter.unusedSimpArgs false
set_option linter.unusedVariables false

/-- How many stand ahead of a key. -/
def atK : List Key → Key → Nat
  | [], _ => 0
  | x :: xs, k => if ordK x k < 0 then atK xs k + 1 else 0
theorem atK_le (xs : List Key) (k : Key) : atK xs k ≤ xs.length := by
  induction xs with
  | nil => simp [atK]
  | cons x xs ih => simp only [atK]; split <;> simp; omega
theorem atK_lt {xs : List Key} {k : Key} : ∀ {j : Nat} {x : Key}, j < atK xs k → xs[j]? = some x → ordK x k < 0 := by
  induction xs with
  | nil => intro j x h _; simp [atK] at h
  | cons y xs ih =>
    intro j x h hx
    simp only [atK] at h
    split at h
    · rename_i hy
      cases j with
      | zero => have : y = x := by simpa using hx
                rw [← this]; exact hy
      | succ j => exact ih (j := j) (by omega) (by simpa using hx)
    · omega
theorem atK_at {xs : List Key} {k x : Key} (h : xs[atK xs k]? = some x) : ¬ ordK x k < 0 := by
  induction xs with
  | nil => simp at h
  | cons y xs ih =>
    simp only [atK] at h
    split at h
    · exact ih (by simpa using h)
    · rename_i hy
      have : y = x := by simpa using h
      rw [← this]; exact hy
theorem atK_unique {xs : List Key} {k : Key} {m : Nat} (hm : m ≤ xs.length) (h1 : ∀ j x, j < m → xs[j]? = some x → ordK x k < 0) (h2 : ∀ x, xs[m]? = some x → ¬ ordK x k < 0) : m = atK xs k := by
  rcases Nat.lt_trichotomy m (atK xs k) with h | h | h
  · have hl : m < xs.length := Nat.lt_of_lt_of_le h (atK_le xs k)
    exact absurd (atK_lt h (List.getElem?_eq_getElem hl)) (h2 _ (List.getElem?_eq_getElem hl))
  · exact h
  · have hl : atK xs k < xs.length := by omega
    exact absurd (h1 _ _ h (List.getElem?_eq_getElem hl)) (atK_at (List.getElem?_eq_getElem hl))
def insK (xs : List Key) (k : Key) : List Key := xs.take (atK xs k) ++ k :: xs.drop (atK xs k)
theorem insK_perm (xs : List Key) (k : Key) : (insK xs k).Perm (k :: xs) := by
  unfold insK
  exact List.perm_middle.trans (by rw [List.take_append_drop])
theorem insK_length (xs : List Key) (k : Key) : (insK xs k).length = xs.length + 1 := by rw [(insK_perm xs k).length_eq]; simp
theorem insK_sorted {xs : List Key} (k : Key) (h : xs.Pairwise fun x y => (!(ltOf ordK) y x) = true) : (insK xs k).Pairwise fun x y => (!(ltOf ordK) y x) = true := by
  unfold insK
  have hs := h
  rw [← List.take_append_drop (atK xs k) xs] at h
  obtain ⟨p1, p2, p3⟩ := List.pairwise_append.1 h
  have hd : ∀ y ∈ xs.drop (atK xs k), ltOf ordK y k = false := by
    intro y hy
    cases hdr : xs.drop (atK xs k) with
    | nil => rw [hdr] at hy; cases hy
    | cons y0 ys =>
      have h0 : xs[atK xs k]? = some y0 := by
        have : (xs.drop (atK xs k))[0]? = some y0 := by rw [hdr]; rfl
        simpa using this
      have hy0 : ltOf ordK y0 k = false := by simpa [ltOf] using atK_at h0
      rw [hdr] at hy p2
      rcases List.mem_cons.1 hy with rfl | hy
      · exact hy0
      · have := (List.pairwise_cons.1 p2).1 y hy
        exact swoKey.ntrans y y0 k (by simpa using this) hy0
  refine List.pairwise_append.2 ⟨p1, List.pairwise_cons.2 ⟨fun y hy => by simpa using hd y hy, p2⟩, ?_⟩
  intro x hx y hy
  rcases List.mem_cons.1 hy with rfl | hy
  · obtain ⟨j, hj⟩ := List.mem_iff_getElem?.1 hx
    rw [List.getElem?_take] at hj
    split at hj
    · rename_i hlt
      have h1 := atK_lt hlt hj
      have := ordK_swap x y
      simp only [ltOf, Bool.not_eq_true', decide_eq_false_iff_not]
      omega
    · cases hj
  · exact p3 x hx y hy
theorem ins_fold : ∀ (ks xs : List Key), (xs.Pairwise fun x y => (!(ltOf ordK) y x) = true) → ((ks.foldl insK xs).Pairwise fun x y => (!(ltOf ordK) y x) = true) ∧ (ks.foldl insK xs).Perm (xs ++ ks)
  | [], xs, h => ⟨h, by simp⟩
  | k :: ks, xs, h => by
    obtain ⟨a, b⟩ := ins_fold ks (insK xs k) (insK_sorted k h)
    refine ⟨a, b.trans ?_⟩
    refine ((insK_perm xs k).append_right ks).trans ?_
    simpa using (List.perm_middle (a := k) (l₁ := xs) (l₂ := ks)).symm
theorem ins_sort (ks : List Key) : ks.foldl insK [] = sortK ks := by
  obtain ⟨a, b⟩ := ins_fold ks [] .nil
  exact sortK_unique (by simpa using b.trans (by simpa using (sortK_perm ks).symm)) a (sortK_sorted ks)
end Go.Proofs.Cob

namespace Go.Proofs.Cob
open Go Go.RowKit Go.Cob
set_option linter.unusedSimpArgs false
set_option linter.unusedVariables false

def selR (which who : Int) (c : RC) : Bool := !(((which == 0) && (!c.locked || (c.who != who))) || ((which == 1) && !c.has))
def refKeysL (cs : List RC) (which who : Int) : List Key := ((cs.filter (selR which who)).map (·.k)).foldl insK []
theorem rowKey_append (xs ys : List Key) : rowKey (xs ++ ys) = rowKey xs ++ rowKey ys := by simp [rowKey]
theorem oneCell_rowKey (ks : List Key) : ∀ u ∈ rowKey ks, u.oneCell' = true := by
  intro u hu
  simp only [rowKey, List.mem_flatMap] at hu
  obtain ⟨k, -, hu⟩ := hu
  simp [encKey] at hu
  rcases hu with rfl | rfl | rfl | rfl <;> rfl

theorem keysOut_row {w0 : World} {base : Nat} {v : Value} {ks : List Key} (p : Ext w0) (h : p.w.ownsRow base 23 4 v ks.length (rowKey ks)) (hb : w0.heap.size ≤ base) : KeysOut w0 v ks p.w := by
  refine ⟨p, rfl, ?_⟩
  have h' := h
  rcases h.2 with ⟨rfl, h0⟩ | ⟨g, cap, cur, rfl, hbg, hg, hc, -⟩
  · obtain rfl : ks = [] := List.length_eq_zero_iff.1 h0
    exact ⟨none, 0, rfl, by simp, .inl rfl, .inl ⟨rfl, rfl⟩⟩
  · exact ⟨some ⟨g, 0, none⟩, cap, rfl, hc, keysIn_row h', .inr ⟨g, cur, rfl, by omega, hg⟩⟩
theorem news_key (W : World) (k : Key) : ∀ j u, (encKey k)[j]? = some u → (W.alloc (.cells (keyCells k.kind k.a k.b k.s) 23)).cell? ((⟨W.heap.size, 0, none⟩ : Addr).add j) = some u := by
  intro j u hj
  have e : ((⟨W.heap.size, 0, none⟩ : Addr).add j) = ⟨W.heap.size, j, none⟩ := by cases j <;> simp [Addr.add]
  rw [e]
  exact (cell_at j (heap_alloc_at W (.cells (keyCells k.kind k.a k.b k.s) 23))).trans (by rw [← hj]; simp [encKey])
set_option maxRecDepth 4000 in
set_option maxHeartbeats 6400000 in
theorem refKeys_any (r : Nat) (v : Value) (room : Int) (cs : List RC) (which who : Int) (w : World) (h : RefAt w r v room cs) (hb : cs.length < 1099511627776) (hw : which = 0 ∨ which = 1) (hsz : ∀ c ∈ cs, c.k.s.size < 4611686018427387904) :
    Calls Try.prog 96 #[.pointer (some ⟨r, 0, none⟩), .int .i64 which, .int .i64 who] w fun e w' => ∃ v, e = .returned v ∧ KeysOut w v (refKeysL cs which who) w' := by
  go_enter Try.func96, Try.ntmps96
  go_wp2_with fail
  go_loopw [7, 8] (fun ov v wr => ∃ (p : Ext w) (i : Nat) (ks : List Key), wr = p.w ∧ v = .int .i64 i ∧ i ≤ cs.length ∧ ks.length ≤ i ∧ p.w.ownsRow w.heap.size 23 4 ov ks.length (rowKey ks) ∧ ks = (((cs.take i).filter (selR which who)).map (·.k)).foldl insK [])
    (fun _ v _ => cs.length - (intOf v).toNat)
  case atStart => exact ⟨Ch.refl NoS w, 0, [], rfl, rfl, by omega, by simp, .inl ⟨rfl, rfl⟩ |> fun h => ⟨rfl, h⟩, by simp⟩
  case round =>
    obtain ⟨p, i, ks, rfl, rfl, hi, hkl, hrow, hks0⟩ := hrel
    have Hks : Hid _ := hks0
    clear hks0
    obtain ⟨fa, cp, rfl, hcp, hfa⟩ := row_form hrow
    have hR := h.ext p
    have Hrow : Hid _ := hrow
    have Hfin : Hid (∀ q : Ext p.w, ∃ q' : Ext w, q.w = q'.w) := fun q => ⟨p.thenE q, rfl⟩
    have Hsz : Hid (w.heap.size ≤ p.w.heap.size) := p.size
    clear hrow h
    generalize p.w = W1 at *
    clear p
    have s1 : W1.cell? ⟨r, 1, none⟩ = some v := cell_at 1 hR.st
    obtain ⟨va, vc, hv, -, -⟩ := row_form hR.row
    subst hv
    by_cases h1 : i < cs.length
    · obtain ⟨c, hc⟩ : ∃ c, cs[i]? = some c := ⟨_, List.getElem?_eq_getElem h1⟩
      obtain ⟨g, cap, hv, hcell, -⟩ := hR.get hc
      simp only [Value.slice.injEq, true_and] at hv
      obtain ⟨rfl, rfl⟩ := hv
      have Hc : Hid _ := hc
      obtain ⟨⟨kd, ka, kb, kt⟩, xw, xh, xt, xl, xo⟩ := c
      have c0 := hcell.c0
      have c1 := hcell.c1
      have c2 := hcell.c2
      have c3 := hcell.c3
      have c4 := hcell.c4
      have c5 := hcell.c5
      have c6 := hcell.c6
      have c7 := hcell.c7
      have c8 := hcell.c8
      have Hnext : Hid ((((cs.take (i + 1)).filter (selR which who)).map (·.k)).foldl insK [] = if selR which who ⟨⟨kd, ka, kb, kt⟩, xw, xh, xt, xl, xo⟩ then insK ks ⟨kd, ka, kb, kt⟩ else ks) := by
        rw [take_snoc hc, List.filter_append, List.map_append, List.foldl_append, ← Hks.out]
        cases hs : selR which who ⟨⟨kd, ka, kb, kt⟩, xw, xh, xt, xl, xo⟩
        · rw [List.filter_cons_of_neg (by rw [hs]; simp), List.filter_nil]; rfl
        · rw [List.filter_cons_of_pos hs]; rfl
      have Hkt : Hid (kt.size < 4611686018427387904) := hsz _ (List.mem_of_getElem? hc)
      have Hsx : Hid (∀ x ∈ ks, x.s.size < 4611686018427387904) := fun x hx => by
        rw [Hks.out] at hx
        have h2 := (ins_fold (((cs.take i).filter (selR which who)).map (·.k)) [] .nil).2.subset hx
        simp only [List.nil_append, List.mem_map, List.mem_filter] at h2
        obtain ⟨c', ⟨hc', -⟩, rfl⟩ := h2
        exact hsz c' (List.mem_of_mem_take hc')
      clear hcell hc hR
      rcases hw with rfl | rfl
      · cases xl
        · go_wp2_with fail; go_roundw; (case rel => (obtain ⟨q', hq'⟩ := Hfin.out ((Ch.refl NoS W1).alloc _); refine ⟨q', i + 1, ks, hq', by go_num, by omega, by omega, by (rw [← hq']; exact World.ownsRow.alloc Hrow.out _), ?_⟩; rw [Hnext.out]; simp_all [selR])); (case measure => simp [intOf]; omega)
        · by_cases ho : xo = who
          · subst ho
            go_wp2_with fail; obtain ⟨b9, hb9⟩ : ∃ n, n = W1.heap.size := ⟨_, rfl⟩; rw [← hb9]; generalize hW2 : World.alloc W1 _ = W2; have hbk : ∃ c, W2.heap[b9]? = some (.cells c 46 (0, 0)) ∧ c[0]? = some (.int .i64 kd) ∧ c[1]? = some (.int .i64 ka) ∧ c[2]? = some (.int .i64 kb) ∧ c[3]? = some (.string kt) := ⟨_, (by rw [← hW2, hb9]; exact heap_alloc_at _ _), rfl, rfl, rfl, rfl⟩; obtain ⟨bc, hbk, e0, e1, e2, e3⟩ := hbk; have Hbk : Hid _ := hbk; have Hrow2 : Hid (W2.ownsRow w.heap.size 23 4 (.slice fa ks.length cp) ks.length (rowKey ks)) := (by show World.ownsRow _ _ _ _ _ _ _; rw [← hW2]; exact World.ownsRow.alloc Hrow.out _); have Hfin2 : Hid (∀ q : Ext W2, ∃ q' : Ext w, q.w = q'.w) := (fun q => Hfin.out (((Ch.refl NoS W1).alloc _).onto hW2.symm q (fun _ _ h => h))); have Hsz2 : Hid (w.heap.size ≤ W2.heap.size) := (by show _ ≤ _; rw [← hW2]; have := Hsz.out; simp; omega); clear hbk c0 c1 c2 c3 c4 c5 c6 c7 c8 s1 hW2 hb9 Hrow Hfin Hsz; clear W1; go_loopw [10] (fun v w' => (∃ p : Ext W2, w' = p.w) ∧ ∃ m : Nat, v = .int .i64 m ∧ m ≤ ks.length ∧ ∀ j x, j < m → ks[j]? = some x → ordK x (⟨kd, ka, kb, kt⟩ : Key) < 0) (fun v _ => ks.length - (intOf v).toNat); (case atStart => exact ⟨⟨Ch.refl NoS _, rfl⟩, 0, rfl, by omega, fun j x h => by omega⟩); (case round => (obtain ⟨⟨q, rfl⟩, m, rfl, hm, hlt0⟩ := hrel; have Hlt : Hid _ := hlt0; clear hlt0; have Hbk3 : Hid _ := q.blkE Hbk.out; have Hrow3 : Hid (q.w.ownsRow w.heap.size 23 4 (.slice fa ks.length cp) ks.length (rowKey ks)) := rowKeep Hrow2.out (fun b hb => q.same b (by obtain ⟨c, hc⟩ := rowBlk Hrow2.out hb; exact lt_of_blk hc) id); have Hfin3 : Hid (∀ s : Ext q.w, ∃ s' : Ext w, s.w = s'.w) := (fun s => Hfin2.out (q.thenE s)); have Hq3 : Hid (∀ s : Ext q.w, ∃ s' : Ext W2, s.w = s'.w) := (fun s => ⟨q.thenE s, rfl⟩); have Hsz3 : Hid (w.heap.size ≤ q.w.heap.size) := Nat.le_trans Hsz2.out q.size; generalize q.w = W3 at *; clear q; have k0 : ∀ p : Ext W3, p.w.cell? ⟨b9, 0, none⟩ = some (.int .i64 kd) := (fun p => (cell_at 0 (p.blkE Hbk3.out)).trans e0); have k1 : ∀ p : Ext W3, p.w.cell? ⟨b9, 1, none⟩ = some (.int .i64 ka) := (fun p => (cell_at 1 (p.blkE Hbk3.out)).trans e1); have k2 : ∀ p : Ext W3, p.w.cell? ⟨b9, 2, none⟩ = some (.int .i64 kb) := (fun p => (cell_at 2 (p.blkE Hbk3.out)).trans e2); have k3 : ∀ p : Ext W3, p.w.cell? ⟨b9, 3, none⟩ = some (.string kt) := (fun p => (cell_at 3 (p.blkE Hbk3.out)).trans e3); by_cases hml : m < ks.length; (· obtain ⟨g2, hg2⟩ := hfa (by omega); subst hg2; obtain ⟨⟨xd, xa, xb, xs⟩, hx, gb, goff, hga, hcx⟩ := KeysIn.get (keysIn_row Hrow3.out) hml; obtain ⟨rfl, rfl⟩ : g2 = gb ∧ 0 = goff := (by simpa using hga); have Hx : Hid (ks[m]? = some ⟨xd, xa, xb, xs⟩) := hx; have hxs : xs.size < 4611686018427387904 := Hsx.out _ (List.mem_of_getElem? hx); have x0 : ∀ q : Ext W3, q.w.cell? ⟨g2, m * 4, none⟩ = some (.int .i64 xd) := (fun q => by have := (hcx.keep (q.same _ hcx.lt id)).c0; simpa using this); have x1 : ∀ q : Ext W3, q.w.cell? ⟨g2, m * 4 + 1, none⟩ = some (.int .i64 xa) := (fun q => by have := (hcx.keep (q.same _ hcx.lt id)).c1; simpa using this); have x2 : ∀ q : Ext W3, q.w.cell? ⟨g2, m * 4 + 2, none⟩ = some (.int .i64 xb) := (fun q => by have := (hcx.keep (q.same _ hcx.lt id)).c2; simpa using this); have x3 : ∀ q : Ext W3, q.w.cell? ⟨g2, m * 4 + 3, none⟩ = some (.string xs) := (fun q => by have := (hcx.keep (q.same _ hcx.lt id)).c3; simpa using this); have hO : ∀ q : Ext W3, Calls Try.prog 23 #[keyV ⟨xd, xa, xb, xs⟩, keyV (⟨kd, ka, kb, kt⟩ : Key)] q.w fun e w' => e = .returned (.int .i64 (ordK ⟨xd, xa, xb, xs⟩ (⟨kd, ka, kb, kt⟩ : Key))) ∧ ∃ p : Ext q.w, w' = p.w := (fun q => ref23_any ⟨xd, xa, xb, xs⟩ (⟨kd, ka, kb, kt⟩ : Key) q.w hxs Hkt.out); by_cases ho3 : ordK ⟨xd, xa, xb, xs⟩ (⟨kd, ka, kb, kt⟩ : Key) < 0; (· have Ho : Hid _ := ho3; generalize ordK ⟨xd, xa, xb, xs⟩ (⟨kd, ka, kb, kt⟩ : Key) = o at hO ho3; clear hcx hga hx hxs; go_wp2_with fail; refine wp_region_ch NoS (by kernel_rfl) (by kernel_rfl) (fun q hq => ?_); clear hq; (repeat (first | (refine wpMix_skip rfl rfl ?_) | (refine wpMix_step (fun K hK => ?_); go_simp; (with_reducible (refine hK _ _ ?_)); clear hK K))); refine wpMix_step (fun K hK => ?_); go_simp; refine (Calls.inCh (hO _)).mono ?_; rintro e w' ⟨rfl, q, rfl⟩; refine ⟨⟨q, rfl⟩, hK _ _ ?_⟩; clear hK K; (repeat (first | (refine wpMix_skip rfl rfl ?_) | (refine wpMix_step (fun K hK => ?_); go_simp; (with_reducible (refine hK _ _ ?_)); clear hK K))); refine wpMix_nil ?_; clear k0 k1 k2 k3 x0 x1 x2 x3 hO; go_wp2_with fail; go_roundw; (case rel => exact ⟨Hq3.out q, m + 1, by go_num, by omega, fun j x hj hjx => by (rcases Nat.lt_or_ge j m with h | h; exact Hlt.out j x h hjx; obtain rfl : j = m := (by omega); rw [Hx.out] at hjx; cases hjx; exact Ho.out)⟩); (case measure => simp [intOf]; omega)); (· have Hm : Hid (m = atK ks (⟨kd, ka, kb, kt⟩ : Key)) := atK_unique hm Hlt.out (fun x hxm => by rw [Hx.out] at hxm; cases hxm; exact ho3); generalize ordK ⟨xd, xa, xb, xs⟩ (⟨kd, ka, kb, kt⟩ : Key) = o at hO ho3; clear hcx hga hx hxs; go_wp2_with fail; refine wp_region_ch NoS (by kernel_rfl) (by kernel_rfl) (fun q hq => ?_); clear hq; (repeat (first | (refine wpMix_skip rfl rfl ?_) | (refine wpMix_step (fun K hK => ?_); go_simp; (with_reducible (refine hK _ _ ?_)); clear hK K))); refine wpMix_step (fun K hK => ?_); go_simp; refine (Calls.inCh (hO _)).mono ?_; rintro e w' ⟨rfl, q, rfl⟩; refine ⟨⟨q, rfl⟩, hK _ _ ?_⟩; clear hK K; (repeat (first | (refine wpMix_skip rfl rfl ?_) | (refine wpMix_step (fun K hK => ?_); go_simp; (with_reducible (refine hK _ _ ?_)); clear hK K))); refine wpMix_nil ?_; clear k0 k1 k2 k3 x0 x1 x2 x3 hO; have Hbk4 : Hid _ := q.blkE Hbk3.out; have Hrow4 : Hid (q.w.ownsRow w.heap.size 23 4 (.slice _ ks.length cp) ks.length (rowKey ks)) := rowKeep Hrow3.out (fun b hb => q.same b (by obtain ⟨c, hc⟩ := rowBlk Hrow3.out hb; exact lt_of_blk hc) id); have Hfin4 : Hid (∀ s : Ext q.w, ∃ s' : Ext w, s.w = s'.w) := (fun s => Hfin3.out (q.thenE s)); have Hsz4 : Hid (w.heap.size ≤ q.w.heap.size) := Nat.le_trans Hsz3.out q.size; clear Hq3 Hfin3 Hsz3 Hrow3 Hbk3; generalize q.w = W4 at *; clear q; have k0 : ∀ p : Ext W4, p.w.cell? ⟨b9, 0, none⟩ = some (.int .i64 kd) := (fun p => (cell_at 0 (p.blkE Hbk4.out)).trans e0); have k1 : ∀ p : Ext W4, p.w.cell? ⟨b9, 1, none⟩ = some (.int .i64 ka) := (fun p => (cell_at 1 (p.blkE Hbk4.out)).trans e1); have k2 : ∀ p : Ext W4, p.w.cell? ⟨b9, 2, none⟩ = some (.int .i64 kb) := (fun p => (cell_at 2 (p.blkE Hbk4.out)).trans e2); have k3 : ∀ p : Ext W4, p.w.cell? ⟨b9, 3, none⟩ = some (.string kt) := (fun p => (cell_at 3 (p.blkE Hbk4.out)).trans e3); obtain ⟨inf, hi0, hi1, hi2, hi3⟩ := info23; obtain ⟨g4, cp4, cur, hso, hbg, hgb, hcc4, hcm4, -⟩ := Hrow4.out.2.resolve_left (fun h => by have := h.2; omega); simp only [Value.slice.injEq, true_and] at hso; obtain ⟨hso1, hso2⟩ := hso; subst hso2; obtain rfl : g4 = g2 := (by simpa using hso1.symm); clear hso1; have Hcells : Hid (∀ j, j < ks.length * 4 → W4.cell? ⟨g4, j, none⟩ = (rowKey ks)[j]?) := (fun j hj => Hrow4.out.cellAt j hj); have Hl1 : Hid ((rowKey (ks.take m)).length = m * 4) := (by show _ = _; rw [rowKey_length]; simp <;> omega); have Hnews1 : Hid (∀ j u, (rowKey (ks.take m))[j]? = some u → W4.cell? ((⟨g4, 0, none⟩ : Addr).add j) = some u) := (fun j u hu => by have hj : j < m * 4 := (by rw [← Hl1.out]; exact (List.getElem?_eq_some_iff.1 hu).1); have e : ((⟨g4, 0, none⟩ : Addr).add j) = ⟨g4, j, none⟩ := (by cases j <;> simp [Addr.add]); have hs : rowKey ks = rowKey (ks.take m) ++ rowKey (ks.drop m) := (by rw [← rowKey_append, List.take_append_drop]); rw [e, Hcells.out j (by omega), hs, List.getElem?_append_left (by have := Hl1.out; omega)]; exact hu); have Hl3 : Hid ((rowKey (ks.drop m)).length = (ks.length - m) * 4) := (by show _ = _; rw [rowKey_length]; simp); have Hnews3 : Hid (∀ (q : Ext W4) j u, (rowKey (ks.drop m))[j]? = some u → q.w.cell? ((⟨g4, m * 4, none⟩ : Addr).add j) = some u) := (fun q j u hu => by have hj : j < (ks.length - m) * 4 := (by rw [← Hl3.out]; exact (List.getElem?_eq_some_iff.1 hu).1); have e : ((⟨g4, m * 4, none⟩ : Addr).add j) = ⟨g4, m * 4 + j, none⟩ := (by cases j <;> simp [Addr.add]); have hs : rowKey ks = rowKey (ks.take m) ++ rowKey (ks.drop m) := (by rw [← rowKey_append, List.take_append_drop]); rw [e, World.cell?_of_block (w := W4) (a := ⟨g4, m * 4 + j, none⟩) (q.same _ (lt_of_blk hgb) id), Hcells.out _ (by omega), hs, List.getElem?_append_right (by have := Hl1.out; omega), Hl1.out, Nat.add_sub_cancel_left]; exact hu); have hmcp : m < cp := (by omega); have hmne : m ≠ cp := (by omega); go_wp2_with (first | (at_builtin; refine wpList_append_own_at _ rfl _ _ 41 rfl w.heap.size 23 inf _ 4 40 Try.underlying41 hi0 hi1 hi2 hi3 rfl (by decide) (.slice none 0 0) 0 [] rfl (World.ownsRow_nil W4 _ 23 4) ⟨g4, 0, none⟩ m cp (rowKey (ks.take m)) rfl Hl1.out Hnews1.out (oneCell_rowKey _) (by unfold maxLen; omega) (by omega) Hsz4.out ?_; intro v1 w1 hown1 hgrow1 hnil1 hloc1; obtain ⟨q1, hq1⟩ : ∃ q1 : Ext W4, w1 = q1.w := ⟨(Ch.refl NoS W4).grown hgrow1 (fun b _ e => by cases e), rfl⟩; subst hq1; have Hown1 : Hid (q1.w.ownsRow w.heap.size 23 4 v1 m (rowKey (ks.take m))) := (by show World.ownsRow _ _ _ _ _ _ _; simpa using hown1); have Hloc1 : Hid (∀ b, v1.ownBlock = some b → W4.heap.size ≤ b) := (fun b hb => by rcases hloc1 with h | h; rw [h] at hb; cases hb; rw [h] at hb; cases hb; exact Nat.le_refl _); clear hown1 hgrow1 hnil1 hloc1) | (at_builtin; (refine wpList_append_own_at _ rfl _ _ 41 rfl w.heap.size 23 inf _ 4 40 Try.underlying41 hi0 hi1 hi2 hi3 rfl (by decide) v1 m (rowKey (ks.take m)) rfl (Hown1.out.alloc _) ⟨q1.w.heap.size, 0, none⟩ 1 1 (encKey (⟨kd, ka, kb, kt⟩ : Key)) rfl rfl (news_key _ _) (fun u hu => oneCell_rowKey [(⟨kd, ka, kb, kt⟩ : Key)] u (by simpa [rowKey] using hu)) (by unfold maxLen; omega) (by omega) (Nat.le_trans (Nat.le_trans Hsz4.out q1.size) (by simp)) ?_); intro v2 w2 hown2 hgrow2 hnil2 hloc2; obtain ⟨q2, hq2⟩ : ∃ q2 : Ext W4, w2 = q2.w := ⟨(q1.alloc (.cells (keyCells kd ka kb kt) 23)).grown hgrow2 (fun b hb e => absurd (Hloc1.out b e) (by omega)), rfl⟩; subst hq2; have Hown2 : Hid (q2.w.ownsRow w.heap.size 23 4 v2 (m + 1) (rowKey (ks.take m) ++ encKey (⟨kd, ka, kb, kt⟩ : Key))) := hown2; have Hloc2 : Hid (∀ b, v2.ownBlock = some b → W4.heap.size ≤ b) := (fun b hb => by rcases hloc2 with h | h; exact Hloc1.out b (by rw [← h]; exact hb); rw [h] at hb; cases hb; have := q1.size; simp; omega); clear hown2 hgrow2 hnil2 hloc2) | (at_builtin; (refine wpList_append_own_at _ rfl _ _ 41 rfl w.heap.size 23 inf _ 4 40 Try.underlying41 hi0 hi1 hi2 hi3 rfl (by decide) v2 (m + 1) (rowKey (ks.take m) ++ encKey (⟨kd, ka, kb, kt⟩ : Key)) rfl Hown2.out ⟨g4, m * 4, none⟩ (ks.length - m) (cp - m) (rowKey (ks.drop m)) rfl Hl3.out (Hnews3.out q2) (oneCell_rowKey _) (by unfold maxLen; omega) (by omega) (Nat.le_trans Hsz4.out q2.size) ?_); intro v3 w3 hown3 hgrow3 hnil3 hloc3; obtain ⟨q3, hq3⟩ : ∃ q3 : Ext W4, w3 = q3.w := ⟨q2.grown hgrow3 (fun b hb e => absurd (Hloc2.out b e) (by omega)), rfl⟩; subst hq3; have Hown3 : Hid _ := hown3; clear hown3 hgrow3 hnil3 hloc3)); obtain ⟨r', hr'⟩ := Hfin4.out q3; refine ⟨⟨r', i + 1, insK ks (⟨kd, ka, kb, kt⟩ : Key), hr', by go_num, by omega, (by rw [insK_length]; omega), ?_, (by rw [Hnext.out]; simp [selR])⟩, by simp [intOf] <;> omega⟩; have h3 := Hown3.out; rw [← hr', insK_length]; unfold insK; rw [← Hm.out, rowKey_append]; have e : m + 1 + (ks.length - m) = ks.length + 1 := (by omega); rw [e, List.append_assoc] at h3; exact h3)); (· have Hm : Hid (m = atK ks (⟨kd, ka, kb, kt⟩ : Key)) := atK_unique hm Hlt.out (fun x hxm => by have := (List.getElem?_eq_some_iff.1 hxm).1; omega); go_wp2_with fail; refine wp_region_ch NoS (by kernel_rfl) (by kernel_rfl) (fun q hq => ?_); clear hq; (repeat (first | (refine wpMix_skip rfl rfl ?_) | (refine wpMix_step (fun K hK => ?_); go_simp; (with_reducible (refine hK _ _ ?_)); clear hK K))); refine wpMix_nil ?_; clear k0 k1 k2 k3; have Hbk4 : Hid _ := q.blkE Hbk3.out; have Hrow4 : Hid (q.w.ownsRow w.heap.size 23 4 (.slice _ ks.length cp) ks.length (rowKey ks)) := rowKeep Hrow3.out (fun b hb => q.same b (by obtain ⟨c, hc⟩ := rowBlk Hrow3.out hb; exact lt_of_blk hc) id); have Hfin4 : Hid (∀ s : Ext q.w, ∃ s' : Ext w, s.w = s'.w) := (fun s => Hfin3.out (q.thenE s)); have Hsz4 : Hid (w.heap.size ≤ q.w.heap.size) := Nat.le_trans Hsz3.out q.size; clear Hq3 Hfin3 Hsz3 Hrow3 Hbk3; generalize q.w = W4 at *; clear q; have k0 : ∀ p : Ext W4, p.w.cell? ⟨b9, 0, none⟩ = some (.int .i64 kd) := (fun p => (cell_at 0 (p.blkE Hbk4.out)).trans e0); have k1 : ∀ p : Ext W4, p.w.cell? ⟨b9, 1, none⟩ = some (.int .i64 ka) := (fun p => (cell_at 1 (p.blkE Hbk4.out)).trans e1); have k2 : ∀ p : Ext W4, p.w.cell? ⟨b9, 2, none⟩ = some (.int .i64 kb) := (fun p => (cell_at 2 (p.blkE Hbk4.out)).trans e2); have k3 : ∀ p : Ext W4, p.w.cell? ⟨b9, 3, none⟩ = some (.string kt) := (fun p => (cell_at 3 (p.blkE Hbk4.out)).trans e3); obtain ⟨inf, hi0, hi1, hi2, hi3⟩ := info23; obtain rfl : m = ks.length := (by omega); rcases Hrow4.out.2 with ⟨hno, h0⟩ | ⟨g4, cp4, cur, hso, hbg, hgb, hcc4, hcm4, -⟩; (· obtain ⟨hn1, -, hn3⟩ : fa = none ∧ ks.length = 0 ∧ cp = 0 := (by simpa using hno); subst hn1; subst hn3; obtain rfl : ks = [] := List.length_eq_zero_iff.1 h0; replace k0 : W4.cell? ⟨b9, 0, none⟩ = some (.int .i64 kd) := k0 (Ch.refl NoS W4); replace k1 : W4.cell? ⟨b9, 1, none⟩ = some (.int .i64 ka) := k1 (Ch.refl NoS W4); replace k2 : W4.cell? ⟨b9, 2, none⟩ = some (.int .i64 kb) := k2 (Ch.refl NoS W4); replace k3 : W4.cell? ⟨b9, 3, none⟩ = some (.string kt) := k3 (Ch.refl NoS W4); go_wp2_with (first | (at_builtin; refine wpList_append_own_at _ rfl _ _ 41 rfl w.heap.size 23 inf _ 4 40 Try.underlying41 hi0 hi1 hi2 hi3 rfl (by decide) (.slice none 0 0) 0 [] rfl (World.ownsRow_nil (W4.alloc (.cells (keyCells kd ka kb kt) 23)) _ 23 4) ⟨W4.heap.size, 0, none⟩ 1 1 (encKey (⟨kd, ka, kb, kt⟩ : Key)) rfl rfl (news_key _ _) (fun u hu => oneCell_rowKey [(⟨kd, ka, kb, kt⟩ : Key)] u (by simpa [rowKey] using hu)) (by unfold maxLen; omega) (by omega) (Nat.le_trans Hsz4.out (by simp)) ?_; intro v2 w2 hown2 hgrow2 hnil2 hloc2; obtain ⟨fa2, cap2, hv2, hcap2, hg5⟩ := row_form hown2; have hcap3 : 1 ≤ cap2 := (by omega); obtain ⟨g5, hg5⟩ := hg5 (by omega); subst hg5; subst hv2; obtain ⟨q3, hq2⟩ : ∃ q2 : Ext W4, w2 = q2.w := ⟨((Ch.refl NoS W4).alloc (.cells (keyCells kd ka kb kt) 23)).grown hgrow2 (fun b hb e => by cases e), rfl⟩; subst hq2; have Hown3 : Hid (q3.w.ownsRow w.heap.size 23 4 (.slice (some ⟨g5, 0, none⟩) (0 + 1) cap2) (0 + 1) ([] ++ encKey (⟨kd, ka, kb, kt⟩ : Key))) := hown2; clear hown2 hgrow2 hnil2 hloc2)); obtain ⟨r', hr'⟩ := Hfin4.out q3; refine ⟨⟨r', i + 1, insK ([] : List Key) (⟨kd, ka, kb, kt⟩ : Key), hr', by go_num, by omega, (by rw [insK_length]; omega), ?_, (by rw [Hnext.out]; simp [selR])⟩, by simp [intOf] <;> omega⟩; have h3 := Hown3.out; rw [← hr', insK_length]; unfold insK; rw [← Hm.out, rowKey_append]; simpa [rowKey, atK] using h3); (· simp only [Value.slice.injEq, true_and] at hso; obtain ⟨hso1, hso2⟩ := hso; subst hso2; subst hso1; have Hcells : Hid (∀ j, j < ks.length * 4 → W4.cell? ⟨g4, j, none⟩ = (rowKey ks)[j]?) := (fun j hj => Hrow4.out.cellAt j hj); have Hl1 : Hid ((rowKey (ks.take ks.length)).length = ks.length * 4) := (by show _ = _; rw [rowKey_length]; simp <;> omega); have Hnews1 : Hid (∀ j u, (rowKey (ks.take ks.length))[j]? = some u → W4.cell? ((⟨g4, 0, none⟩ : Addr).add j) = some u) := (fun j u hu => by have hj : j < ks.length * 4 := (by rw [← Hl1.out]; exact (List.getElem?_eq_some_iff.1 hu).1); have e : ((⟨g4, 0, none⟩ : Addr).add j) = ⟨g4, j, none⟩ := (by cases j <;> simp [Addr.add]); have hs : rowKey ks = rowKey (ks.take ks.length) ++ rowKey (ks.drop ks.length) := (by rw [← rowKey_append, List.take_append_drop]); rw [e, Hcells.out j (by omega), hs, List.getElem?_append_left (by have := Hl1.out; omega)]; exact hu); have Hl3 : Hid ((rowKey (ks.drop ks.length)).length = (ks.length - ks.length) * 4) := (by show _ = _; rw [rowKey_length]; simp); have Hnews3 : Hid (∀ (q : Ext W4) j u, (rowKey (ks.drop ks.length))[j]? = some u → q.w.cell? ((⟨g4, ks.length * 4, none⟩ : Addr).add j) = some u) := (fun q j u hu => by have hj : j < (ks.length - ks.length) * 4 := (by rw [← Hl3.out]; exact (List.getElem?_eq_some_iff.1 hu).1); have e : ((⟨g4, ks.length * 4, none⟩ : Addr).add j) = ⟨g4, ks.length * 4 + j, none⟩ := (by cases j <;> simp [Addr.add]); have hs : rowKey ks = rowKey (ks.take ks.length) ++ rowKey (ks.drop ks.length) := (by rw [← rowKey_append, List.take_append_drop]); rw [e, World.cell?_of_block (w := W4) (a := ⟨g4, ks.length * 4 + j, none⟩) (q.same _ (lt_of_blk hgb) id), Hcells.out _ (by omega), hs, List.getElem?_append_right (by have := Hl1.out; omega), Hl1.out, Nat.add_sub_cancel_left]; exact hu); by_cases hmc : cp = ks.length; (· subst hmc; go_wp2_with (first | (at_builtin; refine wpList_append_own_at _ rfl _ _ 41 rfl w.heap.size 23 inf _ 4 40 Try.underlying41 hi0 hi1 hi2 hi3 rfl (by decide) (.slice none 0 0) 0 [] rfl (World.ownsRow_nil W4 _ 23 4) ⟨g4, 0, none⟩ ks.length ks.length (rowKey (ks.take ks.length)) rfl Hl1.out Hnews1.out (oneCell_rowKey _) (by unfold maxLen; omega) (by omega) Hsz4.out ?_; intro v1 w1 hown1 hgrow1 hnil1 hloc1; obtain ⟨q1, hq1⟩ : ∃ q1 : Ext W4, w1 = q1.w := ⟨(Ch.refl NoS W4).grown hgrow1 (fun b _ e => by cases e), rfl⟩; subst hq1; have Hown1 : Hid (q1.w.ownsRow w.heap.size 23 4 v1 ks.length (rowKey (ks.take ks.length))) := (by show World.ownsRow _ _ _ _ _ _ _; simpa using hown1); have Hloc1 : Hid (∀ b, v1.ownBlock = some b → W4.heap.size ≤ b) := (fun b hb => by rcases hloc1 with h | h; rw [h] at hb; cases hb; rw [h] at hb; cases hb; exact Nat.le_refl _); clear hown1 hgrow1 hnil1 hloc1) | (at_builtin; (refine wpList_append_own_at _ rfl _ _ 41 rfl w.heap.size 23 inf _ 4 40 Try.underlying41 hi0 hi1 hi2 hi3 rfl (by decide) v1 ks.length (rowKey (ks.take ks.length)) rfl (Hown1.out.alloc _) ⟨q1.w.heap.size, 0, none⟩ 1 1 (encKey (⟨kd, ka, kb, kt⟩ : Key)) rfl rfl (news_key _ _) (fun u hu => oneCell_rowKey [(⟨kd, ka, kb, kt⟩ : Key)] u (by simpa [rowKey] using hu)) (by unfold maxLen; omega) (by omega) (Nat.le_trans (Nat.le_trans Hsz4.out q1.size) (by simp)) ?_); intro v2 w2 hown2 hgrow2 hnil2 hloc2; obtain ⟨q2, hq2⟩ : ∃ q2 : Ext W4, w2 = q2.w := ⟨(q1.alloc (.cells (keyCells kd ka kb kt) 23)).grown hgrow2 (fun b hb e => absurd (Hloc1.out b e) (by omega)), rfl⟩; subst hq2; have Hown2 : Hid (q2.w.ownsRow w.heap.size 23 4 v2 (ks.length + 1) (rowKey (ks.take ks.length) ++ encKey (⟨kd, ka, kb, kt⟩ : Key))) := hown2; have Hloc2 : Hid (∀ b, v2.ownBlock = some b → W4.heap.size ≤ b) := (fun b hb => by rcases hloc2 with h | h; exact Hloc1.out b (by rw [← h]; exact hb); rw [h] at hb; cases hb; have := q1.size; simp; omega); clear hown2 hgrow2 hnil2 hloc2) | (at_builtin; (refine wpList_append_own_at _ rfl _ _ 41 rfl w.heap.size 23 inf _ 4 40 Try.underlying41 hi0 hi1 hi2 hi3 rfl (by decide) v2 (ks.length + 1) (rowKey (ks.take ks.length) ++ encKey (⟨kd, ka, kb, kt⟩ : Key)) rfl Hown2.out ⟨g4, 0, none⟩ 0 0 [] rfl rfl (by simp) (by simp) (by unfold maxLen; omega) (by omega) (Nat.le_trans Hsz4.out q2.size) ?_); intro v3 w3 hown3 hgrow3 hnil3 hloc3; obtain ⟨q3, hq3⟩ : ∃ q3 : Ext W4, w3 = q3.w := ⟨q2.grown hgrow3 (fun b hb e => absurd (Hloc2.out b e) (by omega)), rfl⟩; subst hq3; have Hown3 : Hid _ := hown3; clear hown3 hgrow3 hnil3 hloc3)); obtain ⟨r', hr'⟩ := Hfin4.out q3; refine ⟨⟨r', i + 1, insK ks (⟨kd, ka, kb, kt⟩ : Key), hr', by go_num, by omega, (by rw [insK_length]; omega), ?_, (by rw [Hnext.out]; simp [selR])⟩, by simp [intOf] <;> omega⟩; have h3 := Hown3.out; rw [← hr', insK_length]; unfold insK; rw [← Hm.out, rowKey_append]; rw [List.drop_length]; rw [List.append_nil] at h3; exact h3); (· have hmcp : ks.length < cp := (by omega); go_wp2_with (first | (at_builtin; refine wpList_append_own_at _ rfl _ _ 41 rfl w.heap.size 23 inf _ 4 40 Try.underlying41 hi0 hi1 hi2 hi3 rfl (by decide) (.slice none 0 0) 0 [] rfl (World.ownsRow_nil W4 _ 23 4) ⟨g4, 0, none⟩ ks.length cp (rowKey (ks.take ks.length)) rfl Hl1.out Hnews1.out (oneCell_rowKey _) (by unfold maxLen; omega) (by omega) Hsz4.out ?_; intro v1 w1 hown1 hgrow1 hnil1 hloc1; obtain ⟨q1, hq1⟩ : ∃ q1 : Ext W4, w1 = q1.w := ⟨(Ch.refl NoS W4).grown hgrow1 (fun b _ e => by cases e), rfl⟩; subst hq1; have Hown1 : Hid (q1.w.ownsRow w.heap.size 23 4 v1 ks.length (rowKey (ks.take ks.length))) := (by show World.ownsRow _ _ _ _ _ _ _; simpa using hown1); have Hloc1 : Hid (∀ b, v1.ownBlock = some b → W4.heap.size ≤ b) := (fun b hb => by rcases hloc1 with h | h; rw [h] at hb; cases hb; rw [h] at hb; cases hb; exact Nat.le_refl _); clear hown1 hgrow1 hnil1 hloc1) | (at_builtin; (refine wpList_append_own_at _ rfl _ _ 41 rfl w.heap.size 23 inf _ 4 40 Try.underlying41 hi0 hi1 hi2 hi3 rfl (by decide) v1 ks.length (rowKey (ks.take ks.length)) rfl (Hown1.out.alloc _) ⟨q1.w.heap.size, 0, none⟩ 1 1 (encKey (⟨kd, ka, kb, kt⟩ : Key)) rfl rfl (news_key _ _) (fun u hu => oneCell_rowKey [(⟨kd, ka, kb, kt⟩ : Key)] u (by simpa [rowKey] using hu)) (by unfold maxLen; omega) (by omega) (Nat.le_trans (Nat.le_trans Hsz4.out q1.size) (by simp)) ?_); intro v2 w2 hown2 hgrow2 hnil2 hloc2; obtain ⟨q2, hq2⟩ : ∃ q2 : Ext W4, w2 = q2.w := ⟨(q1.alloc (.cells (keyCells kd ka kb kt) 23)).grown hgrow2 (fun b hb e => absurd (Hloc1.out b e) (by omega)), rfl⟩; subst hq2; have Hown2 : Hid (q2.w.ownsRow w.heap.size 23 4 v2 (ks.length + 1) (rowKey (ks.take ks.length) ++ encKey (⟨kd, ka, kb, kt⟩ : Key))) := hown2; have Hloc2 : Hid (∀ b, v2.ownBlock = some b → W4.heap.size ≤ b) := (fun b hb => by rcases hloc2 with h | h; exact Hloc1.out b (by rw [← h]; exact hb); rw [h] at hb; cases hb; have := q1.size; simp; omega); clear hown2 hgrow2 hnil2 hloc2) | (at_builtin; (refine wpList_append_own_at _ rfl _ _ 41 rfl w.heap.size 23 inf _ 4 40 Try.underlying41 hi0 hi1 hi2 hi3 rfl (by decide) v2 (ks.length + 1) (rowKey (ks.take ks.length) ++ encKey (⟨kd, ka, kb, kt⟩ : Key)) rfl Hown2.out ⟨g4, ks.length * 4, none⟩ 0 (cp - ks.length) [] rfl rfl (by simp) (by simp) (by unfold maxLen; omega) (by omega) (Nat.le_trans Hsz4.out q2.size) ?_); intro v3 w3 hown3 hgrow3 hnil3 hloc3; obtain ⟨q3, hq3⟩ : ∃ q3 : Ext W4, w3 = q3.w := ⟨q2.grown hgrow3 (fun b hb e => absurd (Hloc2.out b e) (by omega)), rfl⟩; subst hq3; have Hown3 : Hid _ := hown3; clear hown3 hgrow3 hnil3 hloc3)); obtain ⟨r', hr'⟩ := Hfin4.out q3; refine ⟨⟨r', i + 1, insK ks (⟨kd, ka, kb, kt⟩ : Key), hr', by go_num, by omega, (by rw [insK_length]; omega), ?_, (by rw [Hnext.out]; simp [selR])⟩, by simp [intOf] <;> omega⟩; have h3 := Hown3.out; rw [← hr', insK_length]; unfold insK; rw [← Hm.out, rowKey_append]; rw [List.drop_length]; rw [List.append_nil] at h3; exact h3)))))
          · have ho' : (xo != who) = true := by simpa using ho
            go_wp2_with fail; go_roundw; (case rel => (obtain ⟨q', hq'⟩ := Hfin.out ((Ch.refl NoS W1).alloc _); refine ⟨q', i + 1, ks, hq', by go_num, by omega, by omega, by (rw [← hq']; exact World.ownsRow.alloc Hrow.out _), ?_⟩; rw [Hnext.out]; simp_all [selR])); (case measure => simp [intOf]; omega)
      · cases xh
        · go_wp2_with fail; go_roundw; (case rel => (obtain ⟨q', hq'⟩ := Hfin.out ((Ch.refl NoS W1).alloc _); refine ⟨q', i + 1, ks, hq', by go_num, by omega, by omega, by (rw [← hq']; exact World.ownsRow.alloc Hrow.out _), ?_⟩; rw [Hnext.out]; simp_all [selR])); (case measure => simp [intOf]; omega)
        · go_wp2_with fail; obtain ⟨b9, hb9⟩ : ∃ n, n = W1.heap.size := ⟨_, rfl⟩; rw [← hb9]; generalize hW2 : World.alloc W1 _ = W2; have hbk : ∃ c, W2.heap[b9]? = some (.cells c 46 (0, 0)) ∧ c[0]? = some (.int .i64 kd) ∧ c[1]? = some (.int .i64 ka) ∧ c[2]? = some (.int .i64 kb) ∧ c[3]? = some (.string kt) := ⟨_, (by rw [← hW2, hb9]; exact heap_alloc_at _ _), rfl, rfl, rfl, rfl⟩; obtain ⟨bc, hbk, e0, e1, e2, e3⟩ := hbk; have Hbk : Hid _ := hbk; have Hrow2 : Hid (W2.ownsRow w.heap.size 23 4 (.slice fa ks.length cp) ks.length (rowKey ks)) := (by show World.ownsRow _ _ _ _ _ _ _; rw [← hW2]; exact World.ownsRow.alloc Hrow.out _); have Hfin2 : Hid (∀ q : Ext W2, ∃ q' : Ext w, q.w = q'.w) := (fun q => Hfin.out (((Ch.refl NoS W1).alloc _).onto hW2.symm q (fun _ _ h => h))); have Hsz2 : Hid (w.heap.size ≤ W2.heap.size) := (by show _ ≤ _; rw [← hW2]; have := Hsz.out; simp; omega); clear hbk c0 c1 c2 c3 c4 c5 c6 c7 c8 s1 hW2 hb9 Hrow Hfin Hsz; clear W1; go_loopw [10] (fun v w' => (∃ p : Ext W2, w' = p.w) ∧ ∃ m : Nat, v = .int .i64 m ∧ m ≤ ks.length ∧ ∀ j x, j < m → ks[j]? = some x → ordK x (⟨kd, ka, kb, kt⟩ : Key) < 0) (fun v _ => ks.length - (intOf v).toNat); (case atStart => exact ⟨⟨Ch.refl NoS _, rfl⟩, 0, rfl, by omega, fun j x h => by omega⟩); (case round => (obtain ⟨⟨q, rfl⟩, m, rfl, hm, hlt0⟩ := hrel; have Hlt : Hid _ := hlt0; clear hlt0; have Hbk3 : Hid _ := q.blkE Hbk.out; have Hrow3 : Hid (q.w.ownsRow w.heap.size 23 4 (.slice fa ks.length cp) ks.length (rowKey ks)) := rowKeep Hrow2.out (fun b hb => q.same b (by obtain ⟨c, hc⟩ := rowBlk Hrow2.out hb; exact lt_of_blk hc) id); have Hfin3 : Hid (∀ s : Ext q.w, ∃ s' : Ext w, s.w = s'.w) := (fun s => Hfin2.out (q.thenE s)); have Hq3 : Hid (∀ s : Ext q.w, ∃ s' : Ext W2, s.w = s'.w) := (fun s => ⟨q.thenE s, rfl⟩); have Hsz3 : Hid (w.heap.size ≤ q.w.heap.size) := Nat.le_trans Hsz2.out q.size; generalize q.w = W3 at *; clear q; have k0 : ∀ p : Ext W3, p.w.cell? ⟨b9, 0, none⟩ = some (.int .i64 kd) := (fun p => (cell_at 0 (p.blkE Hbk3.out)).trans e0); have k1 : ∀ p : Ext W3, p.w.cell? ⟨b9, 1, none⟩ = some (.int .i64 ka) := (fun p => (cell_at 1 (p.blkE Hbk3.out)).trans e1); have k2 : ∀ p : Ext W3, p.w.cell? ⟨b9, 2, none⟩ = some (.int .i64 kb) := (fun p => (cell_at 2 (p.blkE Hbk3.out)).trans e2); have k3 : ∀ p : Ext W3, p.w.cell? ⟨b9, 3, none⟩ = some (.string kt) := (fun p => (cell_at 3 (p.blkE Hbk3.out)).trans e3); by_cases hml : m < ks.length; (· obtain ⟨g2, hg2⟩ := hfa (by omega); subst hg2; obtain ⟨⟨xd, xa, xb, xs⟩, hx, gb, goff, hga, hcx⟩ := KeysIn.get (keysIn_row Hrow3.out) hml; obtain ⟨rfl, rfl⟩ : g2 = gb ∧ 0 = goff := (by simpa using hga); have Hx : Hid (ks[m]? = some ⟨xd, xa, xb, xs⟩) := hx; have hxs : xs.size < 4611686018427387904 := Hsx.out _ (List.mem_of_getElem? hx); have x0 : ∀ q : Ext W3, q.w.cell? ⟨g2, m * 4, none⟩ = some (.int .i64 xd) := (fun q => by have := (hcx.keep (q.same _ hcx.lt id)).c0; simpa using this); have x1 : ∀ q : Ext W3, q.w.cell? ⟨g2, m * 4 + 1, none⟩ = some (.int .i64 xa) := (fun q => by have := (hcx.keep (q.same _ hcx.lt id)).c1; simpa using this); have x2 : ∀ q : Ext W3, q.w.cell? ⟨g2, m * 4 + 2, none⟩ = some (.int .i64 xb) := (fun q => by have := (hcx.keep (q.same _ hcx.lt id)).c2; simpa using this); have x3 : ∀ q : Ext W3, q.w.cell? ⟨g2, m * 4 + 3, none⟩ = some (.string xs) := (fun q => by have := (hcx.keep (q.same _ hcx.lt id)).c3; simpa using this); have hO : ∀ q : Ext W3, Calls Try.prog 23 #[keyV ⟨xd, xa, xb, xs⟩, keyV (⟨kd, ka, kb, kt⟩ : Key)] q.w fun e w' => e = .returned (.int .i64 (ordK ⟨xd, xa, xb, xs⟩ (⟨kd, ka, kb, kt⟩ : Key))) ∧ ∃ p : Ext q.w, w' = p.w := (fun q => ref23_any ⟨xd, xa, xb, xs⟩ (⟨kd, ka, kb, kt⟩ : Key) q.w hxs Hkt.out); by_cases ho3 : ordK ⟨xd, xa, xb, xs⟩ (⟨kd, ka, kb, kt⟩ : Key) < 0; (· have Ho : Hid _ := ho3; generalize ordK ⟨xd, xa, xb, xs⟩ (⟨kd, ka, kb, kt⟩ : Key) = o at hO ho3; clear hcx hga hx hxs; go_wp2_with fail; refine wp_region_ch NoS (by kernel_rfl) (by kernel_rfl) (fun q hq => ?_); clear hq; (repeat (first | (refine wpMix_skip rfl rfl ?_) | (refine wpMix_step (fun K hK => ?_); go_simp; (with_reducible (refine hK _ _ ?_)); clear hK K))); refine wpMix_step (fun K hK => ?_); go_simp; refine (Calls.inCh (hO _)).mono ?_; rintro e w' ⟨rfl, q, rfl⟩; refine ⟨⟨q, rfl⟩, hK _ _ ?_⟩; clear hK K; (repeat (first | (refine wpMix_skip rfl rfl ?_) | (refine wpMix_step (fun K hK => ?_); go_simp; (with_reducible (refine hK _ _ ?_)); clear hK K))); refine wpMix_nil ?_; clear k0 k1 k2 k3 x0 x1 x2 x3 hO; go_wp2_with fail; go_roundw; (case rel => exact ⟨Hq3.out q, m + 1, by go_num, by omega, fun j x hj hjx => by (rcases Nat.lt_or_ge j m with h | h; exact Hlt.out j x h hjx; obtain rfl : j = m := (by omega); rw [Hx.out] at hjx; cases hjx; exact Ho.out)⟩); (case measure => simp [intOf]; omega)); (· have Hm : Hid (m = atK ks (⟨kd, ka, kb, kt⟩ : Key)) := atK_unique hm Hlt.out (fun x hxm => by rw [Hx.out] at hxm; cases hxm; exact ho3); generalize ordK ⟨xd, xa, xb, xs⟩ (⟨kd, ka, kb, kt⟩ : Key) = o at hO ho3; clear hcx hga hx hxs; go_wp2_with fail; refine wp_region_ch NoS (by kernel_rfl) (by kernel_rfl) (fun q hq => ?_); clear hq; (repeat (first | (refine wpMix_skip rfl rfl ?_) | (refine wpMix_step (fun K hK => ?_); go_simp; (with_reducible (refine hK _ _ ?_)); clear hK K))); refine wpMix_step (fun K hK => ?_); go_simp; refine (Calls.inCh (hO _)).mono ?_; rintro e w' ⟨rfl, q, rfl⟩; refine ⟨⟨q, rfl⟩, hK _ _ ?_⟩; clear hK K; (repeat (first | (refine wpMix_skip rfl rfl ?_) | (refine wpMix_step (fun K hK => ?_); go_simp; (with_reducible (refine hK _ _ ?_)); clear hK K))); refine wpMix_nil ?_; clear k0 k1 k2 k3 x0 x1 x2 x3 hO; have Hbk4 : Hid _ := q.blkE Hbk3.out; have Hrow4 : Hid (q.w.ownsRow w.heap.size 23 4 (.slice _ ks.length cp) ks.length (rowKey ks)) := rowKeep Hrow3.out (fun b hb => q.same b (by obtain ⟨c, hc⟩ := rowBlk Hrow3.out hb; exact lt_of_blk hc) id); have Hfin4 : Hid (∀ s : Ext q.w, ∃ s' : Ext w, s.w = s'.w) := (fun s => Hfin3.out (q.thenE s)); have Hsz4 : Hid (w.heap.size ≤ q.w.heap.size) := Nat.le_trans Hsz3.out q.size; clear Hq3 Hfin3 Hsz3 Hrow3 Hbk3; generalize q.w = W4 at *; clear q; have k0 : ∀ p : Ext W4, p.w.cell? ⟨b9, 0, none⟩ = some (.int .i64 kd) := (fun p => (cell_at 0 (p.blkE Hbk4.out)).trans e0); have k1 : ∀ p : Ext W4, p.w.cell? ⟨b9, 1, none⟩ = some (.int .i64 ka) := (fun p => (cell_at 1 (p.blkE Hbk4.out)).trans e1); have k2 : ∀ p : Ext W4, p.w.cell? ⟨b9, 2, none⟩ = some (.int .i64 kb) := (fun p => (cell_at 2 (p.blkE Hbk4.out)).trans e2); have k3 : ∀ p : Ext W4, p.w.cell? ⟨b9, 3, none⟩ = some (.string kt) := (fun p => (cell_at 3 (p.blkE Hbk4.out)).trans e3); obtain ⟨inf, hi0, hi1, hi2, hi3⟩ := info23; obtain ⟨g4, cp4, cur, hso, hbg, hgb, hcc4, hcm4, -⟩ := Hrow4.out.2.resolve_left (fun h => by have := h.2; omega); simp only [Value.slice.injEq, true_and] at hso; obtain ⟨hso1, hso2⟩ := hso; subst hso2; obtain rfl : g4 = g2 := (by simpa using hso1.symm); clear hso1; have Hcells : Hid (∀ j, j < ks.length * 4 → W4.cell? ⟨g4, j, none⟩ = (rowKey ks)[j]?) := (fun j hj => Hrow4.out.cellAt j hj); have Hl1 : Hid ((rowKey (ks.take m)).length = m * 4) := (by show _ = _; rw [rowKey_length]; simp <;> omega); have Hnews1 : Hid (∀ j u, (rowKey (ks.take m))[j]? = some u → W4.cell? ((⟨g4, 0, none⟩ : Addr).add j) = some u) := (fun j u hu => by have hj : j < m * 4 := (by rw [← Hl1.out]; exact (List.getElem?_eq_some_iff.1 hu).1); have e : ((⟨g4, 0, none⟩ : Addr).add j) = ⟨g4, j, none⟩ := (by cases j <;> simp [Addr.add]); have hs : rowKey ks = rowKey (ks.take m) ++ rowKey (ks.drop m) := (by rw [← rowKey_append, List.take_append_drop]); rw [e, Hcells.out j (by omega), hs, List.getElem?_append_left (by have := Hl1.out; omega)]; exact hu); have Hl3 : Hid ((rowKey (ks.drop m)).length = (ks.length - m) * 4) := (by show _ = _; rw [rowKey_length]; simp); have Hnews3 : Hid (∀ (q : Ext W4) j u, (rowKey (ks.drop m))[j]? = some u → q.w.cell? ((⟨g4, m * 4, none⟩ : Addr).add j) = some u) := (fun q j u hu => by have hj : j < (ks.length - m) * 4 := (by rw [← Hl3.out]; exact (List.getElem?_eq_some_iff.1 hu).1); have e : ((⟨g4, m * 4, none⟩ : Addr).add j) = ⟨g4, m * 4 + j, none⟩ := (by cases j <;> simp [Addr.add]); have hs : rowKey ks = rowKey (ks.take m) ++ rowKey (ks.drop m) := (by rw [← rowKey_append, List.take_append_drop]); rw [e, World.cell?_of_block (w := W4) (a := ⟨g4, m * 4 + j, none⟩) (q.same _ (lt_of_blk hgb) id), Hcells.out _ (by omega), hs, List.getElem?_append_right (by have := Hl1.out; omega), Hl1.out, Nat.add_sub_cancel_left]; exact hu); have hmcp : m < cp := (by omega); have hmne : m ≠ cp := (by omega); go_wp2_with (first | (at_builtin; refine wpList_append_own_at _ rfl _ _ 41 rfl w.heap.size 23 inf _ 4 40 Try.underlying41 hi0 hi1 hi2 hi3 rfl (by decide) (.slice none 0 0) 0 [] rfl (World.ownsRow_nil W4 _ 23 4) ⟨g4, 0, none⟩ m cp (rowKey (ks.take m)) rfl Hl1.out Hnews1.out (oneCell_rowKey _) (by unfold maxLen; omega) (by omega) Hsz4.out ?_; intro v1 w1 hown1 hgrow1 hnil1 hloc1; obtain ⟨q1, hq1⟩ : ∃ q1 : Ext W4, w1 = q1.w := ⟨(Ch.refl NoS W4).grown hgrow1 (fun b _ e => by cases e), rfl⟩; subst hq1; have Hown1 : Hid (q1.w.ownsRow w.heap.size 23 4 v1 m (rowKey (ks.take m))) := (by show World.ownsRow _ _ _ _ _ _ _; simpa using hown1); have Hloc1 : Hid (∀ b, v1.ownBlock = some b → W4.heap.size ≤ b) := (fun b hb => by rcases hloc1 with h | h; rw [h] at hb; cases hb; rw [h] at hb; cases hb; exact Nat.le_refl _); clear hown1 hgrow1 hnil1 hloc1) | (at_builtin; (refine wpList_append_own_at _ rfl _ _ 41 rfl w.heap.size 23 inf _ 4 40 Try.underlying41 hi0 hi1 hi2 hi3 rfl (by decide) v1 m (rowKey (ks.take m)) rfl (Hown1.out.alloc _) ⟨q1.w.heap.size, 0, none⟩ 1 1 (encKey (⟨kd, ka, kb, kt⟩ : Key)) rfl rfl (news_key _ _) (fun u hu => oneCell_rowKey [(⟨kd, ka, kb, kt⟩ : Key)] u (by simpa [rowKey] using hu)) (by unfold maxLen; omega) (by omega) (Nat.le_trans (Nat.le_trans Hsz4.out q1.size) (by simp)) ?_); intro v2 w2 hown2 hgrow2 hnil2 hloc2; obtain ⟨q2, hq2⟩ : ∃ q2 : Ext W4, w2 = q2.w := ⟨(q1.alloc (.cells (keyCells kd ka kb kt) 23)).grown hgrow2 (fun b hb e => absurd (Hloc1.out b e) (by omega)), rfl⟩; subst hq2; have Hown2 : Hid (q2.w.ownsRow w.heap.size 23 4 v2 (m + 1) (rowKey (ks.take m) ++ encKey (⟨kd, ka, kb, kt⟩ : Key))) := hown2; have Hloc2 : Hid (∀ b, v2.ownBlock = some b → W4.heap.size ≤ b) := (fun b hb => by rcases hloc2 with h | h; exact Hloc1.out b (by rw [← h]; exact hb); rw [h] at hb; cases hb; have := q1.size; simp; omega); clear hown2 hgrow2 hnil2 hloc2) | (at_builtin; (refine wpList_append_own_at _ rfl _ _ 41 rfl w.heap.size 23 inf _ 4 40 Try.underlying41 hi0 hi1 hi2 hi3 rfl (by decide) v2 (m + 1) (rowKey (ks.take m) ++ encKey (⟨kd, ka, kb, kt⟩ : Key)) rfl Hown2.out ⟨g4, m * 4, none⟩ (ks.length - m) (cp - m) (rowKey (ks.drop m)) rfl Hl3.out (Hnews3.out q2) (oneCell_rowKey _) (by unfold maxLen; omega) (by omega) (Nat.le_trans Hsz4.out q2.size) ?_); intro v3 w3 hown3 hgrow3 hnil3 hloc3; obtain ⟨q3, hq3⟩ : ∃ q3 : Ext W4, w3 = q3.w := ⟨q2.grown hgrow3 (fun b hb e => absurd (Hloc2.out b e) (by omega)), rfl⟩; subst hq3; have Hown3 : Hid _ := hown3; clear hown3 hgrow3 hnil3 hloc3)); obtain ⟨r', hr'⟩ := Hfin4.out q3; refine ⟨⟨r', i + 1, insK ks (⟨kd, ka, kb, kt⟩ : Key), hr', by go_num, by omega, (by rw [insK_length]; omega), ?_, (by rw [Hnext.out]; simp [selR])⟩, by simp [intOf] <;> omega⟩; have h3 := Hown3.out; rw [← hr', insK_length]; unfold insK; rw [← Hm.out, rowKey_append]; have e : m + 1 + (ks.length - m) = ks.length + 1 := (by omega); rw [e, List.append_assoc] at h3; exact h3)); (· have Hm : Hid (m = atK ks (⟨kd, ka, kb, kt⟩ : Key)) := atK_unique hm Hlt.out (fun x hxm => by have := (List.getElem?_eq_some_iff.1 hxm).1; omega); go_wp2_with fail; refine wp_region_ch NoS (by kernel_rfl) (by kernel_rfl) (fun q hq => ?_); clear hq; (repeat (first | (refine wpMix_skip rfl rfl ?_) | (refine wpMix_step (fun K hK => ?_); go_simp; (with_reducible (refine hK _ _ ?_)); clear hK K))); refine wpMix_nil ?_; clear k0 k1 k2 k3; have Hbk4 : Hid _ := q.blkE Hbk3.out; have Hrow4 : Hid (q.w.ownsRow w.heap.size 23 4 (.slice _ ks.length cp) ks.length (rowKey ks)) := rowKeep Hrow3.out (fun b hb => q.same b (by obtain ⟨c, hc⟩ := rowBlk Hrow3.out hb; exact lt_of_blk hc) id); have Hfin4 : Hid (∀ s : Ext q.w, ∃ s' : Ext w, s.w = s'.w) := (fun s => Hfin3.out (q.thenE s)); have Hsz4 : Hid (w.heap.size ≤ q.w.heap.size) := Nat.le_trans Hsz3.out q.size; clear Hq3 Hfin3 Hsz3 Hrow3 Hbk3; generalize q.w = W4 at *; clear q; have k0 : ∀ p : Ext W4, p.w.cell? ⟨b9, 0, none⟩ = some (.int .i64 kd) := (fun p => (cell_at 0 (p.blkE Hbk4.out)).trans e0); have k1 : ∀ p : Ext W4, p.w.cell? ⟨b9, 1, none⟩ = some (.int .i64 ka) := (fun p => (cell_at 1 (p.blkE Hbk4.out)).trans e1); have k2 : ∀ p : Ext W4, p.w.cell? ⟨b9, 2, none⟩ = some (.int .i64 kb) := (fun p => (cell_at 2 (p.blkE Hbk4.out)).trans e2); have k3 : ∀ p : Ext W4, p.w.cell? ⟨b9, 3, none⟩ = some (.string kt) := (fun p => (cell_at 3 (p.blkE Hbk4.out)).trans e3); obtain ⟨inf, hi0, hi1, hi2, hi3⟩ := info23; obtain rfl : m = ks.length := (by omega); rcases Hrow4.out.2 with ⟨hno, h0⟩ | ⟨g4, cp4, cur, hso, hbg, hgb, hcc4, hcm4, -⟩; (· obtain ⟨hn1, -, hn3⟩ : fa = none ∧ ks.length = 0 ∧ cp = 0 := (by simpa using hno); subst hn1; subst hn3; obtain rfl : ks = [] := List.length_eq_zero_iff.1 h0; replace k0 : W4.cell? ⟨b9, 0, none⟩ = some (.int .i64 kd) := k0 (Ch.refl NoS W4); replace k1 : W4.cell? ⟨b9, 1, none⟩ = some (.int .i64 ka) := k1 (Ch.refl NoS W4); replace k2 : W4.cell? ⟨b9, 2, none⟩ = some (.int .i64 kb) := k2 (Ch.refl NoS W4); replace k3 : W4.cell? ⟨b9, 3, none⟩ = some (.string kt) := k3 (Ch.refl NoS W4); go_wp2_with (first | (at_builtin; refine wpList_append_own_at _ rfl _ _ 41 rfl w.heap.size 23 inf _ 4 40 Try.underlying41 hi0 hi1 hi2 hi3 rfl (by decide) (.slice none 0 0) 0 [] rfl (World.ownsRow_nil (W4.alloc (.cells (keyCells kd ka kb kt) 23)) _ 23 4) ⟨W4.heap.size, 0, none⟩ 1 1 (encKey (⟨kd, ka, kb, kt⟩ : Key)) rfl rfl (news_key _ _) (fun u hu => oneCell_rowKey [(⟨kd, ka, kb, kt⟩ : Key)] u (by simpa [rowKey] using hu)) (by unfold maxLen; omega) (by omega) (Nat.le_trans Hsz4.out (by simp)) ?_; intro v2 w2 hown2 hgrow2 hnil2 hloc2; obtain ⟨fa2, cap2, hv2, hcap2, hg5⟩ := row_form hown2; have hcap3 : 1 ≤ cap2 := (by omega); obtain ⟨g5, hg5⟩ := hg5 (by omega); subst hg5; subst hv2; obtain ⟨q3, hq2⟩ : ∃ q2 : Ext W4, w2 = q2.w := ⟨((Ch.refl NoS W4).alloc (.cells (keyCells kd ka kb kt) 23)).grown hgrow2 (fun b hb e => by cases e), rfl⟩; subst hq2; have Hown3 : Hid (q3.w.ownsRow w.heap.size 23 4 (.slice (some ⟨g5, 0, none⟩) (0 + 1) cap2) (0 + 1) ([] ++ encKey (⟨kd, ka, kb, kt⟩ : Key))) := hown2; clear hown2 hgrow2 hnil2 hloc2)); obtain ⟨r', hr'⟩ := Hfin4.out q3; refine ⟨⟨r', i + 1, insK ([] : List Key) (⟨kd, ka, kb, kt⟩ : Key), hr', by go_num, by omega, (by rw [insK_length]; omega), ?_, (by rw [Hnext.out]; simp [selR])⟩, by simp [intOf] <;> omega⟩; have h3 := Hown3.out; rw [← hr', insK_length]; unfold insK; rw [← Hm.out, rowKey_append]; simpa [rowKey, atK] using h3); (· simp only [Value.slice.injEq, true_and] at hso; obtain ⟨hso1, hso2⟩ := hso; subst hso2; subst hso1; have Hcells : Hid (∀ j, j < ks.length * 4 → W4.cell? ⟨g4, j, none⟩ = (rowKey ks)[j]?) := (fun j hj => Hrow4.out.cellAt j hj); have Hl1 : Hid ((rowKey (ks.take ks.length)).length = ks.length * 4) := (by show _ = _; rw [rowKey_length]; simp <;> omega); have Hnews1 : Hid (∀ j u, (rowKey (ks.take ks.length))[j]? = some u → W4.cell? ((⟨g4, 0, none⟩ : Addr).add j) = some u) := (fun j u hu => by have hj : j < ks.length * 4 := (by rw [← Hl1.out]; exact (List.getElem?_eq_some_iff.1 hu).1); have e : ((⟨g4, 0, none⟩ : Addr).add j) = ⟨g4, j, none⟩ := (by cases j <;> simp [Addr.add]); have hs : rowKey ks = rowKey (ks.take ks.length) ++ rowKey (ks.drop ks.length) := (by rw [← rowKey_append, List.take_append_drop]); rw [e, Hcells.out j (by omega), hs, List.getElem?_append_left (by have := Hl1.out; omega)]; exact hu); have Hl3 : Hid ((rowKey (ks.drop ks.length)).length = (ks.length - ks.length) * 4) := (by show _ = _; rw [rowKey_length]; simp); have Hnews3 : Hid (∀ (q : Ext W4) j u, (rowKey (ks.drop ks.length))[j]? = some u → q.w.cell? ((⟨g4, ks.length * 4, none⟩ : Addr).add j) = some u) := (fun q j u hu => by have hj : j < (ks.length - ks.length) * 4 := (by rw [← Hl3.out]; exact (List.getElem?_eq_some_iff.1 hu).1); have e : ((⟨g4, ks.length * 4, none⟩ : Addr).add j) = ⟨g4, ks.length * 4 + j, none⟩ := (by cases j <;> simp [Addr.add]); have hs : rowKey ks = rowKey (ks.take ks.length) ++ rowKey (ks.drop ks.length) := (by rw [← rowKey_append, List.take_append_drop]); rw [e, World.cell?_of_block (w := W4) (a := ⟨g4, ks.length * 4 + j, none⟩) (q.same _ (lt_of_blk hgb) id), Hcells.out _ (by omega), hs, List.getElem?_append_right (by have := Hl1.out; omega), Hl1.out, Nat.add_sub_cancel_left]; exact hu); by_cases hmc : cp = ks.length; (· subst hmc; go_wp2_with (first | (at_builtin; refine wpList_append_own_at _ rfl _ _ 41 rfl w.heap.size 23 inf _ 4 40 Try.underlying41 hi0 hi1 hi2 hi3 rfl (by decide) (.slice none 0 0) 0 [] rfl (World.ownsRow_nil W4 _ 23 4) ⟨g4, 0, none⟩ ks.length ks.length (rowKey (ks.take ks.length)) rfl Hl1.out Hnews1.out (oneCell_rowKey _) (by unfold maxLen; omega) (by omega) Hsz4.out ?_; intro v1 w1 hown1 hgrow1 hnil1 hloc1; obtain ⟨q1, hq1⟩ : ∃ q1 : Ext W4, w1 = q1.w := ⟨(Ch.refl NoS W4).grown hgrow1 (fun b _ e => by cases e), rfl⟩; subst hq1; have Hown1 : Hid (q1.w.ownsRow w.heap.size 23 4 v1 ks.length (rowKey (ks.take ks.length))) := (by show World.ownsRow _ _ _ _ _ _ _; simpa using hown1); have Hloc1 : Hid (∀ b, v1.ownBlock = some b → W4.heap.size ≤ b) := (fun b hb => by rcases hloc1 with h | h; rw [h] at hb; cases hb; rw [h] at hb; cases hb; exact Nat.le_refl _); clear hown1 hgrow1 hnil1 hloc1) | (at_builtin; (refine wpList_append_own_at _ rfl _ _ 41 rfl w.heap.size 23 inf _ 4 40 Try.underlying41 hi0 hi1 hi2 hi3 rfl (by decide) v1 ks.length (rowKey (ks.take ks.length)) rfl (Hown1.out.alloc _) ⟨q1.w.heap.size, 0, none⟩ 1 1 (encKey (⟨kd, ka, kb, kt⟩ : Key)) rfl rfl (news_key _ _) (fun u hu => oneCell_rowKey [(⟨kd, ka, kb, kt⟩ : Key)] u (by simpa [rowKey] using hu)) (by unfold maxLen; omega) (by omega) (Nat.le_trans (Nat.le_trans Hsz4.out q1.size) (by simp)) ?_); intro v2 w2 hown2 hgrow2 hnil2 hloc2; obtain ⟨q2, hq2⟩ : ∃ q2 : Ext W4, w2 = q2.w := ⟨(q1.alloc (.cells (keyCells kd ka kb kt) 23)).grown hgrow2 (fun b hb e => absurd (Hloc1.out b e) (by omega)), rfl⟩; subst hq2; have Hown2 : Hid (q2.w.ownsRow w.heap.size 23 4 v2 (ks.length + 1) (rowKey (ks.take ks.length) ++ encKey (⟨kd, ka, kb, kt⟩ : Key))) := hown2; have Hloc2 : Hid (∀ b, v2.ownBlock = some b → W4.heap.size ≤ b) := (fun b hb => by rcases hloc2 with h | h; exact Hloc1.out b (by rw [← h]; exact hb); rw [h] at hb; cases hb; have := q1.size; simp; omega); clear hown2 hgrow2 hnil2 hloc2) | (at_builtin; (refine wpList_append_own_at _ rfl _ _ 41 rfl w.heap.size 23 inf _ 4 40 Try.underlying41 hi0 hi1 hi2 hi3 rfl (by decide) v2 (ks.length + 1) (rowKey (ks.take ks.length) ++ encKey (⟨kd, ka, kb, kt⟩ : Key)) rfl Hown2.out ⟨g4, 0, none⟩ 0 0 [] rfl rfl (by simp) (by simp) (by unfold maxLen; omega) (by omega) (Nat.le_trans Hsz4.out q2.size) ?_); intro v3 w3 hown3 hgrow3 hnil3 hloc3; obtain ⟨q3, hq3⟩ : ∃ q3 : Ext W4, w3 = q3.w := ⟨q2.grown hgrow3 (fun b hb e => absurd (Hloc2.out b e) (by omega)), rfl⟩; subst hq3; have Hown3 : Hid _ := hown3; clear hown3 hgrow3 hnil3 hloc3)); obtain ⟨r', hr'⟩ := Hfin4.out q3; refine ⟨⟨r', i + 1, insK ks (⟨kd, ka, kb, kt⟩ : Key), hr', by go_num, by omega, (by rw [insK_length]; omega), ?_, (by rw [Hnext.out]; simp [selR])⟩, by simp [intOf] <;> omega⟩; have h3 := Hown3.out; rw [← hr', insK_length]; unfold insK; rw [← Hm.out, rowKey_append]; rw [List.drop_length]; rw [List.append_nil] at h3; exact h3); (· have hmcp : ks.length < cp := (by omega); go_wp2_with (first | (at_builtin; refine wpList_append_own_at _ rfl _ _ 41 rfl w.heap.size 23 inf _ 4 40 Try.underlying41 hi0 hi1 hi2 hi3 rfl (by decide) (.slice none 0 0) 0 [] rfl (World.ownsRow_nil W4 _ 23 4) ⟨g4, 0, none⟩ ks.length cp (rowKey (ks.take ks.length)) rfl Hl1.out Hnews1.out (oneCell_rowKey _) (by unfold maxLen; omega) (by omega) Hsz4.out ?_; intro v1 w1 hown1 hgrow1 hnil1 hloc1; obtain ⟨q1, hq1⟩ : ∃ q1 : Ext W4, w1 = q1.w := ⟨(Ch.refl NoS W4).grown hgrow1 (fun b _ e => by cases e), rfl⟩; subst hq1; have Hown1 : Hid (q1.w.ownsRow w.heap.size 23 4 v1 ks.length (rowKey (ks.take ks.length))) := (by show World.ownsRow _ _ _ _ _ _ _; simpa using hown1); have Hloc1 : Hid (∀ b, v1.ownBlock = some b → W4.heap.size ≤ b) := (fun b hb => by rcases hloc1 with h | h; rw [h] at hb; cases hb; rw [h] at hb; cases hb; exact Nat.le_refl _); clear hown1 hgrow1 hnil1 hloc1) | (at_builtin; (refine wpList_append_own_at _ rfl _ _ 41 rfl w.heap.size 23 inf _ 4 40 Try.underlying41 hi0 hi1 hi2 hi3 rfl (by decide) v1 ks.length (rowKey (ks.take ks.length)) rfl (Hown1.out.alloc _) ⟨q1.w.heap.size, 0, none⟩ 1 1 (encKey (⟨kd, ka, kb, kt⟩ : Key)) rfl rfl (news_key _ _) (fun u hu => oneCell_rowKey [(⟨kd, ka, kb, kt⟩ : Key)] u (by simpa [rowKey] using hu)) (by unfold maxLen; omega) (by omega) (Nat.le_trans (Nat.le_trans Hsz4.out q1.size) (by simp)) ?_); intro v2 w2 hown2 hgrow2 hnil2 hloc2; obtain ⟨q2, hq2⟩ : ∃ q2 : Ext W4, w2 = q2.w := ⟨(q1.alloc (.cells (keyCells kd ka kb kt) 23)).grown hgrow2 (fun b hb e => absurd (Hloc1.out b e) (by omega)), rfl⟩; subst hq2; have Hown2 : Hid (q2.w.ownsRow w.heap.size 23 4 v2 (ks.length + 1) (rowKey (ks.take ks.length) ++ encKey (⟨kd, ka, kb, kt⟩ : Key))) := hown2; have Hloc2 : Hid (∀ b, v2.ownBlock = some b → W4.heap.size ≤ b) := (fun b hb => by rcases hloc2 with h | h; exact Hloc1.out b (by rw [← h]; exact hb); rw [h] at hb; cases hb; have := q1.size; simp; omega); clear hown2 hgrow2 hnil2 hloc2) | (at_builtin; (refine wpList_append_own_at _ rfl _ _ 41 rfl w.heap.size 23 inf _ 4 40 Try.underlying41 hi0 hi1 hi2 hi3 rfl (by decide) v2 (ks.length + 1) (rowKey (ks.take ks.length) ++ encKey (⟨kd, ka, kb, kt⟩ : Key)) rfl Hown2.out ⟨g4, ks.length * 4, none⟩ 0 (cp - ks.length) [] rfl rfl (by simp) (by simp) (by unfold maxLen; omega) (by omega) (Nat.le_trans Hsz4.out q2.size) ?_); intro v3 w3 hown3 hgrow3 hnil3 hloc3; obtain ⟨q3, hq3⟩ : ∃ q3 : Ext W4, w3 = q3.w := ⟨q2.grown hgrow3 (fun b hb e => absurd (Hloc2.out b e) (by omega)), rfl⟩; subst hq3; have Hown3 : Hid _ := hown3; clear hown3 hgrow3 hnil3 hloc3)); obtain ⟨r', hr'⟩ := Hfin4.out q3; refine ⟨⟨r', i + 1, insK ks (⟨kd, ka, kb, kt⟩ : Key), hr', by go_num, by omega, (by rw [insK_length]; omega), ?_, (by rw [Hnext.out]; simp [selR])⟩, by simp [intOf] <;> omega⟩; have h3 := Hown3.out; rw [← hr', insK_length]; unfold insK; rw [← Hm.out, rowKey_append]; rw [List.drop_length]; rw [List.append_nil] at h3; exact h3)))))
    · go_wp2_with fail
      go_ret
      obtain ⟨q, hq⟩ := Hfin.out (Ch.refl NoS W1)
      have hcs : cs.take i = cs := List.take_of_length_le (by omega)
      have hks := Hks.out
      rw [hcs] at hks
      have hrow := Hrow.out
      rw [show W1 = q.w from hq] at hrow ⊢
      refine ⟨_, rfl, ?_⟩
      rw [show refKeysL cs which who = ks from hks.symm]
      exact keysOut_row q hrow (Nat.le_refl _)
end Go.Proofs.Cob

namespace Go.Proofs.Cob
open Go Go.RowKit Go.Cob
set_option linter.unusedSimpArgs false
set_option linter.unusedVariables false

theorem take_eq_step {α : Type} {xs ys : List α} {i : Nat} {x y : α} (hx : xs[i]? = some x) (hy : ys[i]? = some y) (h : xs.take i = ys.take i) (e : x = y) : xs.take (i + 1) = ys.take (i + 1) := by
  rw [List.take_add_one, List.take_add_one, hx, hy, h, e]

set_option maxHeartbeats 1600000 in
theorem same_any (fa fb : Option Addr) (n m ca cb : Nat) (xs ys : List Key) (w : World) (hX : KeysIn w fa xs) (hY : KeysIn w fb ys) (hn : n = xs.length) (hm : m = ys.length) (hb : n < 4611686018427387904) (hb2 : m < 4611686018427387904) :
    Calls Try.prog 65 #[.slice fa n ca, .slice fb m cb] w fun e w' => e = .returned (.bool (decide (xs = ys))) ∧ ∃ p : Ext w, w' = p.w := by
  have hEq := run_eq_key
  by_cases hnm : n = m
  · subst hnm
    have HN : Hid (n = xs.length) := hn
    have HM : Hid (n = ys.length) := hm
    clear hn hm
    go_enter Try.func65, Try.ntmps65
    go_wp2_with fail
    go_loopw [5] (fun v w' => (∃ p : Ext w, w' = p.w) ∧ ∃ i : Nat, v = .int .i64 i ∧ i ≤ n ∧ xs.take i = ys.take i) (fun v _ => n - (intOf v).toNat)
    case atStart => exact ⟨⟨Ch.refl NoS _, rfl⟩, 0, rfl, by omega, by simp⟩
    case round =>
      obtain ⟨⟨p, rfl⟩, i, rfl, hi, hne⟩ := hrel
      have Hne : Hid (xs.take i = ys.take i) := hne
      clear hne
      by_cases h1 : i < n
      · have h1' : i < xs.length := by have := HN.out; omega
        have h2' : i < ys.length := by have := HM.out; omega
        obtain ⟨⟨xd, xa, xb, xs'⟩, hx, b, off, rfl, hc⟩ := (hX.ext p).get h1'
        obtain ⟨⟨yd, ya, yb, ys'⟩, hy, b', off', rfl, hc'⟩ := (hY.ext p).get h2'
        have hfin : ∀ q : Ext p.w, ∃ q' : Ext w, q.w = q'.w := fun q => ⟨p.thenE q, rfl⟩
        have Hx : Hid (xs[i]? = some ⟨xd, xa, xb, xs'⟩) := hx
        have Hy : Hid (ys[i]? = some ⟨yd, ya, yb, ys'⟩) := hy
        clear h1' h2' hx hy hX hY
        generalize p.w = W1 at *
        clear p
        have x0 : ∀ q : Ext W1, q.w.cell? ⟨b, off + i * 4, none⟩ = some (.int .i64 xd) := fun q => (hc.keep (q.same _ hc.lt id)).c0
        have x1 : ∀ q : Ext W1, q.w.cell? ⟨b, off + i * 4 + 1, none⟩ = some (.int .i64 xa) := fun q => (hc.keep (q.same _ hc.lt id)).c1
        have x2 : ∀ q : Ext W1, q.w.cell? ⟨b, off + i * 4 + 2, none⟩ = some (.int .i64 xb) := fun q => (hc.keep (q.same _ hc.lt id)).c2
        have x3 : ∀ q : Ext W1, q.w.cell? ⟨b, off + i * 4 + 3, none⟩ = some (.string xs') := fun q => (hc.keep (q.same _ hc.lt id)).c3
        have y0 : ∀ q : Ext W1, q.w.cell? ⟨b', off' + i * 4, none⟩ = some (.int .i64 yd) := fun q => (hc'.keep (q.same _ hc'.lt id)).c0
        have y1 : ∀ q : Ext W1, q.w.cell? ⟨b', off' + i * 4 + 1, none⟩ = some (.int .i64 ya) := fun q => (hc'.keep (q.same _ hc'.lt id)).c1
        have y2 : ∀ q : Ext W1, q.w.cell? ⟨b', off' + i * 4 + 2, none⟩ = some (.int .i64 yb) := fun q => (hc'.keep (q.same _ hc'.lt id)).c2
        have y3 : ∀ q : Ext W1, q.w.cell? ⟨b', off' + i * 4 + 3, none⟩ = some (.string ys') := fun q => (hc'.keep (q.same _ hc'.lt id)).c3
        have hE : ∀ w, (Op.equalIn 10000 23 (.agg #[.int .i64 xd, .int .i64 xa, .int .i64 xb, .string xs']) (.agg #[.int .i64 yd, .int .i64 ya, .int .i64 yb, .string ys'])).run Try.prog w = .ok (decide ((⟨xd, xa, xb, xs'⟩ : Key) = ⟨yd, ya, yb, ys'⟩)) w := hEq ⟨xd, xa, xb, xs'⟩ ⟨yd, ya, yb, ys'⟩
        clear hEq
        by_cases hk : (⟨xd, xa, xb, xs'⟩ : Key) = ⟨yd, ya, yb, ys'⟩
        · rw [decide_eq_true hk] at hE
          have Hk : Hid ((⟨xd, xa, xb, xs'⟩ : Key) = ⟨yd, ya, yb, ys'⟩) := hk
          clear hk
          go_wp2_with fail
          refine wp_region_ch NoS (by kernel_rfl) (by kernel_rfl) (fun q hq => ?_)
          clear hq
          (repeat (first | (refine wpMix_skip rfl rfl ?_) | (refine wpMix_step (fun K hK => ?_); go_simp; (with_reducible (refine hK _ _ ?_)); clear hK K)))
          refine wpMix_nil ?_
          go_wp2_with fail
          go_roundw
          case rel => exact ⟨hfin q, i + 1, by go_num, by omega, take_eq_step Hx.out Hy.out Hne.out Hk.out⟩
          case measure => simp [intOf]; omega
        · rw [decide_eq_false hk] at hE
          have Hk : Hid (¬ (⟨xd, xa, xb, xs'⟩ : Key) = ⟨yd, ya, yb, ys'⟩) := hk
          clear hk
          go_wp2_with fail
          refine wp_region_ch NoS (by kernel_rfl) (by kernel_rfl) (fun q hq => ?_)
          clear hq
          (repeat (first | (refine wpMix_skip rfl rfl ?_) | (refine wpMix_step (fun K hK => ?_); go_simp; (with_reducible (refine hK _ _ ?_)); clear hK K)))
          refine wpMix_nil ?_
          go_wp2_with fail
          go_ret
          refine ⟨?_, hfin q⟩
          have : xs ≠ ys := fun e => by
            have h1 := Hx.out
            rw [e, Hy.out] at h1
            exact Hk.out (Option.some.inj h1).symm
          simp [this]
      · go_wp2_with fail
        go_ret
        have e1 : xs.take i = xs := List.take_of_length_le (by have := HN.out; omega)
        have e2 : ys.take i = ys := List.take_of_length_le (by have := HM.out; omega)
        have h3 := Hne.out
        rw [e1, e2] at h3
        exact ⟨by simp [h3], p, rfl⟩
  · have hne : ((n : Int) != (m : Int)) = true := by simp; omega
    have HN : Hid (n = xs.length) := hn
    have HM : Hid (m = ys.length) := hm
    have Hnm : Hid _ := hnm
    clear hn hm hnm
    go_enter Try.func65, Try.ntmps65
    go_wp2_with fail
    go_ret
    refine ⟨?_, Ch.refl NoS w, rfl⟩
    have : xs ≠ ys := fun e => Hnm.out (by rw [HN.out, HM.out, e])
    simp [this]
end Go.Proofs.Cob
