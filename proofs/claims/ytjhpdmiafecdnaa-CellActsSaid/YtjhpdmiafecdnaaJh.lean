/-
  CellActs, the plain facts; one act on both stores, whichever it is. The arena's Len. Regions in any order where the store turns but its first block stays. CellActs: what its walk wants: a new store of a bad room; boxes beside a run; the calls on a run.
-/
import Derived.Test.YtjhpdmiafecdnaaJg
import Derived.Test.YtjhpdmiafecdnaaJf
import Derived.Test.YtjhpdmiafecdnaaJa
import Derived.Test.YtjhpdmiafecdnaaJc
import Derived.Test.YtjhpdmiafecdnaaJe
namespace Go.Proofs.Cob
open Go Go.RowKit Go.Cob
set_option linter.unusedSimpArgs false
set_option linter.unusedVariables false

/-- The keys of a store are short. -/
def KSm (L : List (Key × Cl)) : Prop := ∀ p ∈ L, p.1.s.size ≤ 100
theorem KSm.put {L : List (Key × Cl)} (h : KSm L) {k : Key} {z : Cl} (hk : k.s.size ≤ 100) : KSm (aput L k z) := fun p hp => by
  rcases mem_aput hp with hp | rfl
  · exact h p hp
  · exact hk
theorem KSm.get {L : List (Key × Cl)} (h : KSm L) {k : Key} {z : Cl} (hg : aget L k = some z) : k.s.size ≤ 100 := h _ (aget_mem hg)
theorem KSm.del {L : List (Key × Cl)} (h : KSm L) {k : Key} : KSm (adel L k) := fun p hp => h p (adel_sub.subset hp)
theorem KSm.drop {A : ArenaSt} {L : List (Key × Cl)} (h : KSm L) (k : Key) : KSm (dropM A L k).2 := by
  unfold dropM
  cases aget L k with
  | none => exact h
  | some z => exact h.del
theorem KSm.lock {A : ArenaSt} {L : List (Key × Cl)} (h : KSm L) (k : Key) (who : Int) (hk : k.s.size ≤ 100) : KSm (lockM A L k who).2.2 := by
  unfold lockM
  cases aget L k with
  | some z => simp only; split; exact h.put hk; exact h
  | none =>
    simp only
    cases takeA A with
    | none => exact h
    | some sa => exact h.put hk
theorem KSm.install {L : List (Key × Cl)} (h : KSm L) (k : Key) (who stamp : Int) (vs : ByteArray) (has : Bool) (hk : k.s.size ≤ 100) : KSm (installM L k who stamp vs has).2 := by
  unfold installM
  split
  · cases aget L k with
    | none => exact h
    | some z => simp only; split; exact h; exact h.put hk
  · exact h
theorem KSm.unl1 {S : ArenaSt × List (Key × Cl)} (h : KSm S.2) (k : Key) : KSm (unl1 S k).2 := by
  unfold Go.Proofs.Cob.unl1
  cases hg : aget S.2 k with
  | none => exact h
  | some z =>
    simp only
    split
    · exact (h.put (h.get hg)).drop k
    · exact h.put (h.get hg)
theorem KSm.unlFold : ∀ (ks : List Key) (S : ArenaSt × List (Key × Cl)), KSm S.2 → KSm (ks.foldl Go.Proofs.Cob.unl1 S).2
  | [], S, h => h
  | k :: ks, S, h => KSm.unlFold ks _ (h.unl1 k)
theorem KSm.unl {A : ArenaSt} {L : List (Key × Cl)} (h : KSm L) (who : Int) (ks : List Key) : KSm (unlM A L who ks).2.2 := by
  unfold unlM
  split
  · exact KSm.unlFold ks (A, L) h
  · exact h
theorem KSm.freeFold : ∀ (ks : List Key) (S : Nat × ArenaSt × List (Key × Cl)), KSm S.2.2 → KSm (ks.foldl fr1 S).2.2
  | [], S, h => h
  | k :: ks, S, h => KSm.freeFold ks _ (by
    unfold fr1
    cases aget S.2.2 k with
    | none => exact h
    | some z =>
      simp only
      split
      · exact h.drop k
      · exact h)
theorem KSm.free {A : ArenaSt} {L : List (Key × Cl)} (h : KSm L) (ks : List Key) : KSm (freeM A L ks).2.2 := KSm.freeFold ks (0, A, L) h

theorem heldM_conv (L : List (Key × Cl)) (who : Int) : refKeysL (L.map conv) 0 who = heldM L who := by
  unfold refKeysL heldM
  rw [ins_sort, List.filter_map, List.map_map]
  congr 2
  refine congrArg (fun f => List.filter f L) (funext fun p => ?_)
  simp only [Function.comp, selR, conv]
  cases freeB p.2.wd <;> by_cases h : p.2.who = who <;> simp [h, bne]
theorem keysM_conv (L : List (Key × Cl)) : refKeysL (L.map conv) 1 0 = keysM L := by
  unfold refKeysL keysM
  rw [ins_sort, List.filter_map, List.map_map]
  congr 2
  refine congrArg (fun f => List.filter f L) (funext fun p => ?_)
  simp only [Function.comp, selR, conv]
  cases goneB p.2.wd <;> simp
theorem idx_none {L : List (Key × Cl)} {k : Key} (h : aget L k = none) : idxR (L.map conv) k = -1 := by
  have := getR_conv_none h
  exact getR_none this
theorem idx_some {L : List (Key × Cl)} {k : Key} {z : Cl} (h : aget L k = some z) : ∃ i : Nat, i < L.length ∧ idxR (L.map conv) k = i ∧ (L.map conv)[i]? = some (conv (k, z)) := by
  obtain ⟨i, e1, -, -⟩ := getR_conv_some h
  obtain ⟨h1, h2, -⟩ := getR_some e1
  exact ⟨i, by have := (List.getElem?_eq_some_iff.1 h2).1; simpa using this, h1, h2⟩

theorem smallB_spec {a : Act} (h : smallB a = true) : a.keys.length ≤ 10 ∧ a.key.s.size ≤ 100 := by
  simp only [smallB, Bool.and_eq_true, Bool.not_eq_true', decide_eq_false_iff_not] at h
  exact ⟨by have := h.1.1.1; omega, by have := h.1.1.2; omega⟩

/-- One act on both stores: they answer alike. -/
theorem does_any (I : Ids) (r : Nat) (A : ArenaSt) (L : List (Key × Cl)) (B : Nat → Prop) (a : Act) (w : World) (h : Run w I r A L B) (hB : ∀ b, w.heap.size ≤ b → B b) (hK : ActOk w a)
    (hfa : a.keys = [] ∨ ∀ x, a.kfa = some x → ¬ B x.block) (hsm : smallB a = true) (hk : KSm L) :
    ∃ A' L', A'.room = A.room ∧ KSm L' ∧ Calls Try.prog 30 #[.pointer (some ⟨I.s, 0, none⟩), .pointer (some ⟨r, 0, none⟩), actV a] w fun e w' => e = .returned (.bool true) ∧ ∃ p : Ch B w, w' = p.w ∧ Run p.w I r A' L' B := by
  obtain ⟨hK1, hcap, -, hst, -, -⟩ := hK
  obtain ⟨h10, h100⟩ := smallB_spec hsm
  have hq : ∀ {w' : World}, (∃ p : Ext w, w' = p.w) → ∃ p : Ch B w, w' = p.w ∧ Run p.w I r A L B := by
    rintro _ ⟨p, rfl⟩
    exact ⟨p.up B, rfl, h.ext p⟩
  by_cases k0 : a.kind = 0
  · exact ⟨A, L, rfl, hk, (does_read I r A L B a w h hB k0).mono fun e w' hh => ⟨hh.1, hq hh.2⟩⟩
  by_cases k1 : a.kind = 1
  · exact ⟨_, _, (lock_conv A L a.key a.who h.wo h.iv h.few.2).2.2.2.2, hk.lock _ _ h100, does_lock I r A L B a w h hB k1⟩
  by_cases k2 : a.kind = 2
  · exact ⟨_, _, (unlock_conv h.match a.who a.keys).2.rm, hk.unl _ _, does_unlock I r A L B a w h hB k2 hK1 hfa hcap h10⟩
  by_cases k3 : a.kind = 3
  · have hs : 0 ≤ a.stamp ∧ a.stamp < 18446744073709551616 := by
      simp [Lit.wf, IntKind.min, IntKind.max, IntKind.bits, IntKind.signed] at hst
      omega
    exact ⟨A, _, rfl, hk.install _ _ _ _ _ h100, does_install I r A L B a w h hB k3 hs.1 hs.2⟩
  by_cases k4 : a.kind = 4
  · exact ⟨A, L, rfl, hk, (does_still I r A L B a w h k4).mono fun e w' hh => ⟨hh.1, hq hh.2⟩⟩
  by_cases k5 : a.kind = 5
  · exact ⟨_, _, (free_conv h.match a.keys).2.rm, hk.free _, does_free I r A L B a w h hB k5 hK1 hfa hcap h10⟩
  exact ⟨A, L, rfl, hk, (does_other I r a w k0 k1 k2 k3 k4 k5).mono fun e w' hh => ⟨hh.1, hq hh.2⟩⟩
end Go.Proofs.Cob

namespace Go.Proofs.Cob
open Go Go.RowKit Go.Cob
set_option linter.unusedSimpArgs false
set_option linter.unusedVariables false

theorem run_len_map {α β : Type} [DecidableEq α] {encK : α → Value} {encV : β → Value} {P : Program} {w : World} {m : Nat} {l : List (α × β)} {t kt vt : TypeId} (h : MapAt encK encV w m l) (ht : P.underlying t = some (.map kt vt)) (ty : TypeId) :
    (Builtin.len_ #[t] ty #[.map (some m)]).run P w = .ok (.int .i64 l.length) w := by
  obtain ⟨bs, cl, h1, h2, -⟩ := h
  have hl : (ents encK encV l bs).length = l.length := ents_length _ _ h2
  simp [Builtin.len_, run_underlying ht, run_getObj_map' h1, hl, goInt]
theorem len_any (a g t : Nat) (fv : Value) (A : ArenaSt) (w : World) (hA : ArenaAt w a g t fv A) :
    Calls Try.prog 34 #[.pointer (some ⟨a, 0, none⟩)] w fun e w' => e = .returned (.int .i64 A.taken.length) ∧ w' = w := by
  obtain ⟨hb, hg, ht, hr, hgt⟩ := hA
  have c2 := cell_at 2 hb
  have l1 : ∀ ty, (Builtin.len_ #[198] ty #[.map (some t)]).run Try.prog w = .ok (.int .i64 A.taken.length) w := fun ty => run_len_map ht Try.underlying198 ty
  clear ht hr hgt hg hb
  go_enter Try.func34, Try.ntmps34
  go_wp2_with fail
  go_ret
  exact ⟨rfl, rfl⟩
end Go.Proofs.Cob

namespace Go.Proofs.Cob
open Go Go.RowKit Go.Cob
set_option linter.unusedSimpArgs false
set_option linter.unusedVariables false

/-- A world of the class S out of W0 in which block s holds o. -/
structure Kp (S : Nat → Prop) (W0 : World) (s : Nat) (o : Obj) where
  p : Ch S W0
  st : p.w.heap[s]? = some o
theorem wp_region_kp {P : Program} {id : Nat} {Q : Exit → Go.Act → World → Prop} {a : Go.Act} {w : World} {l : List Oper} (S : Nat → Prop) (s : Nat) (o : Obj) (hs : w.heap[s]? = some o) (hm : P.follows .mixedOrders = true) (hB : mixB l.toArray = true)
    (h : ∀ p : Kp S w s o, p.p.w.heap = w.heap → wpMix P l.toArray (fun w' => ∃ p : Kp S w s o, w' = p.p.w) (Q .normal) l a p.p.w) : (Code.region id l.toArray true).wp P Q a w :=
  wp_region_mix (C := fun w' => ∃ p : Kp S w s o, w' = p.p.w) hm hB ⟨⟨(Ch.refl S w).drew, hs⟩, rfl⟩ (h ⟨(Ch.refl S w).drew, hs⟩ rfl)
/-- The store's first block. -/
abbrev stObj (I : Ids) : Obj := .cells #[.pointer (some ⟨I.a, 0, none⟩), .map (some I.m)] 58 (0, 0)
theorem StN.at {w : World} {I : Ids} {A : ArenaSt} {L : List (Key × Cl)} {F : Nat → Prop} (h : StN w I A L F) : w.heap[I.s]? = some (stObj I) := by
  obtain ⟨fv, l, h1, -⟩ := h.st.ex
  exact h1.st
theorem StN.arena {w : World} {I : Ids} {A : ArenaSt} {L : List (Key × Cl)} {F : Nat → Prop} (h : StN w I A L F) : ∃ fv, ArenaAt w I.a I.g I.t fv A := by
  obtain ⟨fv, l, h1, -⟩ := h.st.ex
  exact ⟨fv, h1.ar⟩
theorem StN.heapEq {w w' : World} {I : Ids} {A : ArenaSt} {L : List (Key × Cl)} {F : Nat → Prop} (h : StN w I A L F) (e : w'.heap = w.heap) : StN w' I A L F := ⟨h.st.keep (fun b _ _ => by rw [e]), h.fl⟩
theorem wide_tail {w0 : World} {x : Box} {bs : List Box} : ∀ b : Nat, Wide w0 (x :: bs) b → Wide w0 bs b := fun b h => ⟨h.1, fun y hy => h.2 y (.tail _ hy)⟩
theorem len_n {w : World} {I : Ids} {A : ArenaSt} {L : List (Key × Cl)} {F : Nat → Prop} (h : StN w I A L F) : Calls Try.prog 34 #[.pointer (some ⟨I.a, 0, none⟩)] w fun e w' => e = .returned (.int .i64 A.taken.length) ∧ w = w' := by
  obtain ⟨fv, hA⟩ := h.arena
  refine (len_any _ _ _ _ _ _ hA).mono ?_
  rintro e w' ⟨h1, h2⟩
  exact ⟨h1, h2.symm⟩
theorem live_n {w : World} {I : Ids} {A : ArenaSt} {L : List (Key × Cl)} {F : Nat → Prop} (h : StN w I A L F) (sl gen : Int) : Calls Try.prog 90 #[.pointer (some ⟨I.a, 0, none⟩), .agg #[.int .i64 sl, .int .i64 gen]] w fun e w' => e = .returned (.bool (liveA A sl gen)) ∧ ∃ p : Ext w, w' = p.w := by
  obtain ⟨fv, hA⟩ := h.arena
  exact live_any _ _ _ _ _ _ _ _ hA
theorem keysIn_box2 {W : World} {n : Nat} {k k' : Key} (h : W.heap[n]? = some (.cells (keyCells k.kind k.a k.b k.s ++ keyCells k'.kind k'.a k'.b k'.s) 23 (0, 0))) : KeysIn W (some ⟨n, 0, none⟩) [k, k'] := by
  refine .inr ⟨n, 0, rfl, fun i x hx => ?_⟩
  match i, hx with
  | 0, hx =>
    have : k = x := by simpa using hx
    subst this
    exact ⟨cell_at 0 h, cell_at 1 h, cell_at 2 h, cell_at 3 h⟩
  | 1, hx =>
    have : k' = x := by simpa using hx
    subst this
    exact ⟨cell_at 4 h, cell_at 5 h, cell_at 6 h, cell_at 7 h⟩
end Go.Proofs.Cob

namespace Go.Proofs.Cob
open Go Go.RowKit Go.Cob
set_option linter.unusedSimpArgs false
set_option linter.unusedVariables false

theorem wp_region_bch {P : Program} {id : Nat} {Q : Exit → Go.Act → World → Prop} {a : Go.Act} {w : World} {l : List Oper} (S : Nat → Prop) (n : Nat) {l1 l2 : List Oper} {ob : Oper} (hm : P.follows .mixedOrders = true) (hp : PartAt n l l1 ob l2) (hB : mixB l.toArray = true) (hbar : barB l.toArray n = true)
    (h : ∀ p : Ch S w, p.w.heap = w.heap → wpMix P l.toArray (fun w' => ∃ p : Ch S w, w' = p.w) (LastStep P l.toArray ob (fun a' w' => ∃ C2 : World → Prop, C2 w' ∧ wpMix P l.toArray C2 (Q .normal) l2 a' w')) l1 a p.w) : (Code.region id l.toArray true).wp P Q a w :=
  wp_region_bar (fun w' => ∃ p : Ch S w, w' = p.w) n hm hp hB hbar ⟨(Ch.refl S w).drew, rfl⟩ (h (Ch.refl S w).drew rfl)

theorem Run.boxB {w0 W : World} {bs : List Box} {I : Ids} {r : Nat} {A : ArenaSt} {L : List (Key × Cl)} (h : Run W I r A L (Wide w0 bs)) (c : Array Value) (t : TypeId) : Run (W.alloc (.cells c t)) I r A L (Wide w0 ((W.heap.size, t, c) :: bs)) :=
  (h.box (.cells c t)).mono fun b hb => ⟨hb.1.1, fun x hx => by
    rcases List.mem_cons.1 hx with rfl | hx
    · exact hb.2
    · exact hb.1.2 x hx⟩
theorem Run.drop {w0 W : World} {x : Box} {bs : List Box} {I : Ids} {r : Nat} {A : ArenaSt} {L : List (Key × Cl)} (h : Run W I r A L (Wide w0 (x :: bs))) : Run W I r A L (Wide w0 bs) :=
  h.mono fun b hb => wide_tail b hb
theorem Run.stN {w : World} {I : Ids} {r : Nat} {A : ArenaSt} {L : List (Key × Cl)} {B : Nat → Prop} (h : Run w I r A L B) : ∃ F, StN w I A L F := by
  obtain ⟨F, G, h1, -⟩ := h.duo
  exact ⟨F, h1⟩
theorem Run.refAt {w : World} {I : Ids} {r : Nat} {A : ArenaSt} {L : List (Key × Cl)} {B : Nat → Prop} (h : Run w I r A L B) : ∃ fa cap, RefAt w r (.slice fa L.length cap) A.room (L.map conv) := by
  obtain ⟨F, G, -, ⟨⟨v, h2, -⟩, -⟩, -⟩ := h.duo
  obtain ⟨fa, cap, rfl, -, -⟩ := row_form h2.row
  rw [List.length_map] at h2
  exact ⟨fa, cap, h2⟩
theorem Run.s0 {w : World} {I : Ids} {r : Nat} {A : ArenaSt} {L : List (Key × Cl)} {B : Nat → Prop} (h : Run w I r A L B) : w.cell? ⟨I.s, 0, none⟩ = some (.pointer (some ⟨I.a, 0, none⟩)) := by
  obtain ⟨F, h1⟩ := h.stN
  exact cell_at 0 h1.at
theorem Run.lenC {w : World} {I : Ids} {r : Nat} {A : ArenaSt} {L : List (Key × Cl)} {B : Nat → Prop} (h : Run w I r A L B) : Calls Try.prog 34 #[.pointer (some ⟨I.a, 0, none⟩)] w fun e w' => e = .returned (.int .i64 L.length) ∧ w = w' := by
  obtain ⟨F, h1⟩ := h.stN
  have := len_n h1
  rw [← h.iv.len] at this
  exact this
theorem Run.room {w : World} {I : Ids} {r : Nat} {A : ArenaSt} {L : List (Key × Cl)} {B : Nat → Prop} (h : Run w I r A L B) : ¬ A.room < (L.length : Int) := by
  have := h.few.2; have := h.iv.len; have := h.iv.sum; omega
theorem Run.heldC {w : World} {I : Ids} {r : Nat} {A : ArenaSt} {L : List (Key × Cl)} {B : Nat → Prop} (h : Run w I r A L B) (who : Int) : Calls Try.prog 95 #[.pointer (some ⟨I.s, 0, none⟩), .int .i64 who] w fun e w' => ∃ v, e = .returned v ∧ KeysOut w v (heldM L who) w' := by
  have := h.few.1
  obtain ⟨F, h1⟩ := h.stN
  exact held_n I A L F who w h1 (by omega)
theorem Run.keysC {w : World} {I : Ids} {r : Nat} {A : ArenaSt} {L : List (Key × Cl)} {B : Nat → Prop} (h : Run w I r A L B) : Calls Try.prog 91 #[.pointer (some ⟨I.s, 0, none⟩)] w fun e w' => ∃ v, e = .returned v ∧ KeysOut w v (keysM L) w' := by
  have := h.few.1
  obtain ⟨F, h1⟩ := h.stN
  exact keys_n I A L F w h1 (by omega)
theorem KSm.conv {L : List (Key × Cl)} (h : KSm L) : ∀ c ∈ L.map conv, c.k.s.size < 4611686018427387904 := by
  intro c hc
  obtain ⟨p, hp, rfl⟩ := List.mem_map.1 hc
  have := h p hp
  show p.1.s.size < _
  omega
theorem Run.rheldC {w : World} {I : Ids} {r : Nat} {A : ArenaSt} {L : List (Key × Cl)} {B : Nat → Prop} (h : Run w I r A L B) (hk : KSm L) (who : Int) : Calls Try.prog 96 #[.pointer (some ⟨r, 0, none⟩), .int .i64 0, .int .i64 who] w fun e w' => ∃ v, e = .returned v ∧ KeysOut w v (heldM L who) w' := by
  have := h.few.1
  obtain ⟨fa, cap, h1⟩ := h.refAt
  have := refKeys_any r _ A.room (L.map Cob.conv) 0 who w h1 (by simp; omega) (.inl rfl) hk.conv
  rw [heldM_conv] at this
  exact this
theorem Run.rkeysC {w : World} {I : Ids} {r : Nat} {A : ArenaSt} {L : List (Key × Cl)} {B : Nat → Prop} (h : Run w I r A L B) (hk : KSm L) : Calls Try.prog 96 #[.pointer (some ⟨r, 0, none⟩), .int .i64 1, .int .i64 0] w fun e w' => ∃ v, e = .returned v ∧ KeysOut w v (keysM L) w' := by
  have := h.few.1
  obtain ⟨fa, cap, h1⟩ := h.refAt
  have := refKeys_any r _ A.room (L.map Cob.conv) 1 0 w h1 (by simp; omega) (.inr rfl) hk.conv
  rw [keysM_conv] at this
  exact this
theorem Run.findC {w : World} {I : Ids} {r : Nat} {A : ArenaSt} {L : List (Key × Cl)} {B : Nat → Prop} (h : Run w I r A L B) (k : Key) : Calls Try.prog 98 #[.pointer (some ⟨r, 0, none⟩), keyV k] w fun e w' => e = .returned (.int .i64 (idxR (L.map Cob.conv) k)) ∧ ∃ p : Ext w, w' = p.w := by
  have := h.few.1
  obtain ⟨fa, cap, h1⟩ := h.refAt
  exact find_any r _ A.room (L.map Cob.conv) k w h1 (by simp; omega)
theorem Run.lookC {w : World} {I : Ids} {r : Nat} {A : ArenaSt} {L : List (Key × Cl)} {B : Nat → Prop} (h : Run w I r A L B) (k : Key) : Calls Try.prog 97 #[.pointer (some ⟨I.s, 0, none⟩), keyV k] w fun e w' => e = .returned (.tuple #[(lookM L k).1, .bool (lookM L k).2]) ∧ ∃ p : Ext w, w' = p.w := by
  obtain ⟨F, h1⟩ := h.stN
  exact look_m I A L F k w h1.st
theorem Run.handleC {w : World} {I : Ids} {r : Nat} {A : ArenaSt} {L : List (Key × Cl)} {B : Nat → Prop} (h : Run w I r A L B) (k : Key) : Calls Try.prog 89 #[.pointer (some ⟨I.s, 0, none⟩), keyV k] w fun e w' => e = .returned (.tuple #[hdV (handleM L k).1, .bool (handleM L k).2]) ∧ ∃ p : Ext w, w' = p.w := by
  obtain ⟨F, h1⟩ := h.stN
  exact handle_m I A L F k w h1.st
theorem Run.liveC {w : World} {I : Ids} {r : Nat} {A : ArenaSt} {L : List (Key × Cl)} {B : Nat → Prop} (h : Run w I r A L B) {k : Key} {z : Cl} (hg : aget L k = some z) : Calls Try.prog 90 #[.pointer (some ⟨I.a, 0, none⟩), .agg #[.int .i64 z.sl, .int .i64 z.gen]] w fun e w' => e = .returned (.bool true) ∧ ∃ p : Ext w, w' = p.w := by
  obtain ⟨F, h1⟩ := h.stN
  have := live_n h1 z.sl z.gen
  rw [(h.iv.drop hg).1] at this
  exact this
theorem run_eq_hd (a b : Int) (w : World) : (Op.equalIn 10000 143 (.agg #[.int .i64 a, .int .i64 b]) (.agg #[.int .i64 a, .int .i64 b])).run Try.prog w = .ok true w := by
  simp [go_sem, Try.underlying143, Try.underlying3]
/-- Both stores new. -/
theorem Run.start {w W : World} {I : Ids} {room : Int} (hC : Scene w W []) (h : StN W I ⟨room, 0, [], [], []⟩ [] (Wide w [])) : Run (W.alloc (.cells #[.int .i64 room, .slice none 0 0] 49)) I W.heap.size ⟨room, 0, [], [], []⟩ [] (Wide w []) := by
  have hb : (W.alloc (.cells #[.int .i64 room, .slice none 0 0] 49)).heap[W.heap.size]? = some (.cells #[.int .i64 room, .slice none 0 0] 49 (0, 0)) := heap_alloc_at _ _
  have hs := hC.size
  refine ⟨⟨fun b => Wide w [] b ∧ b < W.heap.size, fun b => b = W.heap.size, (StN.mono h (fun b hb hw => ⟨hw, hb⟩)).ext ((Ch.refl NoS W).alloc _), ?_, ?_, ?_, ?_⟩, by simp [WordsOk], InvA.empty room⟩
  · exact ⟨⟨_, ⟨hb, rfl, .inl ⟨rfl, rfl⟩⟩, fun b hb => by simp [Value.ownBlock] at hb⟩, rfl⟩
  · exact fun b hb => ⟨hb.1, by simp; omega⟩
  · rintro b rfl
    exact ⟨⟨hs, by simp⟩, by simp⟩
  · rintro b hb rfl
    omega
end Go.Proofs.Cob
