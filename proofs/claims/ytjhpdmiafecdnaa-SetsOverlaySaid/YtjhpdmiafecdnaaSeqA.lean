/-
  maps.Keys at the sets' maps (layer 13): what its iterator gives.
-/
import Derived.Test.YtjhpdmiafecdnaaKey
import Derived.Test.YtjhpdmiafecdnaaRangeIn
namespace Go.Proofs.Cob
open Go Go.RowKit Go.Cob Go.Shelf
set_option linter.unusedSimpArgs false
set_option linter.unusedVariables false
attribute [local go_sem] Oper.semAt_some

set_option maxRecDepth 100000 in
theorem iter213_in {β : Type} (encV : β → Value) (F : Fence) (n : Nat) (hg : F.fn 213) (hro : F.round = none) (hn : 1 ≤ n) (l Bm b : Nat) (L : List (Key × β)) (J Jx : List Key → World → Prop)
    (hY : ∀ pre x W, J pre W → pre.length < L.length → YieldAt F (n - 1) Try.prog l #[keyV x] W fun e W' => (e = .returned (.bool true) ∧ J (pre ++ [x]) W' ∧ KeepsWalks W W') ∨ (e = .returned (.bool false) ∧ Jx (pre ++ [x]) W'))
    (W : World) (hJ : AbidesFrom W.heap.size J) (hm : W.cell? ⟨Bm, 0, none⟩ = some (.map (some b))) (hM : MapAt keyV encV W b L) (h0 : J [] W) :
    CallsIn F n Try.prog 213 #[.func (.yield l) #[] #[], .pointer (some ⟨Bm, 0, none⟩)] W fun e W' => (∃ v, e = .returned v) ∧ ((∃ ks, ks.Perm (L.map (·.1)) ∧ J ks W') ∨ (∃ pre, pre.length ≤ L.length ∧ Jx pre W')) := by
  refine callsIn_of_wp Try.func213 rfl hg ?_ hro
  simp only [Try.ntmps213, List.size_toArray, List.length_cons, List.length_nil, Nat.reduceAdd, Nat.reduceSub, Array.replicate_succ, Array.replicate_zero, List.push_toArray, List.append_toArray, List.nil_append, List.cons_append]
  gi_wp2_with (first
    | (gi_at_range; refine wpListIn_mrange rfl _ 230 rfl Try.underlying230 (encK := keyV) (encV := encV) rfl hM ?_; intro ob hR0)
    | gi_in)
  go_frame
  gi_loopw [3] (fun _ wr => ∃ (left done : List (Key × β)), Ranging keyV encV wr b W.heap.size L left ∧ (done ++ left).Perm L ∧ J (done.map (·.1)) wr)
    (fun _ wr => wr.rangeLeft b W.heap.size)
  case atStart => exact ⟨L, [], hR0, by simp, hJ [] W _ none h0 (World.grownBy_alloc W _ none) (fun r e => by cases e)⟩
  case round =>
    obtain ⟨left, done, hR, hperm, hJs⟩ := hrel
    gi_wp2_with (first
      | (gi_at_next; refine wpListIn_mnext rfl _ rfl rfl hR ?_ ?_)
      | gi_in)
    · intro hl0
      subst hl0
      gi_wp2
      go_end0
      exact ⟨⟨_, rfl⟩, .inl ⟨_, (by simpa using hperm.map (·.1)), hJs⟩⟩
    · intro l1 k v l2 p1 hx hR1 hen
      subst hx
      have hJ1 : J (done.map (·.1)) p1.w := hJ _ wr p1.w (some W.heap.size) hJs (p1.grows fun b hb => hb) (fun r e => by cases e; exact ⟨Nat.le_refl _, hR.walk⟩)
      obtain ⟨kd, ka, kb, kt⟩ := k
      have hJ2 : J (done.map (·.1)) (p1.w.alloc (.cells #[.int .i64 kd, .int .i64 ka, .int .i64 kb, .string kt] 23)) := hJ _ _ _ none hJ1 (World.grownBy_alloc _ _ none) (fun r e => by cases e)
      have hR2 : Ranging keyV encV (p1.w.alloc (.cells #[.int .i64 kd, .int .i64 ka, .int .i64 kb, .string kt] 23)) b W.heap.size L (l1 ++ l2) := hR1.ext ((Ch.refl NoS _).alloc _)
      have hlen : (done.map (·.1)).length < L.length := by have := hperm.length_eq; simp at this ⊢; omega
      have hperm2 : (done ++ [((⟨kd, ka, kb, kt⟩ : Key), v)] ++ (l1 ++ l2)).Perm L := by
        refine List.Perm.trans ?_ hperm
        simp only [List.append_assoc, List.singleton_append]
        exact List.Perm.append_left done (List.perm_middle.symm)
      obtain ⟨fn, tmps, assign, body, hy, hYR⟩ := hY _ ⟨kd, ka, kb, kt⟩ _ hJ2 hlen
      have hleft : wr.rangeLeft b W.heap.size = (l1 ++ l2).length + 1 := by rw [hR.left_eq]; simp; omega
      have Hleft : Hid _ := hleft
      have Hperm : Hid _ := hperm2
      clear hleft hperm2 hlen hperm hR hR1 hJ1 hJs
      simp only [keyV] at hy
      gi_wp2
      refine hYR.mono ?_
      rintro e W3 (⟨rfl, hJ3, hk3⟩ | ⟨rfl, hJx3⟩)
      · gi_wp2
        have hR3 := hR2.of_walks hk3
        go_roundw
        case rel => exact ⟨l1 ++ l2, done ++ [((⟨kd, ka, kb, kt⟩ : Key), v)], hR3, Hperm.out, by simpa using hJ3⟩
        case measure => rw [hR3.left_eq, Hleft.out]; simp
      · gi_wp2
        refine bodyPost_ret (results_none rfl _ _ _) rfl ?_
        exact ⟨⟨_, rfl⟩, .inr ⟨_, by have := Hperm.out.length_eq; simp at this ⊢; omega, hJx3⟩⟩
/-- maps.Keys's value gives the map's keys. -/
theorem stops213 {β : Type} (encV : β → Value) (F : Fence) (n : Nat) (hg : F.fn 213) (hro : F.round = none) (hn : 1 ≤ n) (Bm b : Nat) (L : List (Key × β)) (w : World) (hBm : Bm < w.heap.size)
    (hm : w.cell? ⟨Bm, 0, none⟩ = some (.map (some b))) (hM : MapAt keyV encV w b L) :
    SeqStopsK F n Try.prog 213 #[.pointer (some ⟨Bm, 0, none⟩)] (fun x : Key => #[keyV x]) KeepsWalks (fun ks => ks.Perm (L.map (·.1))) (fun pre => pre.length ≤ L.length) L.length w := fun l J Jx W hW hJ _ hY h0 =>
  iter213_in encV F n hg hro hn l Bm b L J Jx hY W hJ ((hW.cell (p := ⟨Bm, 0, none⟩) hBm).trans hm) (hM.below hW hM.lt) h0
set_option maxRecDepth 100000 in
theorem iter212_in {β : Type} (encV : β → Value) (F : Fence) (n : Nat) (hg : F.fn 212) (hro : F.round = none) (hn : 1 ≤ n) (l Bm b : Nat) (L : List (Key × β)) (J Jx : List Key → World → Prop)
    (hY : ∀ pre x W, J pre W → pre.length < L.length → YieldAt F (n - 1) Try.prog l #[keyV x] W fun e W' => (e = .returned (.bool true) ∧ J (pre ++ [x]) W' ∧ KeepsWalks W W') ∨ (e = .returned (.bool false) ∧ Jx (pre ++ [x]) W'))
    (W : World) (hJ : AbidesFrom W.heap.size J) (hm : W.cell? ⟨Bm, 0, none⟩ = some (.map (some b))) (hM : MapAt keyV encV W b L) (h0 : J [] W) :
    CallsIn F n Try.prog 212 #[.func (.yield l) #[] #[], .pointer (some ⟨Bm, 0, none⟩)] W fun e W' => (∃ v, e = .returned v) ∧ ((∃ ks, ks.Perm (L.map (·.1)) ∧ J ks W') ∨ (∃ pre, pre.length ≤ L.length ∧ Jx pre W')) := by
  refine callsIn_of_wp Try.func212 rfl hg ?_ hro
  simp only [Try.ntmps212, List.size_toArray, List.length_cons, List.length_nil, Nat.reduceAdd, Nat.reduceSub, Array.replicate_succ, Array.replicate_zero, List.push_toArray, List.append_toArray, List.nil_append, List.cons_append]
  gi_wp2_with (first
    | (gi_at_range; refine wpListIn_mrange rfl _ 229 rfl Try.underlying229 (encK := keyV) (encV := encV) rfl hM ?_; intro ob hR0)
    | gi_in)
  go_frame
  gi_loopw [3] (fun _ wr => ∃ (left done : List (Key × β)), Ranging keyV encV wr b W.heap.size L left ∧ (done ++ left).Perm L ∧ J (done.map (·.1)) wr)
    (fun _ wr => wr.rangeLeft b W.heap.size)
  case atStart => exact ⟨L, [], hR0, by simp, hJ [] W _ none h0 (World.grownBy_alloc W _ none) (fun r e => by cases e)⟩
  case round =>
    obtain ⟨left, done, hR, hperm, hJs⟩ := hrel
    gi_wp2_with (first
      | (gi_at_next; refine wpListIn_mnext rfl _ rfl rfl hR ?_ ?_)
      | gi_in)
    · intro hl0
      subst hl0
      gi_wp2
      go_end0
      exact ⟨⟨_, rfl⟩, .inl ⟨_, (by simpa using hperm.map (·.1)), hJs⟩⟩
    · intro l1 k v l2 p1 hx hR1 hen
      subst hx
      have hJ1 : J (done.map (·.1)) p1.w := hJ _ wr p1.w (some W.heap.size) hJs (p1.grows fun b hb => hb) (fun r e => by cases e; exact ⟨Nat.le_refl _, hR.walk⟩)
      obtain ⟨kd, ka, kb, kt⟩ := k
      have hJ2 : J (done.map (·.1)) (p1.w.alloc (.cells #[.int .i64 kd, .int .i64 ka, .int .i64 kb, .string kt] 23)) := hJ _ _ _ none hJ1 (World.grownBy_alloc _ _ none) (fun r e => by cases e)
      have hR2 : Ranging keyV encV (p1.w.alloc (.cells #[.int .i64 kd, .int .i64 ka, .int .i64 kb, .string kt] 23)) b W.heap.size L (l1 ++ l2) := hR1.ext ((Ch.refl NoS _).alloc _)
      have hlen : (done.map (·.1)).length < L.length := by have := hperm.length_eq; simp at this ⊢; omega
      have hperm2 : (done ++ [((⟨kd, ka, kb, kt⟩ : Key), v)] ++ (l1 ++ l2)).Perm L := by
        refine List.Perm.trans ?_ hperm
        simp only [List.append_assoc, List.singleton_append]
        exact List.Perm.append_left done (List.perm_middle.symm)
      obtain ⟨fn, tmps, assign, body, hy, hYR⟩ := hY _ ⟨kd, ka, kb, kt⟩ _ hJ2 hlen
      have hleft : wr.rangeLeft b W.heap.size = (l1 ++ l2).length + 1 := by rw [hR.left_eq]; simp; omega
      have Hleft : Hid _ := hleft
      have Hperm : Hid _ := hperm2
      clear hleft hperm2 hlen hperm hR hR1 hJ1 hJs
      simp only [keyV] at hy
      gi_wp2
      refine hYR.mono ?_
      rintro e W3 (⟨rfl, hJ3, hk3⟩ | ⟨rfl, hJx3⟩)
      · gi_wp2
        have hR3 := hR2.of_walks hk3
        go_roundw
        case rel => exact ⟨l1 ++ l2, done ++ [((⟨kd, ka, kb, kt⟩ : Key), v)], hR3, Hperm.out, by simpa using hJ3⟩
        case measure => rw [hR3.left_eq, Hleft.out]; simp
      · gi_wp2
        refine bodyPost_ret (results_none rfl _ _ _) rfl ?_
        exact ⟨⟨_, rfl⟩, .inr ⟨_, by have := Hperm.out.length_eq; simp at this ⊢; omega, hJx3⟩⟩
/-- maps.Keys's value gives the map's keys. -/
theorem stops212 {β : Type} (encV : β → Value) (F : Fence) (n : Nat) (hg : F.fn 212) (hro : F.round = none) (hn : 1 ≤ n) (Bm b : Nat) (L : List (Key × β)) (w : World) (hBm : Bm < w.heap.size)
    (hm : w.cell? ⟨Bm, 0, none⟩ = some (.map (some b))) (hM : MapAt keyV encV w b L) :
    SeqStopsK F n Try.prog 212 #[.pointer (some ⟨Bm, 0, none⟩)] (fun x : Key => #[keyV x]) KeepsWalks (fun ks => ks.Perm (L.map (·.1))) (fun pre => pre.length ≤ L.length) L.length w := fun l J Jx W hW hJ _ hY h0 =>
  iter212_in encV F n hg hro hn l Bm b L J Jx hY W hJ ((hW.cell (p := ⟨Bm, 0, none⟩) hBm).trans hm) (hM.below hW hM.lt) h0
end Go.Proofs.Cob
