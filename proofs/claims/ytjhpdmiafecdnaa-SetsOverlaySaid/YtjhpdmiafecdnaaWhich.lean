/-
  The cells' store (layer 9): the keys of the cells of which something is so.
-/
import Derived.Test.YtjhpdmiafecdnaaKeys
import Derived.Test.YtjhpdmiafecdnaaRange
namespace Go.Proofs.Cob
open Go Go.RowKit Go.Cob
set_option linter.unusedSimpArgs false
set_option linter.unusedVariables false

abbrev encKey (k : Key) : List Value := [.int .i64 k.kind, .int .i64 k.a, .int .i64 k.b, .string k.s]
def rowKey (ks : List Key) : List Value := ks.flatMap encKey
theorem rowKey_length (ks : List Key) : (rowKey ks).length = ks.length * 4 := by
  induction ks with
  | nil => rfl
  | cons k ks ih => simp only [rowKey, List.flatMap_cons, List.length_append, List.length_cons, List.length_nil] at ih ⊢; omega
theorem rowKey_get : ∀ {ks : List Key} {i : Nat} {k : Key}, ks[i]? = some k → ∀ j, j < 4 → (rowKey ks)[i * 4 + j]? = (encKey k)[j]?
  | x :: ks, 0, k, h, j, hj => by
    have : x = k := by simpa using h
    subst this
    simp only [rowKey, List.flatMap_cons, Nat.zero_mul, Nat.zero_add]
    rw [List.getElem?_append_left (by simpa using hj)]
  | x :: ks, i + 1, k, h, j, hj => by
    have e : (i + 1) * 4 + j = (encKey x).length + (i * 4 + j) := by simp; omega
    simp only [rowKey, List.flatMap_cons]
    rw [e, List.getElem?_append_right (by omega)]
    rw [show (encKey x).length + (i * 4 + j) - (encKey x).length = i * 4 + j from by omega]
    exact rowKey_get (by simpa using h) j hj
theorem rowKey_snoc (ks : List Key) (k : Key) : rowKey (ks ++ [k]) = rowKey ks ++ encKey k := by simp [rowKey]
theorem keysIn_row {w : World} {base cap : Nat} {g : Nat} {ks : List Key} (h : w.ownsRow base 23 4 (.slice (some ⟨g, 0, none⟩) ks.length cap) ks.length (rowKey ks)) : KeysIn w (some ⟨g, 0, none⟩) ks := by
  refine .inr ⟨g, 0, rfl, fun i k hk => ?_⟩
  have hi : i < ks.length := (List.getElem?_eq_some_iff.1 hk).1
  have hcell : ∀ j, j < 4 → w.cell? ⟨g, 0 + i * 4 + j, none⟩ = (encKey k)[j]? := fun j hj => by
    rw [Nat.zero_add, h.cellAt (i * 4 + j) (by omega)]
    exact rowKey_get hk j hj
  exact ⟨hcell 0 (by omega), hcell 1 (by omega), hcell 2 (by omega), hcell 3 (by omega)⟩
theorem info23 : ∃ i, Try.prog.info? 23 = some i ∧ i.zero = some (.agg #[.int .i64 0, .int .i64 0, .int .i64 0, .string ⟨#[]⟩]) ∧ i.size = 4 ∧ i.bytes = 40 :=
  ⟨(Try.prog.info? 23).get (by kernel_rfl), (Option.some_get _).symm, by kernel_rfl, by kernel_rfl, by kernel_rfl⟩

theorem rowBase {w : World} {base e size n : Nat} {v : Value} {xs : List Value} (h : w.ownsRow base e size v n xs) {g : Nat} (hg : v.ownBlock = some g) : base ≤ g := by
  rcases h.2 with ⟨rfl, -⟩ | ⟨g', cap, cur, rfl, hb, -⟩
  · cases hg
  · simp only [Value.ownBlock, Option.some.injEq] at hg
    omega
set_option maxRecDepth 4000 in
set_option maxHeartbeats 3200000 in
theorem whichLoop (I : Ids) (fv : Value) (A : ArenaSt) (l : List (Key × Slot)) (w : World) (h : StoreAt w I fv A l) (g : Nat) (cb : Array Value) (pr : Slot → Bool) (hl : l.length < 1099511627776)
    (eg : ∀ args w, (callFunc g args).run Try.prog w = .ok (.enter g args) w)
    (hcb : ∀ p : Ext w, ∀ x ∈ l, Calls Try.prog g (#[slotV x.2] ++ cb) p.w fun e w' => e = .returned (.bool (pr x.2)) ∧ ∃ q : Ext p.w, w' = q.w)
    (R : Ending → World → Prop)
    (hsort : ∀ (p : Ext w) (v : Value) (ks : List Key), ks.Perm ((l.filter fun x => pr x.2).map (·.1)) → p.w.ownsRow (w.heap.size + 1) 23 4 v ks.length (rowKey ks) →
      Calls Try.prog 211 #[v, .func (.func 22) #[] #[]] p.w fun e w' => e = .returned (.tuple #[]) ∧ R (.returned v) w') :
    Calls Try.prog 168 #[.pointer (some ⟨I.s, 0, none⟩), .func (.func g) #[] cb] w R := by
  have m1 : w.cell? ⟨I.s, 1, none⟩ = some (.map (some I.m)) := cell_at 1 h.st
  have hmp := h.mp
  have HS : Hid _ := hsort
  have HB : Hid _ := hcb
  clear hsort hcb
  go_enter Try.func168, Try.ntmps168
  go_wp2_with (first
    | (at_range; refine wpList_range rfl _ 56 rfl Try.underlying56 (encK := keyV) (encV := slotV) rfl hmp ?_; intro ob hR0)
    | go_in)
  go_frame
  go_loopw [5] (fun v wr => ∃ (p : Ext w) (left done : List (Key × Slot)) (ks : List Key), wr = p.w ∧ Ranging keyV slotV p.w I.m w.heap.size l left ∧ (done ++ left).Perm l ∧ ks = (done.filter fun x => pr x.2).map (·.1) ∧ p.w.ownsRow (w.heap.size + 1) 23 4 v ks.length (rowKey ks))
    (fun _ wr => wr.rangeLeft I.m w.heap.size)
  case atStart =>
    exact ⟨(Ch.refl NoS w).alloc ob, l, [], [], rfl, hR0, by simp, rfl, rfl, .inl ⟨rfl, rfl⟩⟩
  case round =>
    obtain ⟨p, left, done, ks, rfl, hR, hperm, hks0, hrow⟩ := hrel
    have hks : Hid _ := hks0
    clear hks0
    go_wp2_with (first
      | (at_next; refine wpList_next rfl _ rfl rfl hR ?_ ?_)
      | go_in)
    · intro hl0
      subst hl0
      have hp : ks.Perm ((l.filter fun x => pr x.2).map (·.1)) := by
        rw [hks.out]
        simp only [List.append_nil] at hperm
        exact (hperm.filter _).map _
      have hcall := HS.out p _ ks hp hrow
      clear hR hrow hks hperm hp h hmp hR0 m1
      go_wp2_with (first
        | (go_at_call 211; refine hcall.mono ?_; clear hcall; rintro e w' ⟨rfl, hr⟩)
        | go_in)
      exact hr
    · intro l1 k z l2 p1 hx hR1 hen
      subst hx
      obtain ⟨kd, ka, kb, kt⟩ := k
      have hmem : ((⟨kd, ka, kb, kt⟩, z) : Key × Slot) ∈ l := hperm.subset (by simp)
      have hlt := hR1.lt
      obtain ⟨p2, hp2⟩ : ∃ p2 : Ext w, p1.w = p2.w := ⟨p.then p1 (fun b hb e => by omega), rfl⟩
      have hrow1 : p1.w.ownsRow (w.heap.size + 1) 23 4 u5 ks.length (rowKey ks) := rowKeep hrow (fun b hb => p1.same b (by obtain ⟨c, hc⟩ := rowBlk hrow hb; exact lt_of_blk hc) (fun e => by have := rowBase hrow hb; omega))
      rw [hp2] at hR1 hen hrow1 hlt ⊢
      obtain ⟨W, hW⟩ : ∃ W, W = p2.w.alloc (.cells (keyCells kd ka kb kt) 23) := ⟨_, rfl⟩
      obtain ⟨b6, hb6⟩ : ∃ b6, b6 = p2.w.heap.size := ⟨_, rfl⟩
      have hkb : W.heap[b6]? = some (.cells (keyCells kd ka kb kt) 23 (0, 0)) := by rw [hW, hb6]; exact heap_alloc_at _ _
      go_wp2_with fail
      rw [← hb6, ← hW]
      obtain ⟨p3, hp3⟩ : ∃ p3 : Ext w, W = p3.w := ⟨p2.alloc _, hW⟩
      have hc := HB.out p3 _ hmem
      have hR3 : Ranging keyV slotV W I.m w.heap.size l (l1 ++ l2) := by rw [hW]; exact hR1.ext ((Ch.refl NoS p2.w).alloc _)
      have hrow3 : W.ownsRow (w.heap.size + 1) 23 4 u5 ks.length (rowKey ks) := by rw [hW]; exact hrow1.alloc _
      have hsz : w.heap.size < b6 := by rw [hb6]; exact hlt.2
      have hleft : p.w.rangeLeft I.m w.heap.size = (l1 ++ l2).length + 1 := by rw [hR.left_eq]; simp; omega
      have Hleft : Hid _ := hleft
      clear hleft hR hrow hrow1 hR1 hW hb6 hlt hp2 p1 hen
      subst hp3
      cases hpr : pr z
      · rw [hpr] at hc
        refine hc.mono ?_
        clear hc
        rintro e w' ⟨rfl, q, rfl⟩
        have hR4 := hR3.ext q
        have hrow4 : q.w.ownsRow (w.heap.size + 1) 23 4 u5 ks.length (rowKey ks) := rowKeep hrow3 (fun b hb => q.same b (by obtain ⟨c, hc⟩ := rowBlk hrow3 hb; exact lt_of_blk hc) id)
        obtain ⟨p5, hp5⟩ : ∃ p5 : Ext w, q.w = p5.w := ⟨p3.thenE q, rfl⟩
        rw [hp5] at hR4 hrow4 ⊢
        clear hp5 q hR3 hrow3 hkb
        go_wp2_with fail
        refine ⟨⟨p5, l1 ++ l2, done ++ [(⟨kd, ka, kb, kt⟩, z)], ks, rfl, hR4, ?_, ?_, hrow4⟩, ?_⟩
        · exact List.Perm.trans (by
            simp only [List.append_assoc]
            exact List.Perm.append_left _ (by simpa using (List.perm_middle (l₁ := l1) (l₂ := l2)).symm)) hperm
        · rw [hks, List.filter_append]
          simp [hpr]
        · rw [hR4.left_eq, Hleft.out]; omega
      · rw [hpr] at hc
        refine hc.mono ?_
        clear hc
        rintro e w' ⟨rfl, q, rfl⟩
        have hR4 := hR3.ext q
        have hrow4 : q.w.ownsRow (w.heap.size + 1) 23 4 u5 ks.length (rowKey ks) := rowKeep hrow3 (fun b hb => q.same b (by obtain ⟨c, hc⟩ := rowBlk hrow3 hb; exact lt_of_blk hc) id)
        have hkb4 := q.blkE hkb
        obtain ⟨p5, hp5⟩ : ∃ p5 : Ext w, q.w = p5.w := ⟨p3.thenE q, rfl⟩
        rw [hp5] at hR4 hrow4 hkb4 ⊢
        clear hp5 q hR3 hrow3 hkb
        have k0 : p5.w.cell? ⟨b6, 0, none⟩ = some (.int .i64 kd) := cell_at 0 hkb4
        have k1 : p5.w.cell? ⟨b6, 1, none⟩ = some (.int .i64 ka) := cell_at 1 hkb4
        have k2 : p5.w.cell? ⟨b6, 2, none⟩ = some (.int .i64 kb) := cell_at 2 hkb4
        have k3 : p5.w.cell? ⟨b6, 3, none⟩ = some (.string kt) := cell_at 3 hkb4
        clear hkb4
        have hlt4 := hR4.lt
        have hne : ∀ b, u5.ownBlock = some b → b ≠ I.m ∧ b ≠ w.heap.size := fun b hb => by
          obtain ⟨c, hc⟩ := rowBlk hrow4 hb
          exact ⟨fun e => (hR4.map.ne_cells hc) e.symm, fun e => by have := rowBase hrow4 hb; omega⟩
        have hkl : ks.length ≤ l.length := by
          rw [hks, List.length_map]
          have h1 := List.length_filter_le (fun x : Key × Slot => pr x.2) done
          have h2 := hperm.length_eq
          simp at h2
          omega
        obtain ⟨inf, hi0, hi1, hi2, hi3⟩ := info23
        go_wp2_with (first
          | (at_builtin; refine wpList_append_own_at _ rfl _ _ 41 rfl (w.heap.size + 1) 23 inf _ 4 40 Try.underlying41 hi0 hi1 hi2 hi3 rfl (by decide) u5 ks.length (rowKey ks) rfl (hrow4.alloc _) ⟨p5.w.heap.size, 0, none⟩ 1 1 (encKey ⟨kd, ka, kb, kt⟩) rfl rfl ?c1 ?c2 ?c3 ?c4 ?c5 ?_)
          | go_in)
        case c1 =>
          intro j u hj
          have e : ((⟨p5.w.heap.size, 0, none⟩ : Addr).add j) = ⟨p5.w.heap.size, j, none⟩ := by cases j <;> simp [Addr.add]
          rw [e]
          exact (cell_at j (heap_alloc_at p5.w (.cells (keyCells kd ka kb kt) 23))).trans (by rw [← hj]; simp [encKey])
        case c2 =>
          intro u hu
          simp [encKey] at hu
          rcases hu with rfl | rfl | rfl | rfl <;> rfl
        case c3 => unfold maxLen; omega
        case c4 => omega
        case c5 => simp; omega
        intro v' w' hrow' hgrow hnil hat
        obtain ⟨p6, hp6⟩ : ∃ p6 : Ext w, w' = p6.w := ⟨(p5.alloc (.cells (keyCells kd ka kb kt) 23)).grown hgrow (fun b hb e => by have := rowBase hrow4 e; omega), rfl⟩
        have hsz5 : (p5.w.alloc (.cells (keyCells kd ka kb kt) 23)).heap.size = p5.w.heap.size + 1 := by simp
        have hR5 : Ranging keyV slotV w' I.m w.heap.size l (l1 ++ l2) := by
          refine hR4.keep ?_ ?_
          · rw [hgrow.block I.m (by rw [hsz5]; omega) (fun e => (hne _ e.symm).1 rfl)]
            exact heap_alloc_lt _ hlt4.1
          · rw [hgrow.block w.heap.size (by rw [hsz5]; omega) (fun e => (hne _ e.symm).2 rfl)]
            exact heap_alloc_lt _ hlt4.2
        have hrow5 : w'.ownsRow (w.heap.size + 1) 23 4 v' (ks ++ [(⟨kd, ka, kb, kt⟩ : Key)]).length (rowKey (ks ++ [⟨kd, ka, kb, kt⟩])) := by
          rw [rowKey_snoc]; simpa using hrow'
        clear hrow' hgrow hnil hat hrow4 hR4 k0 k1 k2 k3
        rw [hp6] at hR5 hrow5 ⊢
        go_wp2_with fail
        refine ⟨⟨p6, l1 ++ l2, done ++ [(⟨kd, ka, kb, kt⟩, z)], ks ++ [⟨kd, ka, kb, kt⟩], rfl, hR5, ?_, ?_, hrow5⟩, ?_⟩
        · exact List.Perm.trans (by
            simp only [List.append_assoc]
            exact List.Perm.append_left _ (by simpa using (List.perm_middle (l₁ := l1) (l₂ := l2)).symm)) hperm
        · rw [hks.out, List.filter_append]
          simp [hpr]
        · rw [hR5.left_eq, Hleft.out]; omega
end Go.Proofs.Cob
