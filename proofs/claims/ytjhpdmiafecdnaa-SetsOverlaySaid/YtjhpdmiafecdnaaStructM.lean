/-
  Structs in memory, their cells unnamed: read, made, stored; in plain regions and in regions of any order.
-/
import Derived.Test.YtjhpdmiafecdnaaMemB
import Derived.Test.YtjhpdmiafecdnaaRowsF
import Derived.Deep.MidRow
namespace Go.Cob
open Go Go.RowKit
set_option linter.unusedSectionVars false
set_option linter.unusedVariables false
section
variable {P : Program}

theorem rangeAt_blk {w : World} {b : Nat} {cs : List Value} {t : TypeId} {fr : Nat × Nat} (h : w.heap[b]? = some (.cells cs.toArray t fr)) : w.rangeAt b 0 cs := fun j v hv => by
  rw [Nat.zero_add, cell_at j h]
  simpa using hv
theorem rangeAt_row {α : Type} {f : α → List Value} {n : Nat} (hf : ∀ x, (f x).length = n) {w : World} {base e : Nat} {g cap m : Nat} {xs : List α} (h : w.ownsRow base e n (.slice (some ⟨g, 0, none⟩) m cap) m (rowF f xs)) (hm : m = xs.length) {i : Nat} {x : α} (hx : xs[i]? = some x) : w.rangeAt g (i * n) (f x) := fun j v hv => by
  have hj : j < n := by rw [← hf x]; exact (List.getElem?_eq_some_iff.1 hv).1
  have hi : i < xs.length := (List.getElem?_eq_some_iff.1 hx).1
  rw [h.cellAt (i * n + j) (by
    have : (i + 1) * n ≤ m * n := Nat.mul_le_mul_right n (by omega)
    rw [Nat.succ_mul] at this
    omega), rowF_get f hf hx j hj, hv]
theorem rangeAt_keep {w w' : World} {b o : Nat} {cs : List Value} (h : w.rangeAt b o cs) (e : w'.heap[b]? = w.heap[b]?) : w'.rangeAt b o cs := fun j v hv => (World.cell?_of_block (a := ⟨b, o + j, none⟩) e).trans (h j v hv)
theorem rangeAt_sub {w : World} {b o : Nat} {cs : List Value} (h : w.rangeAt b o cs) (k m : Nat) : w.rangeAt b (o + k) ((cs.drop k).take m) := fun j v hv => by
  rw [Nat.add_assoc]
  refine h _ _ ?_
  rw [List.getElem?_take] at hv
  split at hv
  · simpa using hv
  · cases hv

/-! ### made -/
theorem setCells_heap {b : Nat} {t : TypeId} {fr : Nat × Nat} : ∀ (vs : List Value) (o : Nat) (w : World) (c : Array Value), w.heap[b]? = some (.cells c t fr) → ∃ c', (w.setCells b o vs).heap[b]? = some (.cells c' t fr) ∧ c'.size = c.size
  | [], o, w, c, h => ⟨c, h, rfl⟩
  | v :: vs, o, w, c, h => by
    obtain ⟨c', h1, h2⟩ := setCells_heap vs (o + 1) (w.setCell ⟨b, o, none⟩ v) _ (heap_set_same h o v)
    exact ⟨c', h1, by rw [h2]; simp⟩
theorem setCell_rest (w : World) (a : Addr) (v : Value) : (w.setCell a v).os = w.os ∧ (w.setCell a v).tape = w.tape ∧ (w.setCell a v).output = w.output ∧ (w.setCell a v).heap.size = w.heap.size := by
  refine ⟨rfl, rfl, rfl, ?_⟩
  simp
theorem alloc_setCells : ∀ (vs : List Value) (o : Nat) (w : World) (c : Array Value) (t : TypeId), o + vs.length = c.size → (w.alloc (.cells c t)).setCells w.heap.size o vs = w.alloc (.cells ((c.toList.take o) ++ vs).toArray t)
  | [], o, w, c, t, h => by
    have : c.toList.take o = c.toList := List.take_of_length_le (by simp at h ⊢; omega)
    simp [World.setCells, this]
  | v :: vs, o, w, c, t, h => by
    have ho : o < c.size := by simp at h; omega
    have e : (w.alloc (.cells c t)).setCell ⟨w.heap.size, o, none⟩ v = w.alloc (.cells (c.setIfInBounds o v) t) := by
      simp only [World.setCell, World.alloc]
      congr 1
      apply Array.ext'
      simp only [Array.toList_modify, Array.toList_push]
      rw [show w.heap.size = w.heap.toList.length from by simp]
      have hmod : ∀ (A : List Obj) (x : Obj) (f : Obj → Obj), (A ++ [x]).modify A.length f = A ++ [f x] := by
        intro A x f
        induction A with
        | nil => rfl
        | cons a A ih => simp [ih]
      rw [hmod]
      simp
    show ((w.alloc (.cells c t)).setCell ⟨w.heap.size, o, none⟩ v).setCells w.heap.size (o + 1) vs = _
    rw [e, alloc_setCells vs (o + 1) w _ t (by simp at h ⊢; omega)]
    congr 2
    have : (c.setIfInBounds o v).toList.take (o + 1) = c.toList.take o ++ [v] := by
      rw [Array.toList_setIfInBounds, List.take_add_one, List.take_set_of_le (Nat.le_refl _), List.getElem?_set_self (by simpa using ho)]
      rfl
    rw [this]; simp
theorem alloc_set_all (w : World) (c : Array Value) (t : TypeId) (vs : List Value) (h : vs.length = c.size) : (w.alloc (.cells c t)).setCells w.heap.size 0 vs = w.alloc (.cells vs.toArray t) := by
  have := alloc_setCells vs 0 w c t (by omega)
  simpa using this

/-- A struct's type, as the laws below ask it. -/
structure Struct (P : Program) (ty : TypeId) (n : Nat) : Prop where
  und : ∃ d, P.underlying ty = some d ∧ d.isRow = true
  size : (P.info? ty).map (·.size) = some n
  zero : ∃ zc : Array Value, zc.size = n ∧ ∀ w, (zeroValue ty).run P w = .ok (.agg zc) w
theorem Struct.mk' {ty : TypeId} {n : Nat} {d : TypeDesc} (h : P.underlying ty = some d) (hd : d.isRow = true) (hs : (P.info? ty).map (·.size) = some n) (hz : ((P.info? ty).bind (·.zero)).elim false (fun z => match z with | .agg zc => zc.size == n | _ => false) = true) : Struct P ty n := by
  refine ⟨⟨d, h, hd⟩, hs, ?_⟩
  cases hi : P.info? ty with
  | none => rw [hi] at hz; cases hz
  | some i =>
    rw [hi] at hz
    cases hzz : i.zero with
    | none => simp [hzz] at hz
    | some z =>
      cases z <;> simp [hzz] at hz
      rename_i zc
      exact ⟨zc, hz, fun w => by simp [zeroValue, typeInfo, hi, hzz]⟩

section
variable {ops : Array Oper} {rest : List Oper} {o : Oper} {a : Act} {w : World} {ty : TypeId} {n : Nat}
theorem wpList_loadS {Q : Exit → Act → World → Prop} (S : Struct P ty n) (hgd : o.guard = none) (x : Operand) (ho : o.op = .load ty x) (b off : Nat) (hx : a.eval x = .pointer (some ⟨b, off, none⟩)) (cs : List Value) (hn : cs.length = n) (hc : w.rangeAt b off cs)
    (h : wpList P ops Q rest (a.put o.dst (.agg cs.toArray)) w) : wpList P ops Q (o :: rest) a w := by
  obtain ⟨d, hd, hr⟩ := S.und
  exact wpList_load_mid hgd ty x ho b off hx cs d hc hd hr (by rw [S.size, hn]) h
theorem wpList_allocS {Q : Exit → Act → World → Prop} (S : Struct P ty n) (hgd : o.guard = none) (ho : o.op = .alloc ty)
    (h : ∀ zc : Array Value, zc.size = n → wpList P ops Q rest (a.put o.dst (.pointer (some ⟨w.heap.size, 0, none⟩))) (w.alloc (.cells zc ty))) : wpList P ops Q (o :: rest) a w := by
  obtain ⟨zc, hz, hr⟩ := S.zero
  refine wpList_plain hgd fun K hK => ?_
  unfold Oper.wp execOp
  simp only [ho, Instr.alloc, Sem.run_bind, Sem.run_pure, Result.andThen_ok, hr, newVar, newRow, Value.cells, run_newObj_alloc]
  exact hK _ _ (h zc hz)
theorem wpList_storeNew {Q : Exit → Act → World → Prop} (S : Struct P ty n) (hgd : o.guard = none) (x y : Operand) (ho : o.op = .store ty x y) (w0 : World) (zc : Array Value) (hz : zc.size = n) (hw : w = w0.alloc (.cells zc ty)) (hx : a.eval x = .pointer (some ⟨w0.heap.size, 0, none⟩)) (cs : List Value) (hy : a.eval y = .agg cs.toArray) (hn : cs.length = n) (h1 : ∀ u ∈ cs, u.oneCell' = true)
    (h : wpList P ops Q rest (a.put o.dst undef) (w0.alloc (.cells cs.toArray ty))) : wpList P ops Q (o :: rest) a w := by
  subst hw
  refine wpList_store_mid hgd ty x y ho w0.heap.size 0 cs.toArray hx hy (fun j hj => ?_) (by rw [S.size]; simp [hn]) (all_oneCell_toArray h1) ?_
  · have hb := heap_alloc_at w0 (.cells zc ty)
    refine ⟨?_, frozen_at _ hb⟩
    rw [Nat.zero_add, cell_at j hb]
    simp at hj
    simp; omega
  · have := alloc_set_all w0 zc ty cs (by omega)
    rw [this]
    exact h
/-- A struct's variable, made and stored into at once. -/
theorem wpList_keep {Q : Exit → Act → World → Prop} {o2 : Oper} (S : Struct P ty n) (hgd : o.guard = none) (ho : o.op = .alloc ty) (hgd2 : o2.guard = none) (d : Nat) (hd : o.dst = some d) (y : Operand) (ho2 : o2.op = .store ty (.tmp d) y) (cs : List Value)
    (hx : (a.put o.dst (.pointer (some ⟨w.heap.size, 0, none⟩))).eval (.tmp d) = .pointer (some ⟨w.heap.size, 0, none⟩)) (hy : (a.put o.dst (.pointer (some ⟨w.heap.size, 0, none⟩))).eval y = .agg cs.toArray) (hn : cs.length = n) (h1 : ∀ u ∈ cs, u.oneCell' = true)
    (h : wpList P ops Q rest ((a.put o.dst (.pointer (some ⟨w.heap.size, 0, none⟩))).put o2.dst undef) (w.alloc (.cells cs.toArray ty))) : wpList P ops Q (o :: o2 :: rest) a w :=
  wpList_allocS S hgd ho fun zc hz => wpList_storeNew S hgd2 (.tmp d) y ho2 w zc hz rfl hx cs hy hn h1 h
end

/-! ### in a region of any order -/
section
variable {ops : Array Oper} {rest : List Oper} {o : Oper} {a : Act} {w : World} {ty : TypeId} {n : Nat} {C : World → Prop} {Q : Act → World → Prop}
theorem wpMix_loadS (S : Struct P ty n) (hg : Region.wanted o (yielded ops a.tmps) = true) (x : Operand) (ho : o.op = .load ty x) (b off : Nat) (hx : a.eval x = .pointer (some ⟨b, off, none⟩)) (cs : List Value) (hn : cs.length = n) (hc : ∀ w', C w' → w'.rangeAt b off cs)
    (h : wpMix P ops C Q rest (a.put o.dst (.agg cs.toArray)) w) : wpMix P ops C Q (o :: rest) a w := by
  obtain ⟨d, hd, hr⟩ := S.und
  unfold wpMix
  refine ⟨trivial, ?_⟩
  rw [if_pos hg, if_neg (by simp [isEff, ho])]
  refine ⟨_, fun w' hw' => ?_, h⟩
  unfold readsAt execOp
  simp only [ho, hx, Instr.loadAt, Instr.sureAddr, Sem.run_bind, Sem.run_pure, Result.andThen_ok, run_loadVar_mid w' b off ty cs d (hc w' hw') hd hr (by rw [S.size, hn])]
  exact ⟨rfl, rfl⟩
theorem wpMix_allocS (S : Struct P ty n) (hg : Region.wanted o (yielded ops a.tmps) = true) (ho : o.op = .alloc ty)
    (h : ∀ zc : Array Value, zc.size = n → C (w.alloc (.cells zc ty)) ∧ wpMix P ops C Q rest (a.put o.dst (.pointer (some ⟨w.heap.size, 0, none⟩))) (w.alloc (.cells zc ty))) : wpMix P ops C Q (o :: rest) a w := by
  obtain ⟨zc, hz, hr⟩ := S.zero
  unfold wpMix
  refine ⟨trivial, ?_⟩
  rw [if_pos hg, if_pos (by simp [isEff, ho])]
  refine ⟨trivial, ?_⟩
  unfold effAt execOp
  simp only [ho, Instr.alloc, Sem.run_bind, Sem.run_pure, Result.andThen_ok, hr, newVar, newRow, Value.cells, run_newObj_alloc, effUpon]
  exact h zc hz
theorem run_storeS (S : Struct P ty n) (b off : Nat) (cs : List Value) (hn : cs.length = n) (h1 : ∀ u ∈ cs, u.oneCell' = true) (ht : w.there b off cs.length) :
    (Instr.storeAt ty (.pointer (some ⟨b, off, none⟩)) (.agg cs.toArray)).run P w = .ok () (w.setCells b off cs) := by
  have := run_storeAt_mid (P := P) w b off ty cs.toArray (by simpa using ht) (by rw [S.size]; simp [hn]) (all_oneCell_toArray h1)
  simpa using this
theorem there_new (w0 : World) (zc : Array Value) (ty : TypeId) : (w0.alloc (.cells zc ty)).there w0.heap.size 0 zc.size := fun j hj => by
  have hb := heap_alloc_at w0 (.cells zc ty)
  refine ⟨?_, frozen_at _ hb⟩
  rw [Nat.zero_add, cell_at j hb]
  simp; omega
theorem wpMix_storeS (S : Struct P ty n) (hg : Region.wanted o (yielded ops a.tmps) = true) (x y : Operand) (ho : o.op = .store ty x y) (b off : Nat) (hx : a.eval x = .pointer (some ⟨b, off, none⟩)) (cs : List Value) (hy : a.eval y = .agg cs.toArray) (hn : cs.length = n) (h1 : ∀ u ∈ cs, u.oneCell' = true) (ht : w.there b off cs.length)
    (h : C (w.setCells b off cs) ∧ wpMix P ops C Q rest (a.put o.dst undef) (w.setCells b off cs)) : wpMix P ops C Q (o :: rest) a w := by
  unfold wpMix
  refine ⟨trivial, ?_⟩
  rw [if_pos hg, if_pos (by simp [isEff, ho])]
  refine ⟨trivial, ?_⟩
  unfold effAt execOp
  simp only [ho, hx, hy, Sem.run_bind, Sem.run_pure, Result.andThen_ok, run_storeS S b off cs hn h1 ht, effUpon]
  exact h
theorem last_storeS {Q : Act → World → Prop} (S : Struct P ty n) (hg : Region.wanted o (yielded ops a.tmps) = true) (x y : Operand) (ho : o.op = .store ty x y) (b off : Nat) (hx : a.eval x = .pointer (some ⟨b, off, none⟩)) (cs : List Value) (hy : a.eval y = .agg cs.toArray) (hn : cs.length = n) (h1 : ∀ u ∈ cs, u.oneCell' = true) (ht : w.there b off cs.length)
    (h : Q (a.put o.dst undef) (w.setCells b off cs)) : LastStep P ops o Q a w := by
  unfold LastStep
  rw [if_pos hg, if_pos (by simp [isEff, ho])]
  unfold effAt execOp
  simp only [ho, hx, hy, Sem.run_bind, Sem.run_pure, Result.andThen_ok, run_storeS S b off cs hn h1 ht, effUpon]
  exact h
end

/-! ### stored into a row -/
def setsL : List Value → Nat → List Value → List Value
  | xs, _, [] => xs
  | xs, o, v :: vs => setsL (xs.set o v) (o + 1) vs
theorem ownsRow_sets {base e size g n cap : Nat} : ∀ (vs : List Value) (o : Nat) (w : World) (xs : List Value), w.ownsRow base e size (.slice (some ⟨g, 0, none⟩) n cap) n xs → (w.setCells g o vs).ownsRow base e size (.slice (some ⟨g, 0, none⟩) n cap) n (setsL xs o vs)
  | [], o, w, xs, h => h
  | v :: vs, o, w, xs, h => ownsRow_sets vs (o + 1) _ _ (h.stored o v).1
theorem rowF_sets {α : Type} (f : α → List Value) {n : Nat} (hf : ∀ x, (f x).length = n) : ∀ (vs : List Value) (o : Nat) (xs : List α) (i : Nat) (x x' : α), xs[i]? = some x → o + vs.length ≤ n → f x' = setsL (f x) o vs → setsL (rowF f xs) (i * n + o) vs = rowF f (xs.set i x') := by
  intro vs o xs i x x' hx ho he
  -- by splitting the list at i
  have key : ∀ (A B : List Value) (vs : List Value) (o : Nat) (M : List Value), o + vs.length ≤ M.length → setsL (A ++ M ++ B) (A.length + o) vs = A ++ setsL M o vs ++ B := by
    intro A B vs
    induction vs with
    | nil => intro o M h; rfl
    | cons v vs ih =>
      intro o M h
      simp only [List.length_cons] at h
      show setsL ((A ++ M ++ B).set (A.length + o) v) (A.length + o + 1) vs = _
      have : (A ++ M ++ B).set (A.length + o) v = A ++ (M.set o v) ++ B := by
        rw [List.append_assoc, List.set_append_right _ _ (by omega), Nat.add_sub_cancel_left, List.set_append_left _ _ (by omega), List.append_assoc]
      rw [this]
      exact ih (o + 1) (M.set o v) (by simp; omega)
  have hs : xs = xs.take i ++ x :: xs.drop (i + 1) := by
    have hlt := (List.getElem?_eq_some_iff.1 hx).1
    have := List.getElem?_eq_some_iff.1 hx
    rw [← this.2, List.getElem_cons_drop, List.take_append_drop]
  have hlen : (rowF f (xs.take i)).length = i * n := by
    have hlt := (List.getElem?_eq_some_iff.1 hx).1
    rw [rowF_length f hf, List.length_take, Nat.min_eq_left (by omega)]
  have e1 : rowF f xs = rowF f (xs.take i) ++ f x ++ rowF f (xs.drop (i + 1)) := by
    conv => lhs; rw [hs]
    rw [rowF_append, rowF_cons, List.append_assoc]
  have e2 : rowF f (xs.set i x') = rowF f (xs.take i) ++ f x' ++ rowF f (xs.drop (i + 1)) := by
    have hlt := (List.getElem?_eq_some_iff.1 hx).1
    rw [List.set_eq_take_append_cons_drop, if_pos hlt, rowF_append, rowF_cons, List.append_assoc]
  rw [e1, e2, he, ← hlen]
  exact key _ _ vs o (f x) (by rw [hf]; exact ho)
theorem setCells_other {g b : Nat} (hne : g ≠ b) : ∀ (vs : List Value) (o : Nat) (w : World), (w.setCells b o vs).heap[g]? = w.heap[g]?
  | [], _, _ => rfl
  | v :: vs, o, w => (setCells_other hne vs (o + 1) _).trans (heap_set_other hne v)
def Ch.sets {S : Nat → Prop} {w0 : World} (b : Nat) (h : b < w0.heap.size → S b) : ∀ (vs : List Value) (o : Nat) (p : Ch S w0), Ch S w0
  | [], _, p => p
  | v :: vs, o, p => Ch.sets b h vs (o + 1) (p.set b o v h)
theorem Ch.sets_w {S : Nat → Prop} {w0 : World} (b : Nat) (h : b < w0.heap.size → S b) : ∀ (vs : List Value) (o : Nat) (p : Ch S w0), (Ch.sets b h vs o p).w = p.w.setCells b o vs
  | [], _, _ => rfl
  | v :: vs, o, p => Ch.sets_w b h vs (o + 1) _
end
end Go.Cob
