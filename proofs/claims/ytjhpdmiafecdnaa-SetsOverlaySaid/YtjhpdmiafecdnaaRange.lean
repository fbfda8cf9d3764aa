/-
  'for k, v := range m' over a map that is a list of entries.
-/
import Derived.Test.YtjhpdmiafecdnaaMemB
import Derived.Maps.RangeRun
import Derived.Maps.Range
namespace Go.Cob
open Go Go.RowKit
set_option linter.unusedSectionVars false
set_option linter.unusedSimpArgs false
set_option linter.unusedVariables false
section
variable {α β : Type} {encK : α → Value} {encV : β → Value} {P : Program} {kt vt : TypeId}

abbrev mkE (encK : α → Value) (encV : β → Value) (p : (α × β) × Nat) : MapEntry := { key := encK p.1.1, val := encV p.1.2, born := p.2 }
theorem ents_zip : ∀ (l : List (α × β)) (bs : List Nat), ents encK encV l bs = (l.zip bs).map (mkE encK encV)
  | [], _ => by simp [ents]
  | p :: l, [] => by simp [ents]
  | p :: l, b :: bs => by simp [ents, ents_zip l bs]
theorem zip_fst : ∀ (l : List (α × β)) (bs : List Nat), bs.length = l.length → (l.zip bs).map (·.1) = l
  | [], _, _ => by simp
  | p :: l, b :: bs, h => by simp [zip_fst l bs (by simpa using h)]
theorem zip_snd : ∀ (l : List (α × β)) (bs : List Nat), bs.length = l.length → (l.zip bs).map (·.2) = bs
  | [], bs, h => by simp at h; simp [h]
  | p :: l, b :: bs, h => by simp [zip_snd l bs (by simpa using h)]

/-- The range under way: block r iterates over block m, a map of l; 'left' is what is still to come. -/
def Ranging (encK : α → Value) (encV : β → Value) (w : World) (m r : Nat) (l left : List (α × β)) : Prop :=
  ∃ bs cl seen, w.heap[m]? = some (.map (ents encK encV l bs).toArray cl) ∧ bs.length = l.length ∧ bs.Pairwise (· < ·) ∧ (∀ b ∈ bs, b < cl) ∧
    w.heap[r]? = some (.mapIter (some m) cl seen cl) ∧ left = ((l.zip bs).filter fun p => !seen.contains p.2).map (·.1)

theorem Ranging.keep {w w' : World} {m r : Nat} {l left : List (α × β)} (h : Ranging encK encV w m r l left) (em : w'.heap[m]? = w.heap[m]?) (er : w'.heap[r]? = w.heap[r]?) : Ranging encK encV w' m r l left := by
  obtain ⟨bs, cl, seen, h1, h2, h3, h4, h5, h6⟩ := h
  exact ⟨bs, cl, seen, em.trans h1, h2, h3, h4, er.trans h5, h6⟩
theorem Ranging.map {w : World} {m r : Nat} {l left : List (α × β)} (h : Ranging encK encV w m r l left) : MapAt encK encV w m l := by
  obtain ⟨bs, cl, seen, h1, h2, h3, h4, h5, h6⟩ := h
  exact ⟨bs, cl, h1, h2, h3, h4⟩
theorem Ranging.lt {w : World} {m r : Nat} {l left : List (α × β)} (h : Ranging encK encV w m r l left) : m < w.heap.size ∧ r < w.heap.size := by
  obtain ⟨bs, cl, seen, h1, h2, h3, h4, h5, h6⟩ := h
  exact ⟨lt_of_blk h1, lt_of_blk h5⟩
theorem Ranging.ne_cells {w : World} {m r b : Nat} {l left : List (α × β)} {c : Array Value} {t : TypeId} {fr : Nat × Nat} (h : Ranging encK encV w m r l left) (hb : w.heap[b]? = some (.cells c t fr)) : r ≠ b := by
  rintro rfl
  obtain ⟨bs, cl, seen, h1, h2, h3, h4, h5, h6⟩ := h
  rw [h5] at hb; cases hb
theorem Ranging.ext {w : World} {m r : Nat} {l left : List (α × β)} (h : Ranging encK encV w m r l left) (p : Ext w) : Ranging encK encV p.w m r l left := h.keep (p.same _ h.lt.1 id) (p.same _ h.lt.2 id)
theorem leftOf_ents (l : List (α × β)) (bs : List Nat) (seen : Array Nat) : (leftOf (ents encK encV l bs).toArray seen).toList = ((l.zip bs).filter fun p => !seen.contains p.2).map (mkE encK encV) := by
  unfold leftOf
  rw [ents_zip]
  simp only [Array.toList_filter, List.filter_map]
  rfl
theorem Ranging.left_eq {w : World} {m r : Nat} {l left : List (α × β)} (h : Ranging encK encV w m r l left) : w.rangeLeft m r = left.length := by
  obtain ⟨bs, cl, seen, h1, h2, h3, h4, h5, h6⟩ := h
  simp only [World.rangeLeft, h1, h5]
  rw [← Array.length_toList, leftOf_ents, h6]
  simp
theorem MapAt.range {w : World} {m : Nat} {l : List (α × β)} (h : MapAt encK encV w m l) {t : TypeId} (ht : P.underlying t = some (.map kt vt)) :
    ∃ o, (Instr.range t (.map (some m))).run P w = .ok (.pointer (some ⟨w.heap.size, 0, none⟩)) (w.alloc o) ∧ Ranging encK encV (w.alloc o) m w.heap.size l l := by
  obtain ⟨bs, cl, h1, h2, h3, h4⟩ := h
  refine ⟨_, run_range_map w t kt vt m _ cl ht h1, bs, cl, #[], heap_alloc_blk _ h1, h2, h3, h4, heap_alloc_at _ _, ?_⟩
  have : ((l.zip bs).filter fun p => !(#[] : Array Nat).contains p.2) = l.zip bs := List.filter_eq_self.2 (fun _ _ => by simp)
  rw [this, zip_fst l bs h2]

theorem Ranging.next {w : World} {m r : Nat} {l left : List (α × β)} (h : Ranging encK encV w m r l left) (ty : TypeId) :
    (left = [] ∧ (Instr.next (.pointer (some ⟨r, 0, none⟩)) false ty).run P w = .ok (.tuple #[.bool false]) w) ∨
    ∃ l1 x l2, ∃ p : Ch (fun b => b = r) w, left = l1 ++ x :: l2 ∧ (Instr.next (.pointer (some ⟨r, 0, none⟩)) false ty).run P w = .ok (.tuple #[.bool true, encK x.1, encV x.2]) p.w ∧
      Ranging encK encV p.w m r l (l1 ++ l2) ∧ (Instr.entry (.pointer (some ⟨r, 0, none⟩))).run P p.w = .ok (.tuple #[encK x.1, encV x.2]) p.w := by
  have hlt := h.lt
  obtain ⟨bs, cl, seen, h1, h2, h3, h4, h5, h6⟩ := h
  have hes : ∀ x ∈ (ents encK encV l bs).toArray.toList, x.born < cl := by
    intro x hx
    rw [ents_zip] at hx
    simp only [List.mem_map] at hx
    obtain ⟨p, hp, rfl⟩ := hx
    exact h4 _ (by rw [← zip_snd l bs h2]; exact List.mem_map.2 ⟨p, hp, rfl⟩)
  rcases run_next_at (P := P) w ty r m cl cl seen _ cl h5 h1 hes (Nat.le_refl _) with ⟨h0, hr⟩ | ⟨e, he, w1, hw1, hr⟩
  · left
    refine ⟨?_, hr⟩
    rw [← Array.length_toList, leftOf_ents] at h0
    rw [h6]
    simp at h0 ⊢
    exact h0
  · right
    rw [leftOf_ents] at he
    obtain ⟨⟨x, b⟩, hm, rfl⟩ := List.mem_map.1 he
    obtain ⟨z1, z2, hz⟩ := List.append_of_mem hm
    have hnd : ((l.zip bs).filter fun p => !seen.contains p.2).map (·.2) |>.Nodup := by
      have : bs.Nodup := h3.imp (fun h => Nat.ne_of_lt h)
      rw [← zip_snd l bs h2] at this
      exact this.sublist (List.filter_sublist.map _)
    have hs : ((l.zip bs).filter fun p => !(seen.push b).contains p.2) = z1 ++ z2 := by
      have e1 : ((l.zip bs).filter fun p => !(seen.push b).contains p.2) = ((l.zip bs).filter fun p => !seen.contains p.2).filter fun p => !(p.2 == b) := by
        rw [List.filter_filter]
        refine List.filter_congr fun p _ => ?_
        rw [Array.contains_push, Bool.not_or]
        cases h : (p.2 == b) <;> simp [h]
      rw [e1, hz]
      rw [hz, List.map_append, List.map_cons, List.nodup_append] at hnd
      obtain ⟨n1, n2, n3⟩ := hnd
      have n4 := (List.nodup_cons.1 n2).1
      rw [List.filter_append, List.filter_cons]
      simp only [beq_self_eq_true, Bool.not_true, Bool.false_eq_true, if_false]
      congr 1
      · refine List.filter_eq_self.2 fun p hp => ?_
        have := n3 p.2 (List.mem_map.2 ⟨p, hp, rfl⟩) b (by simp)
        simpa using this
      · refine List.filter_eq_self.2 fun p hp => ?_
        have : p.2 ≠ b := fun e => n4 (by rw [← e]; exact List.mem_map.2 ⟨p, hp, rfl⟩)
        simpa using this
    obtain ⟨p0, hp0⟩ : ∃ p0 : Ch (fun b => b = r) w, p0.w = w1 := by
      rcases hw1 with rfl | rfl
      · exact ⟨Ch.refl _ _, rfl⟩
      · exact ⟨(Ch.refl _ w).drew, rfl⟩
    have hh : w1.heap = w.heap := by rcases hw1 with rfl | rfl <;> rfl
    have hm1 : (ChangeMaps.setBlock w1 r (.mapIter (some m) cl (seen.push b) cl)).heap[m]? = some (.map (ents encK encV l bs).toArray cl) := by
      have hne : m ≠ r := by
        rintro rfl
        rw [h1] at h5; cases h5
      show (w1.heap.setIfInBounds r _)[m]? = _
      rw [Array.getElem?_setIfInBounds_ne (Ne.symm hne), hh]
      exact h1
    have hr1 : (ChangeMaps.setBlock w1 r (.mapIter (some m) cl (seen.push b) cl)).heap[r]? = some (.mapIter (some m) cl (seen.push b) cl) := by
      show (w1.heap.setIfInBounds r _)[r]? = _
      rw [hh]
      simp [hlt.2]
    refine ⟨z1.map (·.1), x, z2.map (·.1), p0.putO r (.mapIter (some m) cl (seen.push b) cl) (fun _ => rfl), ?_, ?_, ?_, ?_⟩
    · rw [h6, hz]; simp
    · rw [Ch.putO_w, hp0]; exact hr
    · rw [Ch.putO_w, hp0]
      exact ⟨bs, cl, seen.push b, hm1, h2, h3, h4, hr1, by rw [hs]; simp⟩
    · rw [Ch.putO_w, hp0]
      refine run_entry_at _ r m cl seen _ cl (mkE encK encV (x, b)) hr1 hm1 ?_ ?_
      · rw [ents_zip]
        simp only [List.mem_map]
        exact ⟨(x, b), (List.mem_filter.1 hm).1, rfl⟩
      · rw [ents_zip]
        simp only [List.map_map]
        show ((l.zip bs).map (·.2)).Nodup
        rw [zip_snd l bs h2]
        exact h3.imp (fun h => Nat.ne_of_lt h)

theorem wpList_range {w : World} {ops : Array Oper} {rest : List Oper} {o : Oper} {a : Go.Act} {Q : Exit → Go.Act → World → Prop} (hg : o.guard = none) (m : Operand) (t : TypeId) (hop : o.op = Op.range t m) (ht : P.underlying t = some (.map kt vt)) {b : Nat} {l : List (α × β)}
    (hm : a.eval m = .map (some b)) (h : MapAt encK encV w b l)
    (hK : ∀ ob, Ranging encK encV (w.alloc ob) b w.heap.size l l → wpList P ops Q rest (a.put o.dst (.pointer (some ⟨w.heap.size, 0, none⟩))) (w.alloc ob)) :
    wpList P ops Q (o :: rest) a w := by
  refine wpList_plain hg fun K' hK' => ?_
  obtain ⟨ob, hrun, h1⟩ := h.range ht
  unfold Oper.wp
  simp [execOp, hop, hm, hrun, Result.andThen]
  exact hK' _ _ (hK ob h1)
theorem wpList_next {w : World} {ops : Array Oper} {rest : List Oper} {o : Oper} {a : Go.Act} {Q : Exit → Go.Act → World → Prop} (hg : o.guard = none) (it : Operand) (hop : o.op = Op.next it false) {m r : Nat} {l left : List (α × β)}
    (hit : a.eval it = .pointer (some ⟨r, 0, none⟩)) (h : Ranging encK encV w m r l left)
    (hDone : left = [] → wpList P ops Q rest (a.put o.dst (.tuple #[.bool false])) w)
    (hMore : ∀ l1 x l2, ∀ p : Ch (fun b => b = r) w, left = l1 ++ x :: l2 → Ranging encK encV p.w m r l (l1 ++ l2) → (Instr.entry (.pointer (some ⟨r, 0, none⟩))).run P p.w = .ok (.tuple #[encK x.1, encV x.2]) p.w →
      wpList P ops Q rest (a.put o.dst (.tuple #[.bool true, encK x.1, encV x.2])) p.w) :
    wpList P ops Q (o :: rest) a w := by
  refine wpList_plain hg fun K' hK' => ?_
  unfold Oper.wp
  rcases h.next (P := P) o.type with ⟨h0, hrun⟩ | ⟨l1, x, l2, p, he, hrun, h1, hen⟩
  · simp [execOp, hop, hit, hrun, Result.andThen]
    exact hK' _ _ (hDone h0)
  · simp [execOp, hop, hit, hrun, Result.andThen]
    exact hK' _ _ (hMore l1 x l2 p he h1 hen)
end
end Go.Cob
