/-
  The arena (layer 5): what its functions come to.
-/
import Derived.Test.YtjhpdmiafecdnaaWord
import Derived.Maps.OwnOps
import Derived.Deep.Light
namespace Go.Proofs.Cob
open Go Go.RowKit Go.Cob
set_option linter.unusedSimpArgs false
set_option linter.unusedVariables false

abbrev boolV (b : Bool) : Value := .bool b
structure ArenaSt where
  room : Int
  fresh : Int
  gens : List (Int × Int)
  taken : List (Int × Bool)
  free : List Int

def ArenaAt (w : World) (a g t : Nat) (fv : Value) (A : ArenaSt) : Prop :=
  w.heap[a]? = some (.cells #[.int .i64 A.room, .map (some g), .map (some t), fv, .int .i64 A.fresh] 200 (0, 0)) ∧
  MapAt intV intV w g A.gens ∧ MapAt intV boolV w t A.taken ∧ w.ownsRow 0 3 1 fv A.free.length (A.free.map intV) ∧ g ≠ t

theorem z3 (w : World) : (zeroValue 3).run Try.prog w = .ok (.int .i64 0) w := by kernel_rfl
theorem z4 (w : World) : (zeroValue 4).run Try.prog w = .ok (.bool false) w := by kernel_rfl

set_option maxHeartbeats 400000 in
theorem take_free (a g t : Nat) (fb cap : Nat) (A : ArenaSt) (w : World) (l : List Int) (s : Int) (hcap : l.length + 1 ≤ cap) (hA : ArenaAt w a g t (.slice (some ⟨fb, 0, none⟩) (l.length + 1) cap) A) (hl : A.free = l ++ [s]) :
    Calls Try.prog 116 #[.pointer (some ⟨a, 0, none⟩)] w fun e w' => e = .returned (.tuple #[.agg #[.int .i64 s, .int .i64 ((aget A.gens s).getD 0)], .int .i64 0]) ∧
      ∃ p : Ch (fun b => b = a ∨ b = t) w, w' = p.w ∧ ArenaAt p.w a g t (.slice (some ⟨fb, 0, none⟩) l.length cap) { A with free := l, taken := aput A.taken s true } := by
  obtain ⟨hb, hg, ht, hr, hgt⟩ := hA
  have c0 := cell_at 0 hb
  have c1 := cell_at 1 hb
  have c2 := cell_at 2 hb
  have c3 := cell_at 3 hb
  have c4 := cell_at 4 hb
  have f3 := frozen_at 3 hb
  have f4 := frozen_at 4 hb
  have hlt := lt_of_blk hb
  have hta := ht.ne_cells hb
  have hga := hg.ne_cells hb
  have hat : a ≠ t := Ne.symm hta
  have hag : a ≠ g := Ne.symm hga
  have htl := ht.lt
  have hgl := hg.lt
  have hnt : w.heap.size ≠ t := by omega
  have hlast : w.cell? ⟨fb, l.length, none⟩ = some (.int .i64 s) := by
    have := hr.cells (g := fb) rfl l.length (.int .i64 s) (by rw [hl]; simp)
    unfold Addr.add at this
    split at this <;> simp_all
  have hfb := World.block_lt_of_cell? w _ hlast
  simp only at hfb
  have hbound : l.length + 1 ≤ 9223372036854775807 := by
    obtain ⟨_, h | ⟨_, _, _, h, _, _, h2, h3, _⟩⟩ := hr
    · exact absurd h.1 (by simp)
    · have : A.free.length = l.length + 1 := by rw [hl]; simp
      unfold maxLen at h3
      simp at h
      omega
  go_enter Try.func116, Try.ntmps116
  have hrow := hr; clear hr
  go_wp2_with (first
    | (at_mapUpdate; go_must (refine wpList_put (K := int_law Try.underlying3) (encV := boolV) (k := s) (u := true) (l := A.taken) rfl _ _ _ rfl Try.underlying198 rfl rfl rfl ?hm ?_); go_must (case hm => exact ht.keep (by simp (disch := first | assumption | omega | (simp only [World.size_setCell, World.size_alloc, putO_size]; omega)) only [heap_set_other, heap_alloc_lt, putO_other])); intro ob hT)
    | (at_lookup; refine wpList_look (K := int_law Try.underlying3) (encV := intV) (k := s) (l := A.gens) (c := false) rfl _ _ rfl Try.underlying197 z3 rfl rfl ?hm2 (v := .int .i64 ((aget A.gens s).getD 0)) (by cases aget A.gens s <;> rfl) ?_; go_must (case hm2 => exact hg.keep (by simp (disch := first | assumption | omega | (simp only [World.size_setCell, World.size_alloc, putO_size]; omega)) only [heap_set_other, heap_alloc_lt, putO_other]))))
  refine bodyPost_ret (v := .tuple #[.agg #[.int .i64 s, .int .i64 ((aget A.gens s).getD 0)], .int .i64 0]) (by simp [results, Try.results116, go_sem, hnt]) rfl ⟨rfl, ?_⟩
  obtain ⟨_, hfbb⟩ := rowBlk hrow rfl
  have hfa : fb ≠ a := blkNe hfbb hb (by decide)
  have hft : fb ≠ t := fun e => ht.ne_cells hfbb e.symm
  refine ⟨((((((Ch.refl (fun b => b = a ∨ b = t) w).set a 3 (.slice (some ⟨fb, 0, none⟩) l.length cap) (fun _ => .inl rfl)).alloc (.cells #[.int .i64 0, .int .i64 0] 143)).putO t ob (fun _ => .inr rfl)).set w.heap.size 0 (.int .i64 s) (fun h => absurd h (Nat.lt_irrefl _))).set w.heap.size 1 (.int .i64 ((aget A.gens s).getD 0)) (fun h => absurd h (Nat.lt_irrefl _))), rfl, ?_, ?_, ?_, ?_, hgt⟩
  · show (World.setCell (World.setCell (putO (World.alloc (World.setCell w _ _) _) t ob) _ _) _ _).heap[a]? = _
    simp (disch := (first | assumption | omega | (simp only [World.size_setCell, World.size_alloc, World.size_drew, putO_size]; omega))) only [Ch.set_w, Ch.alloc_w, Ch.putO_w, Ch.refl_w, Ch.thenE_w, Ch.then_w, Ch.mono_w, Ch.up_w, Ch.onto_w, heap_set_other, heap_alloc_lt, putO_other]
    have := heap_set_same hb 3 (.slice (some ⟨fb, 0, none⟩) l.length cap)
    simpa using this
  · exact hg.keep (by simp (disch := (first | assumption | omega | (simp only [World.size_setCell, World.size_alloc, World.size_drew, putO_size]; omega))) only [Ch.set_w, Ch.alloc_w, Ch.putO_w, Ch.refl_w, Ch.thenE_w, Ch.then_w, Ch.mono_w, Ch.up_w, Ch.onto_w, heap_set_other, heap_alloc_lt, putO_other])
  · exact hT.keep (by simp (disch := (first | assumption | omega | (simp only [World.size_setCell, World.size_alloc, World.size_drew, putO_size]; omega))) only [Ch.set_w, Ch.alloc_w, Ch.putO_w, Ch.refl_w, Ch.thenE_w, Ch.then_w, Ch.mono_w, Ch.up_w, Ch.onto_w, heap_set_other, heap_alloc_lt, putO_other])
  · refine rowKeep (rowPop (x := intV s) (xs := l.map intV) (by simpa [hl] using hrow)) (fun g' hg' => ?_)
    simp [Value.ownBlock] at hg'
    subst hg'
    exact (by simp (disch := (first | assumption | omega | (simp only [World.size_setCell, World.size_alloc, World.size_drew, putO_size]; omega))) only [Ch.set_w, Ch.alloc_w, Ch.putO_w, Ch.refl_w, Ch.thenE_w, Ch.then_w, Ch.mono_w, Ch.up_w, Ch.onto_w, heap_set_other, heap_alloc_lt, putO_other])

set_option maxHeartbeats 400000 in
theorem take_full (a g t : Nat) (fa : Option Addr) (cap : Nat) (A : ArenaSt) (w : World) (hA : ArenaAt w a g t (.slice fa 0 cap) A) (hr : (A.fresh == A.room) = true) :
    Calls Try.prog 116 #[.pointer (some ⟨a, 0, none⟩)] w fun e w' => e = .returned (.tuple #[.agg #[.int .i64 0, .int .i64 0], .int .i64 50]) ∧ ∃ p : Ext w, w' = p.w := by
  obtain ⟨hb, hg, ht, hrow, hgt⟩ := hA
  have c0 := cell_at 0 hb; have c1 := cell_at 1 hb; have c2 := cell_at 2 hb; have c3 := cell_at 3 hb; have c4 := cell_at 4 hb
  have hlt := lt_of_blk hb
  clear hb hg ht hrow
  go_enter Try.func116, Try.ntmps116
  go_wp2
  refine bodyPost_ret (v := .tuple #[.agg #[.int .i64 0, .int .i64 0], .int .i64 50]) (by simp [results, Try.results116, go_sem]) rfl ⟨rfl, (Ch.refl _ w).alloc _, rfl⟩

set_option maxHeartbeats 400000 in
theorem take_fresh (a g t : Nat) (fa : Option Addr) (cap : Nat) (A : ArenaSt) (w : World) (hA : ArenaAt w a g t (.slice fa 0 cap) A) (hf : A.free = []) (hr : (A.fresh == A.room) = false) (h0 : 0 ≤ A.fresh) (h1 : A.fresh < 2000000) :
    Calls Try.prog 116 #[.pointer (some ⟨a, 0, none⟩)] w fun e w' => e = .returned (.tuple #[.agg #[.int .i64 A.fresh, .int .i64 ((aget A.gens A.fresh).getD 0)], .int .i64 0]) ∧
      ∃ p : Ch (fun b => b = a ∨ b = t) w, w' = p.w ∧ ArenaAt p.w a g t (.slice fa 0 cap) { A with fresh := A.fresh + 1, taken := aput A.taken A.fresh true } := by
  obtain ⟨hb, hg, ht, hrow, hgt⟩ := hA
  have c0 := cell_at 0 hb; have c1 := cell_at 1 hb; have c2 := cell_at 2 hb; have c3 := cell_at 3 hb; have c4 := cell_at 4 hb
  have f3 := frozen_at 3 hb
  have f4 := frozen_at 4 hb
  have hlt := lt_of_blk hb
  have hta := ht.ne_cells hb
  have hga := hg.ne_cells hb
  have hat : a ≠ t := Ne.symm hta
  have hag : a ≠ g := Ne.symm hga
  have htl := ht.lt
  have hgl := hg.lt
  have hnt : w.heap.size ≠ t := by omega
  go_enter Try.func116, Try.ntmps116
  clear hf
  go_wp2_with (first
    | (at_mapUpdate; go_must (refine wpList_put (K := int_law Try.underlying3) (encV := boolV) (k := A.fresh) (u := true) (l := A.taken) rfl _ _ _ rfl Try.underlying198 rfl rfl rfl ?hm ?_); go_must (case hm => exact ht.keep (by simp (disch := (first | assumption | omega | (simp only [World.size_setCell, World.size_alloc, World.size_drew, putO_size]; omega))) only [Ch.set_w, Ch.alloc_w, Ch.putO_w, Ch.refl_w, Ch.thenE_w, Ch.then_w, Ch.mono_w, Ch.up_w, Ch.onto_w, heap_set_other, heap_alloc_lt, putO_other])); intro ob hT)
    | (at_lookup; go_must (refine wpList_look (K := int_law Try.underlying3) (encV := intV) (k := A.fresh) (l := A.gens) (c := false) rfl _ _ rfl Try.underlying197 z3 rfl rfl ?hm2 (v := .int .i64 ((aget A.gens A.fresh).getD 0)) (by cases aget A.gens A.fresh <;> rfl) ?_); go_must (case hm2 => exact hg.keep (by simp (disch := (first | assumption | omega | (simp only [World.size_setCell, World.size_alloc, World.size_drew, putO_size]; omega))) only [Ch.set_w, Ch.alloc_w, Ch.putO_w, Ch.refl_w, Ch.thenE_w, Ch.then_w, Ch.mono_w, Ch.up_w, Ch.onto_w, heap_set_other, heap_alloc_lt, putO_other]))))
  refine bodyPost_ret (v := .tuple #[.agg #[.int .i64 A.fresh, .int .i64 ((aget A.gens A.fresh).getD 0)], .int .i64 0]) (by simp [results, Try.results116, go_sem, hnt]) rfl ⟨rfl, ?_⟩
  refine ⟨((((((Ch.refl (fun b => b = a ∨ b = t) w).set a 4 (.int .i64 (A.fresh + 1)) (fun _ => .inl rfl)).alloc (.cells #[.int .i64 0, .int .i64 0] 143)).putO t ob (fun _ => .inr rfl)).set w.heap.size 0 (.int .i64 A.fresh) (fun h => absurd h (Nat.lt_irrefl _))).set w.heap.size 1 (.int .i64 ((aget A.gens A.fresh).getD 0)) (fun h => absurd h (Nat.lt_irrefl _))), rfl, ?_, ?_, ?_, ?_, hgt⟩
  · simp (disch := (first | assumption | omega | (simp only [World.size_setCell, World.size_alloc, World.size_drew, putO_size]; omega))) only [Ch.set_w, Ch.alloc_w, Ch.putO_w, Ch.refl_w, Ch.thenE_w, Ch.then_w, Ch.mono_w, Ch.up_w, Ch.onto_w, heap_set_other, heap_alloc_lt, putO_other]
    have := heap_set_same hb 4 (.int .i64 (A.fresh + 1))
    simpa using this
  · exact hg.keep (by simp (disch := (first | assumption | omega | (simp only [World.size_setCell, World.size_alloc, World.size_drew, putO_size]; omega))) only [Ch.set_w, Ch.alloc_w, Ch.putO_w, Ch.refl_w, Ch.thenE_w, Ch.then_w, Ch.mono_w, Ch.up_w, Ch.onto_w, heap_set_other, heap_alloc_lt, putO_other])
  · exact hT.keep (by simp (disch := (first | assumption | omega | (simp only [World.size_setCell, World.size_alloc, World.size_drew, putO_size]; omega))) only [Ch.set_w, Ch.alloc_w, Ch.putO_w, Ch.refl_w, Ch.thenE_w, Ch.then_w, Ch.mono_w, Ch.up_w, Ch.onto_w, heap_set_other, heap_alloc_lt, putO_other])
  · refine rowKeep hrow (fun g' hg' => ?_)
    obtain ⟨_, hfbb⟩ := rowBlk hrow hg'
    have hfa : g' ≠ a := blkNe hfbb hb (by decide)
    have hft : g' ≠ t := fun e => ht.ne_cells hfbb e.symm
    have hfl := lt_of_blk hfbb
    exact (by simp (disch := (first | assumption | omega | (simp only [World.size_setCell, World.size_alloc, World.size_drew, putO_size]; omega))) only [Ch.set_w, Ch.alloc_w, Ch.putO_w, Ch.refl_w, Ch.thenE_w, Ch.then_w, Ch.mono_w, Ch.up_w, Ch.onto_w, heap_set_other, heap_alloc_lt, putO_other])

theorem arenaNew_bad (room : Int) (w : World) (h : room < 0 ∨ 1048576 < room) :
    Calls Try.prog 115 #[.int .i64 room] w fun e w' => e = .returned (.tuple #[.pointer none, .int .i64 2]) ∧ w = w' := by
  have hmm := @run_makeMap Try.prog
  by_cases h1 : room < 0
  · go_enter Try.func115, Try.ntmps115
    go_wp2
    go_ret2
    exact ⟨rfl, rfl⟩
  · have h2 : 1048576 < room := by omega
    go_enter Try.func115, Try.ntmps115
    go_wp2
    go_ret2
    exact ⟨rfl, rfl⟩

theorem arenaNew_ok (room : Int) (w : World) (h0 : 0 ≤ room) (h1 : room ≤ 1048576) :
    Calls Try.prog 115 #[.int .i64 room] w fun e w' => ∃ p : Ext w, w' = p.w ∧ e = .returned (.tuple #[.pointer (some ⟨w.heap.size + 2, 0, none⟩), .int .i64 0]) ∧
      p.w.heap.size = w.heap.size + 3 ∧ ArenaAt p.w (w.heap.size + 2) w.heap.size (w.heap.size + 1) (.slice none 0 0) ⟨room, 0, [], [], []⟩ := by
  have hmm := @run_makeMap Try.prog
  go_enter Try.func115, Try.ntmps115
  go_wp2
  go_ret2
  refine ⟨(((Ch.refl _ w).alloc (.map #[] 0)).alloc (.map #[] 0)).alloc (.cells #[.int .i64 room, .map (some w.heap.size), .map (some (w.heap.size + 1)), .slice none 0 0, .int .i64 0] 200), rfl, rfl, ?_, ?_⟩
  · simp
  · refine ⟨heap_alloc_eq _ (by simp), ?_, ?_, World.ownsRow_nil _ _ _ _, by omega⟩
    · refine (MapAt.made (encK := intV) (encV := intV) w).keep ?_
      show (World.alloc (World.alloc (World.alloc w _) _) _).heap[w.heap.size]? = _
      rw [heap_alloc_lt _ (by simp; omega), heap_alloc_lt _ (by simp)]
    · refine (MapAt.made' (encK := intV) (encV := boolV) (w := w.alloc (.map #[] 0)) (n := w.heap.size + 1) (by simp)).keep ?_
      show (World.alloc (World.alloc (World.alloc w _) _) _).heap[w.heap.size + 1]? = _
      rw [heap_alloc_lt _ (by simp)]
end Go.Proofs.Cob
