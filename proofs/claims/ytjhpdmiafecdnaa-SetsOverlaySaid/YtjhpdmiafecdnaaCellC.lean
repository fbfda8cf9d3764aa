/-
  The cells' store (layer 9), third part: New, Install, Lock.
-/
import Derived.Test.YtjhpdmiafecdnaaCellB
namespace Go.Proofs.Cob
open Go Go.RowKit Go.Cob
set_option linter.unusedSimpArgs false
set_option linter.unusedVariables false

theorem key_any (n : Int) (w : World) : Calls Try.prog 88 #[.int .i64 n] w fun e w' => e = .returned (.agg #[.int .i64 1, .int .i64 n, .int .i64 0, .string ⟨#[]⟩]) ∧ ∃ p : Ext w, w' = p.w := by
  go_enter Try.func88, Try.ntmps88
  go_wp2
  refine bodyPost_ret (v := .agg #[.int .i64 1, .int .i64 n, .int .i64 0, .string ⟨#[]⟩]) (by simp [results, Try.results88, go_sem]) rfl ⟨rfl, (Ch.refl _ w).alloc _, rfl⟩
theorem seen_any (s : ByteArray) (w : World) : Calls Try.prog 27 #[.string s] w fun e w' => e = .returned (seenV 0 s true) ∧ ∃ p : Ext w, w' = p.w := by
  go_enter Try.func27, Try.ntmps27
  go_wp2
  refine bodyPost_ret (v := seenV 0 s true) (by simp [results, Try.results27, go_sem]) rfl ⟨rfl, (Ch.refl _ w).alloc _, rfl⟩

theorem cellNew_bad (room : Int) (w : World) (h : room < 0 ∨ 1048576 < room) :
    Calls Try.prog 24 #[.int .i64 room] w fun e w' => e = .returned (.tuple #[.pointer none, .int .i64 2]) ∧ w = w' := by
  go_enter Try.func24, Try.ntmps24
  go_wp2_with (go_at_call 115; go_must (refine (arenaNew_bad _ _ h).mono ?_); rintro e w' ⟨rfl, rfl⟩)
  go_ret2
  exact ⟨rfl, rfl⟩

theorem cellNew_ok (room : Int) (w : World) (h0 : 0 ≤ room) (h1 : room ≤ 1048576) :
    Calls Try.prog 24 #[.int .i64 room] w fun e w' => ∃ (p : Ext w) (I : Ids), w' = p.w ∧ e = .returned (.tuple #[.pointer (some ⟨I.s, 0, none⟩), .int .i64 0]) ∧
      StoreAt p.w I (.slice none 0 0) ⟨room, 0, [], [], []⟩ [] ∧ (∀ b, Foot I (.slice none 0 0) [] b → w.heap.size ≤ b) := by
  have hmm := @run_makeMap Try.prog
  go_enter Try.func24, Try.ntmps24
  go_wp2_with (go_at_call 115; go_must (refine (arenaNew_ok _ _ h0 h1).mono ?_); rintro e w' ⟨p, rfl, rfl, hsz, hA⟩; have Hsz : Hid (p.w.heap.size = w.heap.size + 3) := hsz; clear hsz)
  have hsz := Hsz.out
  go_ret2
  refine ⟨(p.alloc (.map #[] 0)).alloc (.cells #[.pointer (some ⟨w.heap.size + 2, 0, none⟩), .map (some p.w.heap.size)] 58), ⟨p.w.heap.size + 1, w.heap.size + 2, p.w.heap.size, w.heap.size, w.heap.size + 1⟩, rfl, rfl, ?_, ?_⟩
  · refine ⟨heap_alloc_eq _ (by simp), ?_, ?_, by simp, by simp, by simp [hsz], by simp [hsz]⟩
    · refine hA.keep ?_ ?_ ?_ (by simp [Value.ownBlock])
      all_goals
        show (World.alloc (World.alloc _ _) _).heap[_]? = _
        rw [heap_alloc_lt _ (by simp; omega), heap_alloc_lt _ (by omega)]
    · refine (MapAt.made (encK := keyV) (encV := slotV) p.w).keep ?_
      show (World.alloc (World.alloc _ _) _).heap[p.w.heap.size]? = _
      rw [heap_alloc_lt _ (by simp)]
  · intro b hb
    have := p.size
    rcases hb with rfl | rfl | rfl | rfl | rfl | hb | ⟨q, hq, rfl⟩
    · simp; omega
    · simp
    · simpa using this
    · simp
    · simp
    · simp [Value.ownBlock] at hb
    · simp at hq
end Go.Proofs.Cob
