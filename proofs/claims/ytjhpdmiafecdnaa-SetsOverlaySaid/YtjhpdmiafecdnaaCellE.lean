/-
  The cells' store (layer 9), fifth part: Lock.
-/
import Derived.Test.YtjhpdmiafecdnaaCellD
namespace Go.Proofs.Cob
open Go Go.RowKit Go.Cob
set_option linter.unusedSimpArgs false
set_option linter.unusedVariables false

/-- Taking a slot. -/
def takeA (A : ArenaSt) : Option (Int × ArenaSt) :=
  if A.free = [] then
    if (A.fresh == A.room) = true then none else some (A.fresh, { A with fresh := A.fresh + 1, taken := aput A.taken A.fresh true })
  else some (A.free.getLastD 0, { A with free := A.free.dropLast, taken := aput A.taken (A.free.getLastD 0) true })
def genOf (A : ArenaSt) (s : Int) : Int := (aget A.gens s).getD 0

theorem row_form {w : World} {base e size n : Nat} {v : Value} {xs : List Value} (h : w.ownsRow base e size v n xs) : ∃ fa cap, v = .slice fa n cap ∧ n ≤ cap ∧ (0 < n → ∃ g, fa = some ⟨g, 0, none⟩) := by
  obtain ⟨_, h | ⟨g, cap, cur, hv, _, _, h1, _⟩⟩ := h
  · exact ⟨none, 0, by rw [h.1, h.2], by omega, fun h' => by omega⟩
  · exact ⟨some ⟨g, 0, none⟩, cap, hv, h1, fun _ => ⟨g, rfl⟩⟩

theorem take_any (a g t : Nat) (fv : Value) (A : ArenaSt) (w : World) (hA : ArenaAt w a g t fv A) (h0 : 0 ≤ A.fresh) (h1 : A.fresh < 2000000) :
    (takeA A = none → Calls Try.prog 116 #[.pointer (some ⟨a, 0, none⟩)] w fun e w' => e = .returned (.tuple #[.agg #[.int .i64 0, .int .i64 0], .int .i64 50]) ∧ ∃ p : Ext w, w' = p.w) ∧
    ∀ s A', takeA A = some (s, A') → Calls Try.prog 116 #[.pointer (some ⟨a, 0, none⟩)] w fun e w' => e = .returned (.tuple #[.agg #[.int .i64 s, .int .i64 (genOf A s)], .int .i64 0]) ∧
      ∃ p : Ch (fun b => b = a ∨ b = t) w, w' = p.w ∧ ∃ fv', fv'.ownBlock = fv.ownBlock ∧ ArenaAt p.w a g t fv' A' := by
  obtain ⟨fa, cap, hfv, hcap, hfa⟩ := row_form hA.2.2.2.1
  by_cases hf : A.free = []
  · have hn : A.free.length = 0 := by rw [hf]; rfl
    rw [hn] at hfv
    subst hfv
    refine ⟨fun ht => ?_, fun s A' ht => ?_⟩
    · simp only [takeA, hf, if_true] at ht
      split at ht
      · rename_i hr; exact take_full a g t fa cap A w hA hr
      · cases ht
    · simp only [takeA, hf, if_true] at ht
      split at ht
      · cases ht
      · rename_i hr
        simp only [Option.some.injEq, Prod.mk.injEq] at ht
        obtain ⟨rfl, rfl⟩ := ht
        refine (take_fresh a g t fa cap A w hA hf (by simpa using hr) h0 h1).mono ?_
        rintro e w' ⟨he, p, hp, hA'⟩
        exact ⟨he, p, hp, _, rfl, by simpa [hf] using hA'⟩
  · refine ⟨fun ht => ?_, fun s A' ht => ?_⟩
    · simp [takeA, hf] at ht
    · simp only [takeA, hf, if_false, Option.some.injEq, Prod.mk.injEq] at ht
      obtain ⟨rfl, rfl⟩ := ht
      have hl : A.free = A.free.dropLast ++ [A.free.getLastD 0] := by
        rw [List.getLastD_eq_getLast?, List.getLast?_eq_some_getLast hf, Option.getD_some]
        exact (List.dropLast_concat_getLast hf).symm
      have hlen : A.free.length = A.free.dropLast.length + 1 := by
        have := List.length_pos_iff.2 hf
        simp; omega
      obtain ⟨gb, rfl⟩ := hfa (by omega)
      rw [hlen] at hfv
      subst hfv
      refine (take_free a g t gb cap A w _ _ (by omega) hA hl).mono ?_
      rintro e w' ⟨he, p, hp, hA'⟩
      exact ⟨he, p, hp, .slice (some ⟨gb, 0, none⟩) A.free.dropLast.length cap, rfl, hA'⟩

theorem StoreAt.arena {w : World} {I : Ids} {fv fv' : Value} {A A' : ArenaSt} {l : List (Key × Slot)} (h : StoreAt w I fv A l) (p : Ch (fun b => b = I.a ∨ b = I.t) w) (hA : ArenaAt p.w I.a I.g I.t fv' A') : StoreAt p.w I fv' A' l where
  st := p.blk h.st (by intro e; rcases e with e | e; exact blkNe h.st h.ar.1 (by decide) e; exact h.ar.2.2.1.ne_cells h.st e.symm)
  ar := hA
  mp := h.mp.keep (p.same _ h.mp.lt (by intro e; rcases e with e | e; exact h.mp.ne_cells h.ar.1 e; exact h.mt e))
  slots := fun q hq => p.blk (h.slots q hq) (by intro e; rcases e with e | e; exact blkNe (h.slots q hq) h.ar.1 (by decide) e; exact h.ar.2.2.1.ne_cells (h.slots q hq) e.symm)
  nodup := h.nodup
  mg := h.mg
  mt := h.mt

theorem aput_new {α β : Type} [DecidableEq α] {l : List (α × β)} {k : α} (h : aget l k = none) (v : β) : aput l k v = l ++ [(k, v)] := by
  rcases find_cases l k with ⟨-, -, -, e⟩ | ⟨_, _, _, -, -, e, -⟩
  · exact e v
  · rw [e] at h; cases h
theorem aget_cons {α β : Type} [DecidableEq α] (p : α × β) (l : List (α × β)) (k : α) : aget (p :: l) k = if p.1 = k then some p.2 else aget l k := by
  by_cases h : p.1 = k <;> simp [aget, h]
theorem aget_aput {α β : Type} [DecidableEq α] (l : List (α × β)) (k k' : α) (v : β) : aget (aput l k v) k' = if k = k' then some v else aget l k' := by
  induction l with
  | nil => by_cases h : k = k' <;> simp [aput, aget, h]
  | cons p l ih =>
    by_cases h : p.1 = k
    · simp only [aput, h, if_true, aget_cons]
      by_cases h' : k = k' <;> simp [h']
    · simp only [aput, h, if_false, aget_cons, ih]
      by_cases h' : p.1 = k'
      · have : ¬ k = k' := fun e => h (h'.trans e.symm)
        simp [h', this]
      · simp [h']
theorem aput_aput {α β : Type} [DecidableEq α] (l : List (α × β)) (k : α) (v v' : β) : aput (aput l k v) k v' = aput l k v' := by
  induction l with
  | nil => simp [aput]
  | cons p l ih => by_cases h : p.1 = k <;> simp [aput, h, ih]

theorem StoreAt.insert {w : World} {I : Ids} {fv : Value} {A : ArenaSt} {l : List (Key × Slot)} (h : StoreAt w I fv A l) {k : Key} {z : Slot} (hk : aget l k = none) (hz : SlotIn w z) (hx : ∀ p ∈ l, p.2.x ≠ z.x)
    {ob : Obj} (hm : MapAt keyV slotV (putO w I.m ob) I.m (aput l k z)) : StoreAt (putO w I.m ob) I fv A (aput l k z) := by
  have keep : ∀ {b : Nat} {c : Array Value} {t : TypeId}, w.heap[b]? = some (.cells c t (0, 0)) → (putO w I.m ob).heap[b]? = w.heap[b]? := fun hb => putO_other _ (fun e => h.mp.ne_cells hb e.symm)
  refine ⟨(keep h.st).trans h.st, h.ar.keep (keep h.ar.1) (putO_other _ (Ne.symm h.mg)) (putO_other _ (Ne.symm h.mt)) (fun b hb => by obtain ⟨_, hc⟩ := rowBlk h.ar.2.2.2.1 hb; exact keep hc), hm, ?_, ?_, h.mg, h.mt⟩
  · rw [aput_new hk]
    intro q hq
    rcases List.mem_append.1 hq with hq | hq
    · exact (keep (h.slots q hq)).trans (h.slots q hq)
    · simp at hq; subst hq; exact (keep hz).trans hz
  · rw [aput_new hk, List.map_append, List.nodup_append]
    refine ⟨h.nodup, by simp, fun x hx' y hy e => ?_⟩
    simp at hy
    obtain ⟨q, hq, rfl⟩ := List.mem_map.1 hx'
    exact hx q hq (e.trans hy)
end Go.Proofs.Cob
