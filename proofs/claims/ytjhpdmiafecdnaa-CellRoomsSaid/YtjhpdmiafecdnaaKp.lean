/-
  Regions in any order where the store turns but its first block stays.
-/
import Derived.Test.YtjhpdmiafecdnaaSceneB
import Derived.Test.YtjhpdmiafecdnaaLen
namespace Go.Proofs.Cob
open Go Go.RowKit Go.Cob
set_option linter.unusedSimpArgs false
set_option linter.unusedVariables false

/-- A world of the class S out of W0 in which block s holds o. -/
structure Kp (S : Nat → Prop) (W0 : World) (s : Nat) (o : Obj) where
  p : Ch S W0
  st : p.w.heap[s]? = some o
theorem wp_region_kp {P : Program} {id : Nat} {Q : Exit → Go.Act → World → Prop} {a : Go.Act} {w : World} {l : List Oper} (S : Nat → Prop) (s : Nat) (o : Obj) (hs : w.heap[s]? = some o) (hm : P.follows .mixedOrders = true) (hB : mixB l.toArray = true)
    (h : ∀ p : Kp S w s o, p.p.w.heap = w.heap → wpMix P l.toArray (fun w' => ∃ p : Kp S w s o, w' = p.p.w) (Q .normal) l a p.p.w) : (Code.region id l.toArray true).wp P Q a w :=
  wp_region_mix (C := fun w' => ∃ p : Kp S w s o, w' = p.p.w) hm hB ⟨⟨(Ch.refl S w).drew, hs⟩, rfl⟩ (h ⟨(Ch.refl S w).drew, hs⟩ rfl)
/-- The store's first block. -/
abbrev stObj (I : Ids) : Obj := .cells #[.pointer (some ⟨I.a, 0, none⟩), .map (some I.m)] 58 (0, 0)
theorem StN.at {w : World} {I : Ids} {A : ArenaSt} {L : List (Key × Cl)} {F : Nat → Prop} (h : StN w I A L F) : w.heap[I.s]? = some (stObj I) := by
  obtain ⟨fv, l, h1, -⟩ := h.st.ex
  exact h1.st
theorem StN.arena {w : World} {I : Ids} {A : ArenaSt} {L : List (Key × Cl)} {F : Nat → Prop} (h : StN w I A L F) : ∃ fv, ArenaAt w I.a I.g I.t fv A := by
  obtain ⟨fv, l, h1, -⟩ := h.st.ex
  exact ⟨fv, h1.ar⟩
theorem StN.heapEq {w w' : World} {I : Ids} {A : ArenaSt} {L : List (Key × Cl)} {F : Nat → Prop} (h : StN w I A L F) (e : w'.heap = w.heap) : StN w' I A L F := ⟨h.st.keep (fun b _ _ => by rw [e]), h.fl⟩
theorem wide_tail {w0 : World} {x : Box} {bs : List Box} : ∀ b : Nat, Wide w0 (x :: bs) b → Wide w0 bs b := fun b h => ⟨h.1, fun y hy => h.2 y (.tail _ hy)⟩
theorem len_n {w : World} {I : Ids} {A : ArenaSt} {L : List (Key × Cl)} {F : Nat → Prop} (h : StN w I A L F) : Calls Try.prog 34 #[.pointer (some ⟨I.a, 0, none⟩)] w fun e w' => e = .returned (.int .i64 A.taken.length) ∧ w = w' := by
  obtain ⟨fv, hA⟩ := h.arena
  refine (len_any _ _ _ _ _ _ hA).mono ?_
  rintro e w' ⟨h1, h2⟩
  exact ⟨h1, h2.symm⟩
theorem live_n {w : World} {I : Ids} {A : ArenaSt} {L : List (Key × Cl)} {F : Nat → Prop} (h : StN w I A L F) (sl gen : Int) : Calls Try.prog 90 #[.pointer (some ⟨I.a, 0, none⟩), .agg #[.int .i64 sl, .int .i64 gen]] w fun e w' => e = .returned (.bool (liveA A sl gen)) ∧ ∃ p : Ext w, w' = p.w := by
  obtain ⟨fv, hA⟩ := h.arena
  exact live_any _ _ _ _ _ _ _ _ hA
theorem keysIn_box2 {W : World} {n : Nat} {k k' : Key} (h : W.heap[n]? = some (.cells (keyCells k.kind k.a k.b k.s ++ keyCells k'.kind k'.a k'.b k'.s) 23 (0, 0))) : KeysIn W (some ⟨n, 0, none⟩) [k, k'] := by
  refine .inr ⟨n, 0, rfl, fun i x hx => ?_⟩
  match i, hx with
  | 0, hx =>
    have : k = x := by simpa using hx
    subst this
    exact ⟨cell_at 0 h, cell_at 1 h, cell_at 2 h, cell_at 3 h⟩
  | 1, hx =>
    have : k' = x := by simpa using hx
    subst this
    exact ⟨cell_at 4 h, cell_at 5 h, cell_at 6 h, cell_at 7 h⟩
end Go.Proofs.Cob
