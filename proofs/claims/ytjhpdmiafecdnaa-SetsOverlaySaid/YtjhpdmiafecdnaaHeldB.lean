/-
  The cells' store (layer 9): Held and Keys.
-/
import Derived.Test.YtjhpdmiafecdnaaSortKey
import Derived.Test.YtjhpdmiafecdnaaSceneB
namespace Go.Proofs.Cob
open Go Go.RowKit Go.Cob
set_option linter.unusedSimpArgs false
set_option linter.unusedVariables false

def heldM (L : List (Key × Cl)) (who : Int) : List Key := sortK ((L.filter fun x => !freeB x.2.wd && (x.2.who == who)).map (·.1))
def keysM (L : List (Key × Cl)) : List Key := sortK ((L.filter fun x => !goneB x.2.wd).map (·.1))

theorem KeysOut.back {w0 : World} {v : Value} {ks : List Key} {w' : World} (p : Ext w0) (h : KeysOut p.w v ks w') : KeysOut w0 v ks w' := by
  obtain ⟨q, rfl, fa, cap, h1, h2, h3, h4⟩ := h
  refine ⟨p.thenE q, rfl, fa, cap, h1, h2, h3, ?_⟩
  rcases h4 with h4 | ⟨g, c, h5, h6, h7⟩
  · exact .inl h4
  · exact .inr ⟨g, c, h5, Nat.le_trans p.size h6, h7⟩

theorem held_n (I : Ids) (A : ArenaSt) (L : List (Key × Cl)) (F : Nat → Prop) (who : Int) (w : World) (h : StN w I A L F) (hl : L.length < 1099511627776) :
    Calls Try.prog 95 #[.pointer (some ⟨I.s, 0, none⟩), .int .i64 who] w fun e w' => ∃ v, e = .returned v ∧ KeysOut w v (heldM L who) w' := by
  obtain ⟨W, hW⟩ : ∃ W, W = w.alloc (.cells #[.int .i64 who] 3) := ⟨_, rfl⟩
  have hb : W.heap[w.heap.size]? = some (.cells #[.int .i64 who] 3 (0, 0)) := by rw [hW]; exact heap_alloc_at _ _
  have hS : StN W I A L F := by rw [hW]; exact h.ext ((Ch.refl NoS w).alloc _)
  obtain ⟨p, hp⟩ : ∃ p : Ext w, W = p.w := ⟨(Ch.refl NoS w).alloc _, hW⟩
  have eg : ∀ args w, (callFunc 174 args).run Try.prog w = .ok (.enter 174 args) w := enters_of Try.func174 (by kernel_rfl) rfl
  have hcc := which_n I A L F W hS 174 #[.pointer (some ⟨w.heap.size, 0, none⟩)] (fun z => !freeB z.wd && (z.who == who)) hl eg (fun p z hz => heldFn_any z.x z.sl z.gen z.wd z.text z.who w.heap.size who p.w hz (p.blkE hb))
  clear h hS hb eg
  go_enter Try.func95, Try.ntmps95
  go_wp2_with fail
  rw [← hW]
  go_at_call 168
  refine hcc.mono ?_
  rintro e w' ⟨v, rfl, hk⟩
  go_wp2_with fail
  go_ret
  subst hp
  exact ⟨v, rfl, KeysOut.back p hk⟩
theorem keys_n (I : Ids) (A : ArenaSt) (L : List (Key × Cl)) (F : Nat → Prop) (w : World) (h : StN w I A L F) (hl : L.length < 1099511627776) :
    Calls Try.prog 91 #[.pointer (some ⟨I.s, 0, none⟩)] w fun e w' => ∃ v, e = .returned v ∧ KeysOut w v (keysM L) w' := by
  have eg : ∀ args w, (callFunc 169 args).run Try.prog w = .ok (.enter 169 args) w := enters_of Try.func169 (by kernel_rfl) rfl
  have hcc := which_n I A L F w h 169 #[] (fun z => !goneB z.wd) hl eg (fun p z hz => has_any z.x z.sl z.gen z.wd z.text z.who p.w hz)
  clear h eg
  go_enter Try.func91, Try.ntmps91
  go_wp2_with fail
  go_at_call 168
  refine hcc.mono ?_
  rintro e w' ⟨v, rfl, hk⟩
  go_wp2_with fail
  go_ret
  exact ⟨v, rfl, hk⟩
end Go.Proofs.Cob
