/-
  The cells' store (layer 9): the question that Held asks of a slot.
-/
import Derived.Test.YtjhpdmiafecdnaaWhich
namespace Go.Proofs.Cob
open Go Go.RowKit Go.Cob
set_option linter.unusedSimpArgs false
set_option linter.unusedVariables false

set_option maxHeartbeats 800000 in
theorem heldFn_any (x : Nat) (sl gen wd : Int) (text : ByteArray) (who : Int) (bx : Nat) (me : Int) (w : World) (hb : SlotAt w x sl gen wd text who) (hx : w.heap[bx]? = some (.cells #[.int .i64 me] 3 (0, 0))) :
    Calls Try.prog 174 #[.pointer (some ⟨x, 0, none⟩), .pointer (some ⟨bx, 0, none⟩)] w fun e w' => e = .returned (.bool (!freeB wd && (who == me))) ∧ ∃ p : Ext w, w' = p.w := by
  have z3 : ∀ p : Ext w, p.w.cell? ⟨x, 4, none⟩ = some (.int .i64 who) := fun p => cell_at 4 (p.blkE hb)
  have m0 : ∀ p : Ext w, p.w.cell? ⟨bx, 0, none⟩ = some (.int .i64 me) := fun p => cell_at 0 (p.blkE hx)
  have hB : ∀ p : Ext w, SlotAt p.w x sl gen wd text who := fun p => p.blkE hb
  clear hx hb
  cases hf : freeB wd
  all_goals
    have hcc : ∀ p : Ext w, Calls Try.prog 121 #[.pointer (some ⟨x, 0, none⟩)] p.w fun e w' => e = .returned (.bool (!freeB wd)) ∧ p.w = w' := fun p => locked_any _ _ _ _ _ _ _ (hB p)
    rw [hf] at hcc
    have HB : Hid _ := hB
    clear hf hB
    go_enter Try.func174, Try.ntmps174
    go_wp2_with fail
    refine wp_region_ch NoS (by kernel_rfl) (by kernel_rfl) (fun p hp => ?_)
    clear hp
    (repeat (first | (refine wpMix_skip rfl rfl ?_) | (refine wpMix_step (fun K hK => ?_); go_simp; (with_reducible (refine hK _ _ ?_)); clear hK K)))
    refine wpMix_step (fun K hK => ?_); go_simp; refine (hcc _).mono ?_; rintro e w' ⟨rfl, rfl⟩; refine ⟨⟨p, rfl⟩, hK _ _ ?_⟩; clear hK K
    (repeat (first | (refine wpMix_skip rfl rfl ?_) | (refine wpMix_step (fun K hK => ?_); go_simp; (with_reducible (refine hK _ _ ?_)); clear hK K)))
    refine wpMix_nil ?_
    go_wp2_with fail
    go_ret
    exact ⟨by simp, p, rfl⟩
end Go.Proofs.Cob
