/-
  Words (layer 4) and slots of cells: what their functions come to.
-/
import Derived.Test.YtjhpdmiafecdnaaKey
namespace Go.Proofs.Cob
open Go Go.RowKit Go.Cob
set_option linter.unusedSimpArgs false
set_option linter.unusedVariables false

def stampZ (x : Int) : Int := bits .andNot .u64 x 13835058055282163712
def lockZ (x : Int) : Int := bits .or .u64 x 9223372036854775808
def freeB (x : Int) : Bool := bits .and .u64 x 9223372036854775808 == 0
def unlockZ (x : Int) : Int := bits .andNot .u64 x 9223372036854775808
def absentZ (x : Int) (is : Bool) : Int := if is then bits .or .u64 x 4611686018427387904 else bits .andNot .u64 x 4611686018427387904
/-- Is a word's absent set? -/
def goneB (x : Int) : Bool := absentZ x true == x

theorem stamp_any (x : Int) (w : World) : Calls Try.prog 119 #[.int .u64 x] w fun e w' => e = .returned (.int .u64 (stampZ x)) ∧ w = w' := by
  go_enter Try.func119, Try.ntmps119
  go_wp2
  go_ret
  exact ⟨rfl, rfl⟩
theorem lock_any (x : Int) (w : World) : Calls Try.prog 118 #[.int .u64 x] w fun e w' => e = .returned (.tuple #[.int .u64 (lockZ x), .bool (freeB x)]) ∧ w = w' := by
  go_enter Try.func118, Try.ntmps118
  go_wp2
  go_ret2
  exact ⟨rfl, rfl⟩
theorem unlock_any (x : Int) (w : World) : Calls Try.prog 132 #[.int .u64 x] w fun e w' => e = .returned (.int .u64 (unlockZ x)) ∧ w = w' := by
  go_enter Try.func132, Try.ntmps132
  go_wp2
  go_ret
  exact ⟨rfl, rfl⟩
theorem absent_any (x : Int) (is : Bool) (w : World) : Calls Try.prog 117 #[.int .u64 x, .bool is] w fun e w' => e = .returned (.int .u64 (absentZ x is)) ∧ w = w' := by
  cases is <;>
  · go_enter Try.func117, Try.ntmps117
    go_wp2
    go_ret
    exact ⟨rfl, rfl⟩

/-- The cells of a slot. -/
abbrev slotCells (sl gen wd : Int) (text : ByteArray) (who : Int) : Array Value := #[.int .i64 sl, .int .i64 gen, .int .u64 wd, .string text, .int .i64 who]
/-- A slot at block x. -/
abbrev SlotAt (w : World) (x : Nat) (sl gen wd : Int) (text : ByteArray) (who : Int) : Prop := w.heap[x]? = some (.cells (slotCells sl gen wd text who) 183 (0, 0))

section
variable (x : Nat) (sl gen wd : Int) (text : ByteArray) (who : Int) (w : World) (hb : SlotAt w x sl gen wd text who)
include hb
theorem locked_any : Calls Try.prog 121 #[.pointer (some ⟨x, 0, none⟩)] w fun e w' => e = .returned (.bool (!freeB wd)) ∧ w = w' := by
  have c2 := cell_at 2 hb
  clear hb
  go_enter Try.func121, Try.ntmps121
  go_wp2_with (go_at_call 118; refine (lock_any _ _).mono ?_; rintro e w' ⟨rfl, rfl⟩)
  go_ret
  exact ⟨rfl, rfl⟩
theorem slotAbsent_any : Calls Try.prog 129 #[.pointer (some ⟨x, 0, none⟩)] w fun e w' => e = .returned (.bool (goneB wd)) ∧ ∃ p : Ext w, w' = p.w := by
  have c2 : ∀ p : Ext w, p.w.cell? ⟨x, 2, none⟩ = some (.int .u64 wd) := fun p => cell_at 2 (p.blkE hb)
  clear hb
  go_enter Try.func129, Try.ntmps129
  go_wp2_with fail
  refine wp_region_ch NoS (by kernel_rfl) (by kernel_rfl) (fun p _ => ?_)
  repeat (refine wpMix_step (fun K hK => ?_); go_simp; (with_reducible (refine hK _ _ ?_)); clear hK K)
  refine wpMix_step (fun K hK => ?_)
  go_simp
  refine (absent_any _ _ _).mono ?_
  rintro e w' ⟨rfl, rfl⟩
  refine ⟨⟨p, rfl⟩, hK _ _ ?_⟩
  clear hK K
  repeat (refine wpMix_step (fun K hK => ?_); go_simp; (with_reducible (refine hK _ _ ?_)); clear hK K)
  refine wpMix_nil ?_
  go_wp2
  go_ret
  exact ⟨rfl, p, rfl⟩
end
end Go.Proofs.Cob
