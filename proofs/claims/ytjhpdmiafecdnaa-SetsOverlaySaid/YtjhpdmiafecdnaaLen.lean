/-
  The arena's Len.
-/
import Derived.Test.YtjhpdmiafecdnaaCellI
namespace Go.Proofs.Cob
open Go Go.RowKit Go.Cob
set_option linter.unusedSimpArgs false
set_option linter.unusedVariables false

theorem run_len_map {α β : Type} [DecidableEq α] {encK : α → Value} {encV : β → Value} {P : Program} {w : World} {m : Nat} {l : List (α × β)} {t kt vt : TypeId} (h : MapAt encK encV w m l) (ht : P.underlying t = some (.map kt vt)) (ty : TypeId) :
    (Builtin.len_ #[t] ty #[.map (some m)]).run P w = .ok (.int .i64 l.length) w := by
  obtain ⟨bs, cl, h1, h2, -⟩ := h
  have hl : (ents encK encV l bs).length = l.length := ents_length _ _ h2
  simp [Builtin.len_, run_underlying ht, run_getObj_map' h1, hl, goInt]
theorem len_any (a g t : Nat) (fv : Value) (A : ArenaSt) (w : World) (hA : ArenaAt w a g t fv A) :
    Calls Try.prog 34 #[.pointer (some ⟨a, 0, none⟩)] w fun e w' => e = .returned (.int .i64 A.taken.length) ∧ w' = w := by
  obtain ⟨hb, hg, ht, hr, hgt⟩ := hA
  have c2 := cell_at 2 hb
  have l1 : ∀ ty, (Builtin.len_ #[198] ty #[.map (some t)]).run Try.prog w = .ok (.int .i64 A.taken.length) w := fun ty => run_len_map ht Try.underlying198 ty
  clear ht hr hgt hg hb
  go_enter Try.func34, Try.ntmps34
  go_wp2_with fail
  go_ret
  exact ⟨rfl, rfl⟩
end Go.Proofs.Cob
