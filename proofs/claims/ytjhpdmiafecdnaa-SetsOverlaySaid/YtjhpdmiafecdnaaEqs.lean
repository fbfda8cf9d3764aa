/-
  Layer 13: == on texts, on what was seen, on writes.
-/
import Derived.Test.YtjhpdmiafecdnaaSetF
namespace Go.Proofs.Cob
open Go Go.RowKit Go.Cob
set_option linter.unusedSimpArgs false
set_option linter.unusedVariables false
theorem stood235 : Try.prog.stoodInHeld 235 = false := by kernel_rfl
theorem stood37 : Try.prog.stoodInHeld 37 = false := by kernel_rfl
theorem stood110 : Try.prog.stoodInHeld 110 = false := by kernel_rfl
theorem run_eq_tx (a b : Tx) (w : World) : (Op.equalIn 10000 235 (txV a) (txV b)).run Try.prog w = .ok (decide (a = b)) w := by
  obtain ⟨a1, a2⟩ := a
  obtain ⟨b1, b2⟩ := b
  have h : (Op.equalIn 10000 235 (txV ⟨a1, a2⟩) (txV ⟨b1, b2⟩)).run Try.prog w = .ok ((a1.toList == b1.toList) && (a2 == b2)) w := by
    cases h1 : a1.toList == b1.toList <;> cases h2 : a2 == b2 <;>
      simp [go_sem, Try.underlying235, Try.underlying4, Try.underlying9, stood235, h1, h2]
  have hb : ((a1.toList == b1.toList) && (a2 == b2)) = decide (Tx.mk a1 a2 = ⟨b1, b2⟩) := by
    rw [beq_toList]
    by_cases h1 : a1 = b1 <;> by_cases h2 : a2 = b2 <;> simp [Tx.mk.injEq, h1, h2]
  rw [h, hb]
theorem run_eq_sn (a b : Sn) (w : World) : (Op.equalIn 10000 37 (snV a) (snV b)).run Try.prog w = .ok (decide (a = b)) w := by
  obtain ⟨a1, a2, a3⟩ := a
  obtain ⟨b1, b2, b3⟩ := b
  have h : (Op.equalIn 10000 37 (snV ⟨a1, a2, a3⟩) (snV ⟨b1, b2, b3⟩)).run Try.prog w = .ok ((a1 == b1) && ((a2.toList == b2.toList) && (a3 == b3))) w := by
    cases h1 : a1 == b1 <;> cases h2 : a2.toList == b2.toList <;> cases h3 : a3 == b3 <;>
      simp [go_sem, Try.underlying37, Try.underlying32, Try.underlying4, Try.underlying9, stood37, h1, h2, h3]
  have hb : ((a1 == b1) && ((a2.toList == b2.toList) && (a3 == b3))) = decide (Sn.mk a1 a2 a3 = ⟨b1, b2, b3⟩) := by
    rw [beq_toList]
    by_cases h1 : a1 = b1 <;> by_cases h2 : a2 = b2 <;> by_cases h3 : a3 = b3 <;> simp [Sn.mk.injEq, h1, h2, h3]
  rw [h, hb]
abbrev wrV (x : Wr) : Value := .agg #[.int .i64 x.k.kind, .int .i64 x.k.a, .int .i64 x.k.b, .string x.k.s, .string x.tx, .bool x.has]
theorem run_eq_wr (a b : Wr) (w : World) : (Op.equalIn 10000 110 (wrV a) (wrV b)).run Try.prog w = .ok (decide (a = b)) w := by
  obtain ⟨⟨k1, k2, k3, k4⟩, a1, a2⟩ := a
  obtain ⟨⟨l1, l2, l3, l4⟩, b1, b2⟩ := b
  have h : (Op.equalIn 10000 110 (wrV ⟨⟨k1, k2, k3, k4⟩, a1, a2⟩) (wrV ⟨⟨l1, l2, l3, l4⟩, b1, b2⟩)).run Try.prog w = .ok (((k1 == l1) && ((k2 == l2) && ((k3 == l3) && (k4.toList == l4.toList)))) && ((a1.toList == b1.toList) && (a2 == b2))) w := by
    by_cases h1 : k1 = l1
    case neg => simp [go_sem, Try.underlying110, Try.underlying23, Try.underlying3, Try.underlying4, Try.underlying9, stood110, stood23, h1]
    by_cases h2 : k2 = l2
    case neg => simp [go_sem, Try.underlying110, Try.underlying23, Try.underlying3, Try.underlying4, Try.underlying9, stood110, stood23, h1, h2]
    by_cases h3 : k3 = l3
    case neg => simp [go_sem, Try.underlying110, Try.underlying23, Try.underlying3, Try.underlying4, Try.underlying9, stood110, stood23, h1, h2, h3]
    by_cases h4 : k4.toList = l4.toList
    case neg => simp [go_sem, Try.underlying110, Try.underlying23, Try.underlying3, Try.underlying4, Try.underlying9, stood110, stood23, h1, h2, h3, h4]
    by_cases h5 : a1.toList = b1.toList
    case neg => simp [go_sem, Try.underlying110, Try.underlying23, Try.underlying3, Try.underlying4, Try.underlying9, stood110, stood23, h1, h2, h3, h4, h5]
    by_cases h6 : a2 = b2
    case neg => simp [go_sem, Try.underlying110, Try.underlying23, Try.underlying3, Try.underlying4, Try.underlying9, stood110, stood23, h1, h2, h3, h4, h5, h6]
    simp [go_sem, Try.underlying110, Try.underlying23, Try.underlying3, Try.underlying4, Try.underlying9, stood110, stood23, h1, h2, h3, h4, h5, h6]
  have hb : (((k1 == l1) && ((k2 == l2) && ((k3 == l3) && (k4.toList == l4.toList)))) && ((a1.toList == b1.toList) && (a2 == b2))) = decide (Wr.mk ⟨k1, k2, k3, k4⟩ a1 a2 = ⟨⟨l1, l2, l3, l4⟩, b1, b2⟩) := by
    rw [beq_toList, beq_toList]
    by_cases h1 : k1 = l1 <;> by_cases h2 : k2 = l2 <;> by_cases h3 : k3 = l3 <;> by_cases h4 : k4 = l4 <;> by_cases h5 : a1 = b1 <;> by_cases h6 : a2 = b2 <;> simp [Wr.mk.injEq, Key.mk.injEq, h1, h2, h3, h4, h5, h6]
  rw [h, hb]
end Go.Proofs.Cob
