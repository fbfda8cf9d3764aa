/-
  The program's key types as keys of maps: whole numbers, and the cells' keys.
-/
import Derived.Test.YtjhpdmiafecdnaaProg
import Derived.Test.YtjhpdmiafecdnaaMem
namespace Go.Proofs.Cob
open Go Go.RowKit Go.Cob
set_option linter.unusedSimpArgs false
set_option linter.unusedVariables false

/-- A cell's key. -/
structure Key where
  kind : Int
  a : Int
  b : Int
  s : ByteArray
  deriving DecidableEq

abbrev keyV (k : Key) : Value := .agg #[.int .i64 k.kind, .int .i64 k.a, .int .i64 k.b, .string k.s]
abbrev intV (n : Int) : Value := .int .i64 n

theorem stood23 : Try.prog.stoodInHeld 23 = false := by kernel_rfl

theorem beq_toList (a b : ByteArray) : (a.toList == b.toList) = decide (a = b) := by
  rw [ByteArray.toList_eq, ByteArray.toList_eq]
  obtain ⟨⟨x⟩⟩ := a
  obtain ⟨⟨y⟩⟩ := b
  show (x == y) = decide ((⟨⟨x⟩⟩ : ByteArray) = ⟨⟨y⟩⟩)
  by_cases h : x = y
  · subst h; simp
  · rw [decide_eq_false (by intro e; injection e with e; injection e with e; exact h e)]; simpa using h

theorem run_eq_key (a b : Key) (w : World) : (Op.equalIn 10000 23 (keyV a) (keyV b)).run Try.prog w = .ok (decide (a = b)) w := by
  obtain ⟨a1, a2, a3, a4⟩ := a
  obtain ⟨b1, b2, b3, b4⟩ := b
  have h : (Op.equalIn 10000 23 (keyV ⟨a1, a2, a3, a4⟩) (keyV ⟨b1, b2, b3, b4⟩)).run Try.prog w = .ok ((a1 == b1) && ((a2 == b2) && ((a3 == b3) && (a4.toList == b4.toList)))) w := by
    cases h1 : a1 == b1 <;> cases h2 : a2 == b2 <;> cases h3 : a3 == b3 <;> cases h4 : a4.toList == b4.toList <;>
      simp [go_sem, Try.underlying23, Try.underlying3, Try.underlying9, stood23, h1, h2, h3, h4]
  have hb : ((a1 == b1) && ((a2 == b2) && ((a3 == b3) && (a4.toList == b4.toList)))) = decide (Key.mk a1 a2 a3 a4 = ⟨b1, b2, b3, b4⟩) := by
    rw [beq_toList]
    by_cases h1 : a1 = b1 <;> by_cases h2 : a2 = b2 <;> by_cases h3 : a3 = b3 <;> simp [Key.mk.injEq, h1, h2, h3]
  rw [h, hb]

theorem run_check_plain (e : Bool) (m : Nat) (t : TypeId) (v : Value) (w : World) (h : (∃ k, Try.prog.underlying t = some (.int k)) ∨ Try.prog.underlying t = some .string) : (Instr.checkKey e (m + 1) t v).run Try.prog w = .ok () w := by
  rcases h with ⟨k, h⟩ | h <;> simp [Instr.checkKey, run_underlying h]

theorem run_check_key (e : Bool) (k : Key) (w : World) : (Instr.checkKey e 10000 23 (keyV k)).run Try.prog w = .ok () w := by
  have h : ∀ m, (Instr.checkKey e (m + 2) 23 (keyV k)).run Try.prog w = .ok () w := fun m => by
    have h3 : ∀ v w, (Instr.checkKey e (m + 1) 3 v).run Try.prog w = .ok () w := fun v w => run_check_plain e m 3 v w (.inl ⟨_, Try.underlying3⟩)
    have h9 : ∀ v w, (Instr.checkKey e (m + 1) 9 v).run Try.prog w = .ok () w := fun v w => run_check_plain e m 9 v w (.inr Try.underlying9)
    rw [Instr.checkKey]
    simp [go_sem, Try.underlying23, h3, h9]
  exact h 9998

theorem findIdx_shift {α : Type} [DecidableEq α] (k a : α) (ks : List α) : (a :: ks).findIdx? (· = k) = if a = k then some 0 else (ks.findIdx? (· = k)).map (· + 1) := by
  by_cases h : a = k <;> simp [List.findIdx?_cons, h]

theorem key_law : KeyLaw Try.prog 23 keyV where
  check := run_check_key
  bits := fun k => by simp [Instr.sameBits, beq_toListBytes]
  find := fun k es ks w h => by
    have ask : ∀ (es : List MapEntry) (ks : List Key) (i : Nat), es.map (·.key) = ks.map keyV →
        (Instr.findAsking 23 (keyV k) es i).run Try.prog w = .ok ((ks.findIdx? (· = k)).map fun j => (i + j, (es.map (·.val)).getD j undef)) w := by
      intro es
      induction es with
      | nil => intro ks i h; cases ks with | nil => simp [Instr.findAsking] | cons => simp at h
      | cons e es ih =>
        intro ks i h
        cases ks with
        | nil => simp at h
        | cons a ks =>
          simp only [List.map_cons, List.cons.injEq] at h
          have he : (Op.equal 23 (keyV k) e.key).run Try.prog w = .ok (decide (k = a)) w := by rw [h.1]; exact run_eq_key k a w
          rw [findIdx_shift]
          by_cases hk : a = k
          · subst hk
            simp [Instr.findAsking, he]
          · have hk' : ¬ k = a := fun e => hk e.symm
            simp only [Instr.findAsking, Sem.run_bind, he, hk', decide_false, Result.andThen_ok, Bool.false_eq_true, if_false]
            rw [ih ks (i + 1) h.2, if_neg hk]
            cases ks.findIdx? (· = k) <;> simp [Nat.add_assoc, Nat.add_comm 1]
    have hnow : Instr.findNow (.struct (Try.prog.fieldsOf 23)) (keyV k) es 0 = none ∨ es = [] := by
      cases es with
      | nil => exact .inr rfl
      | cons e es => left; simp [Instr.findNow, Instr.sameNow]
    have hu : Try.prog.underlying 23 = some (.struct (Try.prog.fieldsOf 23)) := by kernel_rfl
    rcases hnow with hn | rfl
    · have := ask es ks 0 h
      simp only [Nat.zero_add] at this
      simp [Instr.findKey, run_underlying hu, hn, this]
    · have : ks = [] := by simpa using h.symm
      subst this
      simp [Instr.findKey, run_underlying hu, Instr.findNow]

theorem int_law {kt : TypeId} (hu : Try.prog.underlying kt = some (.int .i64)) : KeyLaw Try.prog kt intV where
  check := fun e k w => run_check_plain e 9999 kt _ w (.inl ⟨_, hu⟩)
  bits := fun k => by simp [Instr.sameBits]
  find := fun k es ks w h => by
    have now : ∀ (es : List MapEntry) (ks : List Int) (i : Nat), es.map (·.key) = ks.map intV →
        Instr.findNow (.int .i64) (intV k) es i = some ((ks.findIdx? (· = k)).map fun j => (i + j, (es.map (·.val)).getD j undef)) := by
      intro es
      induction es with
      | nil => intro ks i h; cases ks with | nil => simp [Instr.findNow] | cons => simp at h
      | cons e es ih =>
        intro ks i h
        cases ks with
        | nil => simp at h
        | cons a ks =>
          simp only [List.map_cons, List.cons.injEq] at h
          rw [findIdx_shift]
          by_cases hk : a = k
          · subst hk
            simp [Instr.findNow, Instr.sameNow, h.1]
          · have hk' : (k == a) = false := by simpa using fun e : k = a => hk e.symm
            simp only [Instr.findNow, Instr.sameNow, h.1, hk', if_true]
            rw [ih ks (i + 1) h.2, if_neg hk]
            cases ks.findIdx? (· = k) <;> simp [Nat.add_assoc, Nat.add_comm 1]
    have := now es ks 0 h
    simp only [Nat.zero_add] at this
    simp [Instr.findKey, run_underlying hu, this]
end Go.Proofs.Cob
