/-
  The program's store and the reference's, side by side in one memory.
-/
import Derived.Test.YtjhpdmiafecdnaaPlainB
import Derived.Test.YtjhpdmiafecdnaaScene
namespace Go.Proofs.Cob
open Go Go.RowKit Go.Cob
set_option linter.unusedSimpArgs false
set_option linter.unusedVariables false

/-- Both stores, apart, in blocks that B allows. -/
def Duo (w : World) (I : Ids) (r : Nat) (A : ArenaSt) (L : List (Key × Cl)) (room : Int) (cs : List RC) (B : Nat → Prop) : Prop :=
  ∃ F G : Nat → Prop, StN w I A L F ∧ RefM w r room cs G ∧ (∀ b, F b → B b ∧ b < w.heap.size) ∧ (∀ b, G b → B b ∧ b < w.heap.size) ∧ ∀ b, F b → ¬ G b

theorem StN.mono {w : World} {I : Ids} {A : ArenaSt} {L : List (Key × Cl)} {F F' : Nat → Prop} (h : StN w I A L F) (hF : ∀ b, b < w.heap.size → F b → F' b) : StN w I A L F' := ⟨h.st.mono hF, h.fl⟩
theorem StN.ch {w : World} {I : Ids} {A : ArenaSt} {L : List (Key × Cl)} {F T : Nat → Prop} (h : StN w I A L F) (p : Ch T w) (hT : ∀ b, T b → ¬ F b) : StN p.w I A L F := ⟨h.st.ch p hT, h.fl⟩
theorem RefM.mono {w : World} {r : Nat} {room : Int} {cs : List RC} {G G' : Nat → Prop} (h : RefM w r room cs G) (hG : ∀ b, b < w.heap.size → G b → G' b) : RefM w r room cs G' := by
  obtain ⟨⟨v, h1, h2⟩, h3⟩ := h
  exact ⟨⟨v, h1, fun b hb => hG b (by obtain ⟨cur, hc⟩ := rowBlk h1.row hb; exact lt_of_blk hc) (h2 b hb)⟩, hG r (lt_of_blk h1.st) h3⟩

theorem Duo.ext {w : World} {I : Ids} {r : Nat} {A : ArenaSt} {L : List (Key × Cl)} {room : Int} {cs : List RC} {B : Nat → Prop} (h : Duo w I r A L room cs B) (p : Ext w) : Duo p.w I r A L room cs B := by
  obtain ⟨F, G, h1, h2, h3, h4, h5⟩ := h
  exact ⟨F, G, h1.ext p, h2.ext p, fun b hb => ⟨(h3 b hb).1, Nat.lt_of_lt_of_le (h3 b hb).2 p.size⟩, fun b hb => ⟨(h4 b hb).1, Nat.lt_of_lt_of_le (h4 b hb).2 p.size⟩, h5⟩
/-- Other blocks turned. -/
theorem Duo.ch {w : World} {I : Ids} {r : Nat} {A : ArenaSt} {L : List (Key × Cl)} {room : Int} {cs : List RC} {B T : Nat → Prop} (h : Duo w I r A L room cs B) (p : Ch T w) (hT : ∀ b, T b → ¬ B b) : Duo p.w I r A L room cs B := by
  obtain ⟨F, G, h1, h2, h3, h4, h5⟩ := h
  exact ⟨F, G, h1.ch p (fun b ht hf => hT b ht (h3 b hf).1), h2.ch p (fun b ht hf => hT b ht (h4 b hf).1), fun b hb => ⟨(h3 b hb).1, Nat.lt_of_lt_of_le (h3 b hb).2 p.size⟩, fun b hb => ⟨(h4 b hb).1, Nat.lt_of_lt_of_le (h4 b hb).2 p.size⟩, h5⟩

/-- A call on the program's store. -/
theorem Duo.prog {w : World} {I : Ids} {r : Nat} {A : ArenaSt} {L : List (Key × Cl)} {room : Int} {cs : List RC} {B : Nat → Prop} (h : Duo w I r A L room cs B) (hB : ∀ b, w.heap.size ≤ b → B b) {f : FuncId} {args : Array Value} {v : Value} {A' : ArenaSt} {L' : List (Key × Cl)}
    (hc : ∀ F : Nat → Prop, StN w I A L F → (∀ b, w.heap.size ≤ b → F b) → Calls Try.prog f args w fun e w' => e = .returned v ∧ ∃ p : Ch F w, w' = p.w ∧ StN p.w I A' L' F) :
    Calls Try.prog f args w fun e w' => e = .returned v ∧ ∃ p : Ch B w, w' = p.w ∧ Duo p.w I r A' L' room cs B := by
  obtain ⟨F, G, h1, h2, h3, h4, h5⟩ := h
  refine (hc (fun b => F b ∨ w.heap.size ≤ b) (h1.mono fun b _ h => .inl h) (fun b hb => .inr hb)).mono ?_
  rintro e w' ⟨rfl, p, rfl, hS⟩
  have hsz := p.size
  refine ⟨rfl, p.mono (fun b hb h => by rcases h with h | h; exact (h3 b h).1; exact hB b h), rfl, fun b => (F b ∨ w.heap.size ≤ b) ∧ b < p.w.heap.size, G, hS.mono (fun b hb h => ⟨h, hb⟩), h2.ch p ?_, ?_, ?_, ?_⟩
  · intro b hb hg
    rcases hb with hb | hb
    · exact h5 b hb hg
    · have := (h4 b hg).2; omega
  · rintro b ⟨h, hlt⟩
    refine ⟨?_, hlt⟩
    rcases h with h | h
    · exact (h3 b h).1
    · exact hB b h
  · intro b hb
    exact ⟨(h4 b hb).1, Nat.lt_of_lt_of_le (h4 b hb).2 hsz⟩
  · rintro b ⟨h, _⟩ hg
    rcases h with h | h
    · exact h5 b h hg
    · have := (h4 b hg).2; omega
/-- A call on the reference. -/
theorem Duo.ref {w : World} {I : Ids} {r : Nat} {A : ArenaSt} {L : List (Key × Cl)} {room : Int} {cs : List RC} {B : Nat → Prop} (h : Duo w I r A L room cs B) (hB : ∀ b, w.heap.size ≤ b → B b) {f : FuncId} {args : Array Value} {v : Value} {cs' : List RC}
    (hc : ∀ G : Nat → Prop, RefM w r room cs G → (∀ b, w.heap.size ≤ b → G b) → Calls Try.prog f args w fun e w' => e = .returned v ∧ ∃ p : Ch G w, w' = p.w ∧ RefM p.w r room cs' G) :
    Calls Try.prog f args w fun e w' => e = .returned v ∧ ∃ p : Ch B w, w' = p.w ∧ Duo p.w I r A L room cs' B := by
  obtain ⟨F, G, h1, h2, h3, h4, h5⟩ := h
  refine (hc (fun b => G b ∨ w.heap.size ≤ b) (h2.mono fun b _ h => .inl h) (fun b hb => .inr hb)).mono ?_
  rintro e w' ⟨rfl, p, rfl, hS⟩
  have hsz := p.size
  refine ⟨rfl, p.mono (fun b hb h => by rcases h with h | h; exact (h4 b h).1; exact hB b h), rfl, F, fun b => (G b ∨ w.heap.size ≤ b) ∧ b < p.w.heap.size, h1.ch p ?_, hS.mono (fun b hb h => ⟨h, hb⟩), ?_, ?_, ?_⟩
  · intro b hb hf
    rcases hb with hb | hb
    · exact h5 b hf hb
    · have := (h3 b hf).2; omega
  · intro b hb
    exact ⟨(h3 b hb).1, Nat.lt_of_lt_of_le (h3 b hb).2 hsz⟩
  · rintro b ⟨h, hlt⟩
    refine ⟨?_, hlt⟩
    rcases h with h | h
    · exact (h4 b h).1
    · exact hB b h
  · rintro b hf ⟨h, _⟩
    rcases h with h | h
    · exact h5 b hf h
    · have := (h3 b hf).2; omega
end Go.Proofs.Cob
