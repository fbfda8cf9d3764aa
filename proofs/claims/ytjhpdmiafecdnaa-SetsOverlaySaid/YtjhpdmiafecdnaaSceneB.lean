/-
  A scene beside a store whose free slots are counted: calls on it, boxes that come and turn.
-/
import Derived.Test.YtjhpdmiafecdnaaFree
import Derived.Test.YtjhpdmiafecdnaaScene
namespace Go.Proofs.Cob
open Go Go.RowKit Go.Cob
set_option linter.unusedSimpArgs false
set_option linter.unusedVariables false

theorem StN.mono {w : World} {I : Ids} {A : ArenaSt} {L : List (Key × Cl)} {F F' : Nat → Prop} (h : StN w I A L F) (hF : ∀ b, b < w.heap.size → F b → F' b) : StN w I A L F' := ⟨h.st.mono hF, h.fl⟩
theorem StN.ch {w : World} {I : Ids} {A : ArenaSt} {L : List (Key × Cl)} {F T : Nat → Prop} (h : StN w I A L F) (p : Ch T w) (hT : ∀ b, T b → ¬ F b) : StN p.w I A L F := ⟨h.st.ch p hT, h.fl⟩
theorem lock_n (I : Ids) (A : ArenaSt) (L : List (Key × Cl)) (F : Nat → Prop) (k : Key) (who : Int) (w : World) (h : StN w I A L F) (hF : ∀ b, w.heap.size ≤ b → F b) :
    Calls Try.prog 25 #[.pointer (some ⟨I.s, 0, none⟩), keyV k, .int .i64 who] w fun e w' =>
      e = .returned (.tuple #[.int .u64 (lockM A L k who).1.1, .int .i64 (lockM A L k who).1.2]) ∧ ∃ p : Ch F w, w' = p.w ∧ StN p.w I (lockM A L k who).2.1 (lockM A L k who).2.2 F := by
  refine (lock_m I A L F k who w h.st hF).mono ?_
  rintro e w' ⟨rfl, p, rfl, hS'⟩
  refine ⟨rfl, p, rfl, hS', ?_⟩
  unfold lockM
  cases aget L k with
  | some z => simp only; split <;> exact h.fl
  | none =>
    simp only
    cases ht : takeA A with
    | none => exact h.fl
    | some sa => exact take_fl (s := sa.1) (A' := sa.2) ht h.fl
theorem install_n (I : Ids) (A : ArenaSt) (L : List (Key × Cl)) (F : Nat → Prop) (k : Key) (who stamp vw : Int) (vs : ByteArray) (has : Bool) (w : World) (h : StN w I A L F) :
    Calls Try.prog 26 #[.pointer (some ⟨I.s, 0, none⟩), keyV k, .int .i64 who, .int .u64 stamp, seenV vw vs has] w fun e w' =>
      e = .returned (.int .i64 (installM L k who stamp vs has).1) ∧ ∃ p : Ch F w, w' = p.w ∧ StN p.w I A (installM L k who stamp vs has).2 F := by
  refine (install_m I A L F k who stamp vw vs has w h.st).mono ?_
  rintro e w' ⟨rfl, p, rfl, hS'⟩
  exact ⟨rfl, p, rfl, hS', h.fl⟩
theorem cellNew_n (room : Int) (w : World) (h0 : 0 ≤ room) (h1 : room ≤ 1048576) :
    Calls Try.prog 24 #[.int .i64 room] w fun e w' => ∃ I : Ids, e = .returned (.tuple #[.pointer (some ⟨I.s, 0, none⟩), .int .i64 0]) ∧ ∃ p : Ext w, w' = p.w ∧
      StN p.w I ⟨room, 0, [], [], []⟩ [] (fun b => w.heap.size ≤ b) := by
  refine (cellNew_m room w h0 h1).mono ?_
  rintro e w' ⟨I, rfl, p, rfl, hS⟩
  exact ⟨I, rfl, p, rfl, hS, by simp⟩
theorem StN.box {w0 W : World} {bs : List Box} {I : Ids} {A : ArenaSt} {L : List (Key × Cl)} (h : StN W I A L (Wide w0 bs)) (c : Array Value) (t : TypeId) : StN (W.alloc (.cells c t)) I A L (Wide w0 ((W.heap.size, t, c) :: bs)) := ⟨h.st.box c t, h.fl⟩

theorem StN.drop {w0 W : World} {I : Ids} {A : ArenaSt} {L : List (Key × Cl)} {x : Box} {bs : List Box} (h : StN W I A L (Wide w0 (x :: bs))) : StN W I A L (Wide w0 bs) := StN.mono h (fun b _ hw => ⟨hw.1, fun y hy => hw.2 y (.tail _ hy)⟩)
theorem keysIn_box {W : World} {n : Nat} {k : Key} (h : W.heap[n]? = some (.cells (keyCells k.kind k.a k.b k.s) 23 (0, 0))) : KeysIn W (some ⟨n, 0, none⟩) [k] := by
  refine .inr ⟨n, 0, rfl, fun i k' hk => ?_⟩
  match i, hk with
  | 0, hk =>
    have : k = k' := by simpa using hk
    subst this
    exact ⟨cell_at 0 h, cell_at 1 h, cell_at 2 h, cell_at 3 h⟩
/-- A box turns. -/
theorem Scene.setB {w0 W : World} {n i : Nat} {t : TypeId} {c : Array Value} {v : Value} {bs : List Box} (h : Scene w0 W ((n, t, c) :: bs)) (ht : ∀ x ∈ bs, x.2.1 ≠ t) : Scene w0 (W.setCell ⟨n, i, none⟩ v) ((n, t, c.setIfInBounds i v) :: bs) := by
  have hb := h.cell (.head _)
  have hne : ∀ x ∈ bs, x.1 ≠ n := fun x hx => blkNe (h.bx x (List.mem_cons_of_mem _ hx)).1 hb (ht x hx)
  have hn := (h.bx _ (.head _)).2
  refine ⟨fun x hx => ?_, ?_⟩
  · rcases List.mem_cons.1 hx with rfl | hx
    · exact ⟨heap_set_same hb i v, hn⟩
    · exact ⟨by rw [heap_set_other (hne x hx)]; exact (h.bx x (List.mem_cons_of_mem _ hx)).1, (h.bx x (List.mem_cons_of_mem _ hx)).2⟩
  · obtain ⟨p, rfl⟩ := h.fin
    exact ⟨p.set n i v (fun hb => by have := hn; simp only at this; omega), rfl⟩
theorem StN.setB {w0 W : World} {n i : Nat} {t : TypeId} {c c' : Array Value} {v : Value} {bs : List Box} {I : Ids} {A : ArenaSt} {L : List (Key × Cl)} (h : StN W I A L (Wide w0 ((n, t, c) :: bs))) : StN (W.setCell ⟨n, i, none⟩ v) I A L (Wide w0 ((n, t, c') :: bs)) := by
  have := StN.ch h ((Ch.refl (fun b => b = n) W).set n i v (fun _ => rfl)) (fun b hb hw => hw.2 _ (.head _) hb)
  exact StN.mono this (fun b _ hw => ⟨hw.1, fun x hx => by
    rcases List.mem_cons.1 hx with rfl | hx
    · exact hw.2 (n, t, c) (.head _)
    · exact hw.2 x (List.mem_cons_of_mem _ hx)⟩)
theorem Scene.add {w0 W : World} {bs : List Box} (h : Scene w0 W bs) {g : Nat} {t : TypeId} {c : Array Value} (hb : W.heap[g]? = some (.cells c t (0, 0))) (hw : w0.heap.size ≤ g) : Scene w0 W ((g, t, c) :: bs) :=
  ⟨fun x hx => by
    rcases List.mem_cons.1 hx with rfl | hx
    · exact ⟨hb, hw⟩
    · exact h.bx x hx, h.fin⟩
theorem StN.beyond {w0 W : World} {bs : List Box} {I : Ids} {A : ArenaSt} {L : List (Key × Cl)} (h : StN W I A L (Wide w0 bs)) {g : Nat} {t : TypeId} {c : Array Value} (hg : W.heap.size ≤ g) : StN W I A L (Wide w0 ((g, t, c) :: bs)) :=
  StN.mono h (fun b hb hw => ⟨hw.1, fun x hx => by
    rcases List.mem_cons.1 hx with rfl | hx
    · show b ≠ g
      omega
    · exact hw.2 x hx⟩)
end Go.Proofs.Cob
