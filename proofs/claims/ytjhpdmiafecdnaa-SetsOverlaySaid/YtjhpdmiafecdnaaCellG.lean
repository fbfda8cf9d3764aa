/-
  The cells' store (layer 9), seventh part: the plain store beside the one in memory.
-/
import Derived.Test.YtjhpdmiafecdnaaCellF
namespace Go.Proofs.Cob
open Go Go.RowKit Go.Cob
set_option linter.unusedSimpArgs false
set_option linter.unusedVariables false

structure Cl where
  sl : Int
  gen : Int
  wd : Int
  text : ByteArray
  who : Int
abbrev Slot.cl (z : Slot) : Cl := ⟨z.sl, z.gen, z.wd, z.text, z.who⟩
abbrev strip (p : Key × Slot) : Key × Cl := (p.1, p.2.cl)

theorem aget_map {α β γ : Type} [DecidableEq α] (f : β → γ) (l : List (α × β)) (k : α) : aget (l.map fun p => (p.1, f p.2)) k = (aget l k).map f := by
  induction l with
  | nil => rfl
  | cons p l ih =>
    rw [List.map_cons, aget_cons, aget_cons, ih]
    by_cases h : p.1 = k <;> simp [h]
theorem aput_map {α β γ : Type} [DecidableEq α] (f : β → γ) (l : List (α × β)) (k : α) (v : β) : (aput l k v).map (fun p => (p.1, f p.2)) = aput (l.map fun p => (p.1, f p.2)) k (f v) := by
  induction l with
  | nil => rfl
  | cons p l ih =>
    simp only [aput, List.map_cons]
    by_cases h : p.1 = k <;> simp [h, ih]
theorem adel_map {α β γ : Type} [DecidableEq α] (f : β → γ) (l : List (α × β)) (k : α) : (adel l k).map (fun p => (p.1, f p.2)) = adel (l.map fun p => (p.1, f p.2)) k := by
  induction l with
  | nil => rfl
  | cons p l ih =>
    simp only [adel, List.map_cons]
    by_cases h : p.1 = k <;> simp [h, ih]

/-- The store in memory, its blocks within F, and the plain one: an arena, and a list of cells. -/
structure StM (w : World) (I : Ids) (A : ArenaSt) (L : List (Key × Cl)) (F : Nat → Prop) : Prop where
  ex : ∃ fv l, StoreAt w I fv A l ∧ l.map strip = L ∧ ∀ b, Foot I fv l b → F b
  lo : 0 ≤ A.fresh
  hi : A.fresh ≤ A.room
  top : A.room ≤ 1048576

theorem StM.ext {w : World} {I : Ids} {A : ArenaSt} {L : List (Key × Cl)} {F : Nat → Prop} (h : StM w I A L F) (p : Ext w) : StM p.w I A L F := by
  obtain ⟨⟨fv, l, h1, h2, h3⟩, h4, h5, h6⟩ := h
  exact ⟨⟨fv, l, h1.ext p, h2, h3⟩, h4, h5, h6⟩
theorem StM.ch {w : World} {I : Ids} {A : ArenaSt} {L : List (Key × Cl)} {F T : Nat → Prop} (h : StM w I A L F) (p : Ch T w) (hT : ∀ b, T b → ¬ F b) : StM p.w I A L F := by
  obtain ⟨⟨fv, l, h1, h2, h3⟩, h4, h5, h6⟩ := h
  exact ⟨⟨fv, l, h1.keep fun b hb => p.same b (h1.lt hb) fun ht => hT b ht (h3 b hb), h2, h3⟩, h4, h5, h6⟩
theorem StM.mono {w : World} {I : Ids} {A : ArenaSt} {L : List (Key × Cl)} {F G : Nat → Prop} (h : StM w I A L F) (hG : ∀ b, b < w.heap.size → F b → G b) : StM w I A L G := by
  obtain ⟨⟨fv, l, h1, h2, h3⟩, h4, h5, h6⟩ := h
  exact ⟨⟨fv, l, h1, h2, fun b hb => hG b (h1.lt hb) (h3 b hb)⟩, h4, h5, h6⟩
/-- What was allocated last is none of the store's. -/
theorem StM.keep {w w' : World} {I : Ids} {A : ArenaSt} {L : List (Key × Cl)} {F : Nat → Prop} (h : StM w I A L F) (e : ∀ b, F b → b < w.heap.size → w'.heap[b]? = w.heap[b]?) : StM w' I A L F := by
  obtain ⟨⟨fv, l, h1, h2, h3⟩, h4, h5, h6⟩ := h
  exact ⟨⟨fv, l, h1.keep fun b hb => e b (h3 b hb) (h1.lt hb), h2, h3⟩, h4, h5, h6⟩

def holdsM (L : List (Key × Cl)) (k : Key) (who : Int) : Bool := match aget L k with | none => false | some z => !freeB z.wd && (z.who == who)
theorem holds_strip {l : List (Key × Slot)} {L : List (Key × Cl)} (h : l.map strip = L) (k : Key) (who : Int) : holdsB l k who = holdsM L k who := by
  subst h; unfold holdsB holdsM; rw [aget_map (fun z => Slot.cl z)]; cases aget l k <;> rfl
def readM (L : List (Key × Cl)) (k : Key) : Value × Int :=
  match aget L k with
  | none => (seenV 0 ⟨#[]⟩ false, 0)
  | some z => if freeB z.wd then (seenV (stampZ z.wd) z.text (!goneB z.wd), 0) else (seenV 0 ⟨#[]⟩ false, 60)
theorem read_strip {l : List (Key × Slot)} {L : List (Key × Cl)} (h : l.map strip = L) (k : Key) : readV l k = readM L k := by
  subst h; unfold readV readM; rw [aget_map (fun z => Slot.cl z)]; cases aget l k <;> rfl
def stillM (L : List (Key × Cl)) (k : Key) (who wd : Int) (has : Bool) : Bool :=
  match aget L k with
  | none => !has
  | some z => if !freeB z.wd && (z.who != who) then false else (goneB z.wd == !has) && ((stampZ z.wd == wd) || (!has && (stampZ z.wd == 0)))
theorem still_strip {l : List (Key × Slot)} {L : List (Key × Cl)} (h : l.map strip = L) (k : Key) (who wd : Int) (has : Bool) : stillB l k who wd has = stillM L k who wd has := by
  subst h; unfold stillB stillM; rw [aget_map (fun z => Slot.cl z)]; cases aget l k <;> rfl

theorem holds_m (I : Ids) (A : ArenaSt) (L : List (Key × Cl)) (F : Nat → Prop) (k : Key) (who : Int) (w : World) (h : StM w I A L F) :
    Calls Try.prog 120 #[.pointer (some ⟨I.s, 0, none⟩), keyV k, .int .i64 who] w fun e w' => e = .returned (.bool (holdsM L k who)) ∧ ∃ p : Ext w, w' = p.w := by
  obtain ⟨⟨fv, l, h1, h2, h3⟩, h4, h5, h6⟩ := h
  rw [← holds_strip h2]
  exact holds_any I fv A l _ _ _ _ who w h1
theorem read_m (I : Ids) (A : ArenaSt) (L : List (Key × Cl)) (F : Nat → Prop) (k : Key) (w : World) (h : StM w I A L F) :
    Calls Try.prog 28 #[.pointer (some ⟨I.s, 0, none⟩), keyV k] w fun e w' => e = .returned (.tuple #[(readM L k).1, .int .i64 (readM L k).2]) ∧ ∃ p : Ext w, w' = p.w := by
  obtain ⟨⟨fv, l, h1, h2, h3⟩, h4, h5, h6⟩ := h
  rw [← read_strip h2]
  exact read_any I fv A l _ _ _ _ w h1
theorem still_m (I : Ids) (A : ArenaSt) (L : List (Key × Cl)) (F : Nat → Prop) (k : Key) (who vw : Int) (vs : ByteArray) (has : Bool) (w : World) (h : StM w I A L F) :
    Calls Try.prog 33 #[.pointer (some ⟨I.s, 0, none⟩), keyV k, .int .i64 who, seenV vw vs has] w fun e w' => e = .returned (.bool (stillM L k who vw has)) ∧ ∃ p : Ext w, w' = p.w := by
  obtain ⟨⟨fv, l, h1, h2, h3⟩, h4, h5, h6⟩ := h
  rw [← still_strip h2]
  exact still_any I fv A l _ _ _ _ who vw vs has w h1

def lockM (A : ArenaSt) (L : List (Key × Cl)) (k : Key) (who : Int) : (Int × Int) × ArenaSt × List (Key × Cl) :=
  match aget L k with
  | some z => if freeB z.wd then ((stampZ (lockZ z.wd), 0), A, aput L k { z with wd := lockZ z.wd, who := who }) else ((0, 60), A, L)
  | none => match takeA A with
    | none => ((0, 50), A, L)
    | some (s, A') => ((stampZ (lockZ (absentZ 0 true)), 0), A', aput L k ⟨s, genOf A s, lockZ (absentZ 0 true), ⟨#[]⟩, who⟩)

theorem take_bounds {A A' : ArenaSt} {s : Int} (h : takeA A = some (s, A')) (lo : 0 ≤ A.fresh) (hi : A.fresh ≤ A.room) : 0 ≤ A'.fresh ∧ A'.fresh ≤ A'.room ∧ A'.room = A.room := by
  unfold takeA at h
  split at h
  · split at h
    · cases h
    · rename_i hr
      simp only [Option.some.injEq, Prod.mk.injEq] at h
      obtain ⟨rfl, rfl⟩ := h
      simp at hr
      refine ⟨?_, ?_, rfl⟩ <;> simp only <;> omega
  · simp only [Option.some.injEq, Prod.mk.injEq] at h
    obtain ⟨rfl, rfl⟩ := h
    exact ⟨lo, hi, rfl⟩

theorem mem_aput {α β : Type} [DecidableEq α] {l : List (α × β)} {k : α} {v : β} {p : α × β} (h : p ∈ aput l k v) : p ∈ l ∨ p = (k, v) := by
  induction l with
  | nil => simp only [aput, List.mem_singleton] at h; exact .inr h
  | cons q l ih =>
    simp only [aput] at h
    split at h
    · rcases List.mem_cons.1 h with rfl | h
      · exact .inr rfl
      · exact .inl (List.mem_cons_of_mem _ h)
    · rcases List.mem_cons.1 h with rfl | h
      · exact .inl (List.mem_cons_self ..)
      · rcases ih h with h | h
        · exact .inl (List.mem_cons_of_mem _ h)
        · exact .inr h

theorem foot_put {I : Ids} {fv : Value} {l : List (Key × Slot)} {k : Key} {z' : Slot} {b : Nat} (h : Foot I fv (aput l k z') b) : Foot I fv l b ∨ b = z'.x := by
  unfold Foot at *
  rcases h with h | h | h | h | h | h | ⟨p, hp, h⟩
  · exact .inl (by simp [h])
  · exact .inl (by simp [h])
  · exact .inl (by simp [h])
  · exact .inl (by simp [h])
  · exact .inl (by simp [h])
  · exact .inl (by simp [h])
  · rcases mem_aput hp with hp | rfl
    · exact .inl (.inr (.inr (.inr (.inr (.inr (.inr ⟨p, hp, h⟩))))))
    · exact .inr h.symm

theorem lock_m (I : Ids) (A : ArenaSt) (L : List (Key × Cl)) (F : Nat → Prop) (k : Key) (who : Int) (w : World) (h : StM w I A L F) (hF : ∀ b, w.heap.size ≤ b → F b) :
    Calls Try.prog 25 #[.pointer (some ⟨I.s, 0, none⟩), keyV k, .int .i64 who] w fun e w' =>
      e = .returned (.tuple #[.int .u64 (lockM A L k who).1.1, .int .i64 (lockM A L k who).1.2]) ∧ ∃ p : Ch F w, w' = p.w ∧ StM p.w I (lockM A L k who).2.1 (lockM A L k who).2.2 F := by
  have h0 := h
  obtain ⟨⟨fv, l, h1, h2, h3⟩, h4, h5, h6⟩ := h
  have hm : aget L k = (aget l k).map Slot.cl := by rw [← h2]; exact aget_map (fun z => Slot.cl z) l k
  unfold lockM
  rcases hg : aget l k with _ | z
  · rw [hm, hg]
    simp only [Option.map_none]
    rcases ht : takeA A with _ | ⟨s, A'⟩
    · refine (lock_full I fv A l _ _ _ _ who w h1 hg h4 (by omega) ht).mono ?_
      rintro e w' ⟨rfl, p, rfl⟩
      exact ⟨rfl, p.up F, rfl, h0.ext p⟩
    · refine (lock_new I fv A A' l _ _ _ _ who s w h1 hg h4 (by omega) ht).mono ?_
      rintro e w' ⟨rfl, p, rfl, fv', x, hfv, hx, hx2, hS⟩
      refine ⟨rfl, p.mono (fun b hb hc => h3 b (by rcases hc with rfl | rfl | rfl <;> simp [Foot])), rfl, ⟨⟨fv', _, hS, ?_, ?_⟩, (take_bounds ht h4 h5).1, (take_bounds ht h4 h5).2.1, by rw [(take_bounds ht h4 h5).2.2]; exact h6⟩⟩
      · exact (aput_map (fun z => Slot.cl z) l k (newSlot x A s who)).trans (by rw [← h2]; rfl)
      · intro b hb
        rcases foot_put hb with hb | rfl
        · refine h3 b ?_
          unfold Foot at *
          rw [hfv] at hb
          exact hb
        · exact hF _ hx
  · rw [hm, hg]
    simp only [Option.map_some]
    cases hf : freeB z.wd
    · simp only [hf, Bool.false_eq_true, if_false]
      refine (lock_busy I fv A l _ _ _ _ who w z h1 hg hf).mono ?_
      rintro e w' ⟨rfl, p, rfl⟩
      exact ⟨rfl, p.up F, rfl, h0.ext p⟩
    · simp only [hf, if_true]
      refine (lock_old I fv A l _ _ _ _ who w z h1 hg hf).mono ?_
      rintro e w' ⟨rfl, p, rfl, hS⟩
      have hxF : F z.x := h3 z.x (.inr (.inr (.inr (.inr (.inr (.inr ⟨_, aget_mem hg, rfl⟩))))))
      refine ⟨rfl, p.mono (fun b _ e => e ▸ hxF), rfl, ⟨⟨fv, _, hS, ?_, ?_⟩, h4, h5, h6⟩⟩
      · exact (aput_map (fun z => Slot.cl z) l k _).trans (by rw [← h2])
      · intro b hb
        rcases foot_put hb with hb | rfl
        · exact h3 b hb
        · exact hxF

def badM (stamp wd : Int) (vs : ByteArray) (has : Bool) : Bool := (stamp != stampZ stamp) || decide (stamp ≤ stampZ wd) || (!vs.toList.isEmpty && !has)
def installM (L : List (Key × Cl)) (k : Key) (who stamp : Int) (vs : ByteArray) (has : Bool) : Int × List (Key × Cl) :=
  if holdsM L k who then
    match aget L k with
    | none => (51, L)
    | some z => if badM stamp z.wd vs has then (2, L) else (0, aput L k { z with wd := absentZ stamp (!has), text := vs })
  else (51, L)

theorem install_m (I : Ids) (A : ArenaSt) (L : List (Key × Cl)) (F : Nat → Prop) (k : Key) (who stamp vw : Int) (vs : ByteArray) (has : Bool) (w : World) (h : StM w I A L F) :
    Calls Try.prog 26 #[.pointer (some ⟨I.s, 0, none⟩), keyV k, .int .i64 who, .int .u64 stamp, seenV vw vs has] w fun e w' =>
      e = .returned (.int .i64 (installM L k who stamp vs has).1) ∧ ∃ p : Ch F w, w' = p.w ∧ StM p.w I A (installM L k who stamp vs has).2 F := by
  have h0 := h
  obtain ⟨⟨fv, l, h1, h2, h3⟩, h4, h5, h6⟩ := h
  have hm : aget L k = (aget l k).map Slot.cl := by rw [← h2]; exact aget_map (fun z => Slot.cl z) l k
  have hh := holds_strip h2 k who
  unfold installM
  cases hb : holdsM L k who
  · rw [hb] at hh
    rw [if_neg (by simp)]
    refine (install_not I fv A l _ _ _ _ who stamp vw vs has w h1 hh).mono ?_
    rintro e w' ⟨rfl, p, rfl⟩
    exact ⟨rfl, p.up F, rfl, h0.ext p⟩
  · rw [hb] at hh
    rw [if_pos rfl]
    rcases hg : aget l k with _ | z
    · unfold holdsB at hh; rw [hg] at hh; cases hh
    · rw [hm, hg]
      simp only [Option.map_some]
      cases hbad : badM stamp z.wd vs has
      · simp only [hbad, Bool.false_eq_true, if_false]
        refine (install_ok I fv A l _ _ _ _ who stamp vw vs has w z h1 hh hg hbad).mono ?_
        rintro e w' ⟨rfl, p, rfl, hS⟩
        have hxF : F z.x := h3 z.x (.inr (.inr (.inr (.inr (.inr (.inr ⟨_, aget_mem hg, rfl⟩))))))
        refine ⟨rfl, p.mono (fun b _ e => e ▸ hxF), rfl, ⟨⟨fv, _, hS, ?_, ?_⟩, h4, h5, h6⟩⟩
        · exact (aput_map (fun z => Slot.cl z) l k _).trans (by rw [← h2])
        · intro b hb
          rcases foot_put hb with hb | rfl
          · exact h3 b hb
          · exact hxF
      · simp only [hbad, if_true]
        refine (install_bad I fv A l _ _ _ _ who stamp vw vs has w z h1 hh hg hbad).mono ?_
        rintro e w' ⟨rfl, p, rfl⟩
        exact ⟨rfl, p.up F, rfl, h0.ext p⟩

theorem cellNew_m (room : Int) (w : World) (h0 : 0 ≤ room) (h1 : room ≤ 1048576) :
    Calls Try.prog 24 #[.int .i64 room] w fun e w' => ∃ I : Ids, e = .returned (.tuple #[.pointer (some ⟨I.s, 0, none⟩), .int .i64 0]) ∧ ∃ p : Ext w, w' = p.w ∧
      StM p.w I ⟨room, 0, [], [], []⟩ [] (fun b => w.heap.size ≤ b) := by
  refine (cellNew_ok room w h0 h1).mono ?_
  rintro e w' ⟨p, I, rfl, rfl, hS, hF⟩
  exact ⟨I, rfl, p, rfl, ⟨⟨_, _, hS, rfl, hF⟩, by simp, h0, h1⟩⟩
end Go.Proofs.Cob
