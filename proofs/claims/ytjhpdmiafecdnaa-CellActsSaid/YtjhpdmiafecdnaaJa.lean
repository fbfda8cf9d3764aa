/-
  ANY ORDER OF A REGION WHOSE EFFECTS STAND IN A CHAIN: one walk in the order of the text serves every order. WORLDS THAT COME OUT OF A WORLD ('Ch'), blocks of cells, and maps as lists of their entries, in the order in which they were laid. A region of any order whose last operation waits for all the others. Deleting and appending in a region of any order; rows that grow. The same where one operation is a bar: it waits for all ahead of it, all behind it wait for it; the class of worlds may turn there. The program's key types as keys of maps: whole numbers, and the cells' keys. Words (layer 4) and slots of cells: what their functions come to. The arena (layer 5): what its functions come to. The cells' store (layer 9), first part: what it is in memory; reading.
-/
import Derived.Deep.Quiet
import Derived.Deep.QuietTactic
import Derived.KernelRfl
import Derived.WalkKit
import Derived.WalkLawsBesides
import Derived.WalkSpells
import Derived.Outline
import Derived.Maps.AppendAt
import Derived.Deep.AppendLies
import Derived.Laws.OwnMore
import Derived.Test.YtjhpdmiafecdnaaProg
import Derived.Maps.OwnOps
import Derived.Deep.Light
namespace Go.Cob

/-- What a reader's run must come to: the value v, in the world that it got. -/
@[go_sem] def readsUpon (w : World) (v : Value) : Result Next → Prop
  | .ok (.value u) w' => w' = w ∧ u = v
  | .ok .skip w' => w' = w ∧ v = undef
  | _ => False

@[go_sem] def readsAt (P : Program) (o : Oper) (a : Act) (w : World) (v : Value) : Prop := readsUpon w v ((execOp a.eval o).run P w)

theorem readsAt_uniq {P : Program} {o : Oper} {a : Act} {w : World} {v u : Value} (h : readsAt P o a w v) (k : readsAt P o a w u) : v = u := by
  unfold readsAt at h k
  generalize (execOp a.eval o).run P w = r at h k
  cases r with
  | ok n w' => cases n <;> simp only [readsUpon] at h k <;> first | exact h.2.symm.trans k.2 | exact h.2.trans k.2.symm | exact h.elim
  | halt x w' => exact h.elim

/-- What an effect's run must come to: a value, or a call that returns. -/
@[go_sem] def effUpon (P : Program) (o : Oper) (a : Act) (K : Act → World → Prop) : Result Next → Prop
  | .ok (.value v) w' => K (a.put o.dst v) w'
  | .ok .skip w' => K (a.put o.dst undef) w'
  | .ok (.enter f args) w' => Calls P f args w' fun
      | .returned v, w'' => K (a.put o.dst v) w''
      | _, _ => False
  | _ => False

@[go_sem] def effAt (P : Program) (o : Oper) (a : Act) (w : World) (K : Act → World → Prop) : Prop := effUpon P o a K ((execOp a.eval o).run P w)

/-- Has an operation an effect (a call, a store, a new block)? -/
def isEff (o : Oper) : Bool :=
  match o.op with
  | .call c => match c.callee with
    | .builtin .len | .builtin .cap | .builtin .min | .builtin .max => false
    | _ => true
  | .alloc _ | .box .. | .buildSlice .. | .insert .. | .store .. | .mapUpdate .. | .makeMap .. | .makeSlice .. | .range .. | .next .. | .panic .. | .entryStore .. | .mapEntry .. | .go .. | .defer .. | .send .. | .recv .. | .select .. | .makeChan .. => true
  | _ => false

/-- The walk in the order of the text. -/
def wpMix (P : Program) (ops : Array Oper) (C : World → Prop) (Q : Act → World → Prop) : List Oper → Act → World → Prop
  | [], a, w => Q a w
  | o :: rest, a, w =>
    True ∧ (if Region.wanted o (yielded ops a.tmps) = true then
      if isEff o = true then True ∧ effAt P o a w (fun a' w' => C w' ∧ wpMix P ops C Q rest a' w')
      else ∃ v, (∀ w', C w' → readsAt P o a w' v) ∧ wpMix P ops C Q rest (a.put o.dst v) w
    else wpMix P ops C Q rest (a.put o.dst undef) w)

section
variable {P : Program} {ops : Array Oper} {C : World → Prop}

/-! ### wp of one operation -/
theorem effUpon_put {o : Oper} {a b : Act} {K K' : Act → World → Prop} {r : Result Next}
    (h : ∀ u w, K (a.put o.dst u) w → K' (b.put o.dst u) w) (hh : effUpon P o a K r) : effUpon P o b K' r := by
  cases r with
  | halt x w' => exact hh.elim
  | ok n w' =>
    cases n <;> simp only [effUpon] at hh ⊢ <;> first
      | exact h _ _ hh
      | exact hh.mono fun e w'' he => by cases e <;> first | exact h _ _ he | exact he

theorem effUpon_some {o : Oper} {a : Act} {K : Act → World → Prop} {r : Result Next} (hh : effUpon P o a K r) : ∃ u w', K (a.put o.dst u) w' := by
  cases r with
  | halt x w' => exact hh.elim
  | ok n w' =>
    cases n <;> simp only [effUpon] at hh <;> first
      | exact ⟨_, _, hh⟩
      | (obtain ⟨e, w'', fr, hr, _⟩ := hh []
         cases e <;> first | exact ⟨_, _, hr⟩ | exact hr.elim)

theorem wp_of_effAt {o : Oper} {a : Act} {w : World} {K : Act → World → Prop} {Q : Exit → Act → World → Prop} (h : effAt P o a w K) : o.wp P a w K Q := by
  unfold effAt at h
  unfold Oper.wp
  generalize (execOp a.eval o).run P w = r at h ⊢
  cases r with
  | halt x w' => exact h.elim
  | ok n w' =>
    cases n <;> simp only [effUpon] at h <;> simp only [Oper.upon] <;> first
      | exact h
      | exact h.mono fun e w'' he => by cases e <;> first | exact he | exact he.elim

theorem wp_of_readsAt {o : Oper} {a : Act} {w : World} {v : Value} {K : Act → World → Prop} {Q : Exit → Act → World → Prop} (h : readsAt P o a w v) (hk : K (a.put o.dst v) w) : o.wp P a w K Q := by
  unfold readsAt at h
  unfold Oper.wp
  generalize (execOp a.eval o).run P w = r at h ⊢
  cases r with
  | halt x w' => exact h.elim
  | ok n w' =>
    cases n <;> simp only [readsUpon] at h <;> simp only [Oper.upon] <;> first
      | (obtain ⟨rfl, rfl⟩ := h; exact hk)
      | exact h.elim

/-! ### two operations that stand apart -/
theorem readsAt_put {o p : Oper} (hs : ∀ cs b, o.op ≠ .select cs b) (h : ∀ d, p.dst = some d → d ∉ o.looksAt ops) (a : Act) (u : Value) (w : World) (v : Value) :
    readsAt P o (a.put p.dst u) w v ↔ readsAt P o a w v := by
  unfold readsAt
  rw [execOp_put (ops := ops) o hs a p.dst u h]

theorem effAt_put {o p : Oper} (hs : ∀ cs b, o.op ≠ .select cs b) (h : ∀ d, p.dst = some d → d ∉ o.looksAt ops) (a : Act) (v : Value) (w : World) {K K' : Act → World → Prop}
    (hk : ∀ u w', K (a.put o.dst u) w' → K' ((a.put p.dst v).put o.dst u) w') (hh : effAt P o a w K) : effAt P o (a.put p.dst v) w K' := by
  unfold effAt at *
  rw [execOp_put (ops := ops) o hs a p.dst v h]
  exact effUpon_put hk hh

theorem effAt_unput {o p : Oper} (hs : ∀ cs b, o.op ≠ .select cs b) (h : ∀ d, p.dst = some d → d ∉ o.looksAt ops) (a : Act) (v : Value) (w : World) {K K' : Act → World → Prop}
    (hk : ∀ u w', K ((a.put p.dst v).put o.dst u) w' → K' (a.put o.dst u) w') (hh : effAt P o (a.put p.dst v) w K) : effAt P o a w K' := by
  unfold effAt at *
  rw [execOp_put (ops := ops) o hs a p.dst v h] at hh
  exact effUpon_put hk hh

/-- One operation, taken now. -/
def Step1 (P : Program) (ops : Array Oper) (C : World → Prop) (o : Oper) (K : Act → World → Prop) (a : Act) (w : World) : Prop :=
  if Region.wanted o (yielded ops a.tmps) = true then
    if isEff o = true then True ∧ effAt P o a w (fun a' w' => C w' ∧ K a' w') else ∃ v, (∀ w', C w' → readsAt P o a w' v) ∧ K (a.put o.dst v) w
  else K (a.put o.dst undef) w

theorem wpMix_cons {Q : Act → World → Prop} {o : Oper} {rest : List Oper} {a : Act} {w : World} : wpMix P ops C Q (o :: rest) a w = Step1 P ops C o (wpMix P ops C Q rest) a w := by
  show (True ∧ Step1 P ops C o (wpMix P ops C Q rest) a w) = _
  rw [true_and]

/-- A reader behind other operations that stand apart from it may be taken first. -/
theorem early_reader {Q : Act → World → Prop} {i : Oper} (hi : isEff i = false) (hsi : ∀ cs b, i.op ≠ .select cs b) :
    ∀ (l1 l2 : List Oper) (a : Act) (w : World), C w → (∀ k ∈ l1, k.apart ops i = true ∧ ∀ cs b, k.op ≠ .select cs b) → wpMix P ops C Q (l1 ++ i :: l2) a w →
      Step1 P ops C i (wpMix P ops C Q (l1 ++ l2)) a w
  | [], _, _, _, _, _, h => by rw [List.nil_append, wpMix_cons] at h; exact h
  | k :: l1, l2, a, w, hC, hap, h => by
    obtain ⟨hk, hsk⟩ := hap k (List.mem_cons_self ..)
    obtain ⟨h1, h2, h3⟩ := Oper.apart_spec hk
    have ih := early_reader (Q := Q) hi hsi l1 l2
    have hap' : ∀ k ∈ l1, k.apart ops i = true ∧ ∀ cs b, k.op ≠ .select cs b := fun k hk => hap k (List.mem_cons_of_mem _ hk)
    rw [List.cons_append, wpMix_cons] at h
    unfold Step1 at h
    have hwi : ∀ u, Region.wanted i (yielded ops (a.put k.dst u).tmps) = Region.wanted i (yielded ops a.tmps) := fun u => wanted_put i a k.dst u h1
    have hwk : ∀ u, Region.wanted k (yielded ops (a.put i.dst u).tmps) = Region.wanted k (yielded ops a.tmps) := fun u => wanted_put k a i.dst u h3
    have hcomm : ∀ u v, (a.put k.dst u).put i.dst v = (a.put i.dst v).put k.dst u := fun u v => Act.put_comm a u v h2
    by_cases hw : Region.wanted k (yielded ops a.tmps) = true
    · rw [if_pos hw] at h
      by_cases he : isEff k = true
      · rw [if_pos he] at h
        -- an effect ahead
        have hsome := effUpon_some h.2
        obtain ⟨u, w1, hC1, hT1⟩ := hsome
        have s1 := ih _ w1 hC1 hap' hT1
        unfold Step1 at s1 ⊢
        rw [hwi] at s1
        by_cases hwant : Region.wanted i (yielded ops a.tmps) = true
        · rw [if_pos hwant] at s1 ⊢
          rw [if_neg (by simp [hi])] at s1 ⊢
          obtain ⟨v, hv, _⟩ := s1
          refine ⟨v, fun w' hw' => (readsAt_put hsi h1 a u w' v).1 (hv w' hw'), ?_⟩
          rw [List.cons_append, wpMix_cons]
          unfold Step1
          rw [hwk, if_pos hw, if_pos he]
          refine ⟨trivial, effAt_put hsk h3 a v w (fun u' w' hK => ?_) h.2⟩
          obtain ⟨hC', hT'⟩ := hK
          refine ⟨hC', ?_⟩
          have s2 := ih _ w' hC' hap' hT'
          unfold Step1 at s2
          rw [hwi, if_pos hwant, if_neg (by simp [hi])] at s2
          obtain ⟨v', hv', hT''⟩ := s2
          have : v' = v := readsAt_uniq ((readsAt_put hsi h1 a u' w v').1 (hv' w hC)) ((readsAt_put hsi h1 a u w v).1 (hv w hC))
          subst this
          rw [← hcomm]; exact hT''
        · rw [if_neg hwant] at s1 ⊢
          rw [List.cons_append, wpMix_cons]
          unfold Step1
          rw [hwk, if_pos hw, if_pos he]
          refine ⟨trivial, effAt_put hsk h3 a undef w (fun u' w' hK => ?_) h.2⟩
          obtain ⟨hC', hT'⟩ := hK
          refine ⟨hC', ?_⟩
          have s2 := ih _ w' hC' hap' hT'
          unfold Step1 at s2
          rw [hwi, if_neg hwant] at s2
          rw [← hcomm]; exact s2
      · rw [if_neg he] at h
        obtain ⟨u, hu, hT⟩ := h
        have s1 := ih _ w hC hap' hT
        unfold Step1 at s1 ⊢
        rw [hwi] at s1
        by_cases hwant : Region.wanted i (yielded ops a.tmps) = true
        · rw [if_pos hwant] at s1 ⊢
          rw [if_neg (by simp [hi])] at s1 ⊢
          obtain ⟨v, hv, hT1⟩ := s1
          refine ⟨v, fun w' hw' => (readsAt_put hsi h1 a u w' v).1 (hv w' hw'), ?_⟩
          rw [List.cons_append, wpMix_cons]
          unfold Step1
          rw [hwk, if_pos hw, if_neg he]
          exact ⟨u, fun w' hw' => (readsAt_put hsk h3 a v w' u).2 (hu w' hw'), by rw [← hcomm]; exact hT1⟩
        · rw [if_neg hwant] at s1 ⊢
          rw [List.cons_append, wpMix_cons]
          unfold Step1
          rw [hwk, if_pos hw, if_neg he]
          exact ⟨u, fun w' hw' => (readsAt_put hsk h3 a undef w' u).2 (hu w' hw'), by rw [← hcomm]; exact s1⟩
    · rw [if_neg hw] at h
      have s1 := ih _ w hC hap' h
      unfold Step1 at s1 ⊢
      rw [hwi] at s1
      by_cases hwant : Region.wanted i (yielded ops a.tmps) = true
      · rw [if_pos hwant] at s1 ⊢
        rw [if_neg (by simp [hi])] at s1 ⊢
        obtain ⟨v, hv, hT1⟩ := s1
        refine ⟨v, fun w' hw' => (readsAt_put hsi h1 a undef w' v).1 (hv w' hw'), ?_⟩
        rw [List.cons_append, wpMix_cons]
        unfold Step1
        rw [hwk, if_neg hw, ← hcomm]; exact hT1
      · rw [if_neg hwant] at s1 ⊢
        rw [List.cons_append, wpMix_cons]
        unfold Step1
        rw [hwk, if_neg hw, ← hcomm]; exact s1

/-- An effect behind readers that stand apart from it may be taken first. -/
theorem early_effect {Q : Act → World → Prop} {i : Oper} (hi : isEff i = true) (hsi : ∀ cs b, i.op ≠ .select cs b) :
    ∀ (l1 l2 : List Oper) (a : Act) (w : World), (∀ k ∈ l1, isEff k = false ∧ k.apart ops i = true ∧ ∀ cs b, k.op ≠ .select cs b) → wpMix P ops C Q (l1 ++ i :: l2) a w →
      Step1 P ops C i (wpMix P ops C Q (l1 ++ l2)) a w
  | [], _, _, _, _, h => by rw [List.nil_append, wpMix_cons] at h; exact h
  | k :: l1, l2, a, w, hap, h => by
    obtain ⟨hek, hk, hsk⟩ := hap k (List.mem_cons_self ..)
    obtain ⟨h1, h2, h3⟩ := Oper.apart_spec hk
    have hap' : ∀ k ∈ l1, isEff k = false ∧ k.apart ops i = true ∧ ∀ cs b, k.op ≠ .select cs b := fun k hk => hap k (List.mem_cons_of_mem _ hk)
    have ih := early_effect (Q := Q) hi hsi l1 l2
    rw [List.cons_append, wpMix_cons] at h
    unfold Step1 at h
    have hwi : ∀ u, Region.wanted i (yielded ops (a.put k.dst u).tmps) = Region.wanted i (yielded ops a.tmps) := fun u => wanted_put i a k.dst u h1
    have hwk : ∀ u, Region.wanted k (yielded ops (a.put i.dst u).tmps) = Region.wanted k (yielded ops a.tmps) := fun u => wanted_put k a i.dst u h3
    have hcomm : ∀ u v, (a.put k.dst u).put i.dst v = (a.put i.dst v).put k.dst u := fun u v => Act.put_comm a u v h2
    by_cases hw : Region.wanted k (yielded ops a.tmps) = true
    · rw [if_pos hw, if_neg (by simp [hek])] at h
      obtain ⟨u, hu, hT⟩ := h
      have s1 := ih _ w hap' hT
      have back : ∀ v w', wpMix P ops C Q (l1 ++ l2) ((a.put k.dst u).put i.dst v) w' → wpMix P ops C Q (k :: l1 ++ l2) (a.put i.dst v) w' := fun v w' hx => by
        rw [List.cons_append, wpMix_cons]
        unfold Step1
        rw [hwk, if_pos hw, if_neg (by simp [hek])]
        exact ⟨u, fun w' hw' => (readsAt_put hsk h3 a v w' u).2 (hu w' hw'), by rw [← hcomm]; exact hx⟩
      unfold Step1 at s1 ⊢
      rw [hwi] at s1
      by_cases hwant : Region.wanted i (yielded ops a.tmps) = true
      · rw [if_pos hwant, if_pos hi] at s1 ⊢
        exact ⟨trivial, effAt_unput hsi h1 a u w (fun v w' hK => ⟨hK.1, back v w' hK.2⟩) s1.2⟩
      · rw [if_neg hwant] at s1 ⊢
        exact back _ _ s1
    · rw [if_neg hw] at h
      have s1 := ih _ w hap' h
      have back : ∀ v w', wpMix P ops C Q (l1 ++ l2) ((a.put k.dst undef).put i.dst v) w' → wpMix P ops C Q (k :: l1 ++ l2) (a.put i.dst v) w' := fun v w' hx => by
        rw [List.cons_append, wpMix_cons]
        unfold Step1
        rw [hwk, if_neg hw, ← hcomm]; exact hx
      unfold Step1 at s1 ⊢
      rw [hwi] at s1
      by_cases hwant : Region.wanted i (yielded ops a.tmps) = true
      · rw [if_pos hwant, if_pos hi] at s1 ⊢
        exact ⟨trivial, effAt_unput hsi h1 a undef w (fun v w' hK => ⟨hK.1, back v w' hK.2⟩) s1.2⟩
      · rw [if_neg hwant] at s1 ⊢
        exact back _ _ s1


/-! ### the Bool over a region -/
/-- j waits for i, directly or through others. -/
inductive Waits (ops : Array Oper) : Nat → Nat → Prop
  | one {j i : Nat} {o : Oper} {e : Edge} (ho : ops[j]? = some o) (he : e ∈ o.after) (hb : Region.binds .any e = true) (hi : e.on = i) : Waits ops j i
  | more {j k i : Nat} {o : Oper} {e : Edge} (ho : ops[j]? = some o) (he : e ∈ o.after) (hb : Region.binds .any e = true) (hk : e.on = k) (h : Waits ops k i) : Waits ops j i

theorem Waits.listed {j i : Nat} (h : Waits ops j i) : ∀ {listed : Array Bool}, (∀ j oj, ops[j]? = some oj → listed.getD j false = true → ∀ e ∈ oj.after, Region.binds .any e = true → listed.getD e.on false = true) →
    (∀ oj, ops[j]? = some oj → ∀ e ∈ oj.after, Region.binds .any e = true → listed.getD e.on false = true) → listed.getD i false = true := by
  induction h with
  | one ho he hb hi => intro listed _ hj; rw [← hi]; exact hj _ ho _ he hb
  | more ho he hb hk _ ih =>
    intro listed hc hj
    refine ih hc fun oj hoj e' he' hb' => hc _ _ hoj ?_ e' he' hb'
    rw [← hk]; exact hj _ ho _ he hb

/-- The masks of what each of the first operations waits for. -/
def maskOf (prev : List Nat) (o : Oper) : Nat :=
  o.after.toList.foldl (fun s e => if Region.binds .any e = true then s ||| 2 ^ e.on ||| prev.getD e.on 0 else s) 0

def masks : List Oper → List Nat → List Nat
  | [], prev => prev
  | o :: l, prev => masks l (prev ++ [maskOf prev o])

theorem maskOf_spec {prev : List Nat} {k : Nat} {o : Oper} (hk : ops[k]? = some o) (hp : ∀ j i, (prev.getD j 0).testBit i = true → Waits ops j i) {i : Nat} (h : (maskOf prev o).testBit i = true) : Waits ops k i := by
  unfold maskOf at h
  have aux : ∀ (l : List Edge) (s : Nat), (∀ e ∈ l, e ∈ o.after) → (∀ i, s.testBit i = true → Waits ops k i) →
      ∀ i, (l.foldl (fun s e => if Region.binds .any e = true then s ||| 2 ^ e.on ||| prev.getD e.on 0 else s) s).testBit i = true → Waits ops k i := by
    intro l
    induction l with
    | nil => intro s _ hs i hi; exact hs i hi
    | cons e l ih =>
      intro s hm hs i hi
      rw [List.foldl_cons] at hi
      refine ih _ (fun e he => hm e (List.mem_cons_of_mem _ he)) (fun i hi => ?_) i hi
      by_cases hb : Region.binds .any e = true
      · rw [if_pos hb, Nat.testBit_or, Nat.testBit_or, Bool.or_eq_true, Bool.or_eq_true] at hi
        rcases hi with (hi | hi) | hi
        · exact hs i hi
        · rw [Nat.testBit_two_pow] at hi
          exact .one hk (hm e (List.mem_cons_self ..)) hb (of_decide_eq_true hi)
        · exact .more hk (hm e (List.mem_cons_self ..)) hb rfl (hp _ _ hi)
      · rw [if_neg hb] at hi; exact hs i hi
  exact aux _ 0 (fun e he => Array.mem_toList_iff.1 he) (fun i hi => by simp at hi) i h

theorem masks_spec : ∀ (l : List Oper) (prev : List Nat), (∀ j, l[j]? = ops[prev.length + j]?) → (∀ j i, (prev.getD j 0).testBit i = true → Waits ops j i) →
    ∀ j i, ((masks l prev).getD j 0).testBit i = true → Waits ops j i
  | [], _, _, hp => hp
  | o :: l, prev, hl, hp => by
    have h0 : ops[prev.length]? = some o := by simpa using (hl 0).symm
    refine masks_spec l (prev ++ [maskOf prev o]) (fun j => by have := hl (j + 1); simpa [Nat.add_assoc, Nat.add_comm 1 j] using this) fun j i hj => ?_
    rcases Nat.lt_trichotomy j prev.length with h | h | h
    · exact hp j i (by simpa [List.getD_eq_getElem?_getD, List.getElem?_append_left h] using hj)
    · subst h
      exact maskOf_spec h0 hp (by simpa [List.getD_eq_getElem?_getD] using hj)
    · have : (prev ++ [maskOf prev o])[j]? = none := by simp; omega
      rw [List.getD_eq_getElem?_getD, this] at hj
      simp at hj

/-- Two operations, i ahead of j in the text: j waits for i, or they stand apart and not both have an effect. -/
def pairB (ops : Array Oper) (ms : List Nat) (i j : Nat) : Bool :=
  match ops[i]?, ops[j]? with
  | some oi, some oj => (ms.getD j 0).testBit i || (oi.apart ops oj && !(isEff oi && isEff oj))
  | _, _ => true

def mixB (ops : Array Oper) : Bool :=
  let ms := masks ops.toList []
  Region.noSelect ops &&
  (List.range ops.size).all fun j =>
    (match ops[j]? with | some o => o.after.all fun e => !Region.binds .any e || decide (e.on < j) | none => true) &&
    (List.range j).all fun i => pairB ops ms i j

/-! ### the walk serves every order -/
structure MixInv (ops : Array Oper) (rem : List Nat) (listed : Array Bool) : Prop where
  size : listed.size = ops.size
  rise : rem.Pairwise (· < ·)
  lt : ∀ i ∈ rem, i < ops.size
  left : ∀ i, i < ops.size → (listed.getD i true = false ↔ i ∈ rem)
  closed : ∀ j oj, ops[j]? = some oj → listed.getD j false = true → ∀ e ∈ oj.after, Region.binds .any e = true → listed.getD e.on false = true

def opersOf (ops : Array Oper) (rem : List Nat) : List Oper := rem.filterMap (ops[·]?)

theorem opersOf_append (l1 l2 : List Nat) : opersOf ops (l1 ++ l2) = opersOf ops l1 ++ opersOf ops l2 := by simp [opersOf]

theorem wpAny_of_mix {Q : Exit → Act → World → Prop} (hB : mixB ops = true) : ∀ (f : Nat) (rem : List Nat) (listed : Array Bool) (a : Act) (w : World), rem.length = f → MixInv ops rem listed → C w →
    wpMix P ops C (Q .normal) (opersOf ops rem) a w → wpAny P .any ops Q f listed a w := by
  simp only [mixB, Bool.and_eq_true, List.all_eq_true, List.mem_range] at hB
  obtain ⟨hsel, hB⟩ := hB
  have hms := masks_spec (ops := ops) ops.toList [] (by simp) (by simp)
  have hsel' := Region.noSelect_spec hsel
  intro f
  induction f
  case zero =>
    intro rem listed a w hf inv hC h
    have : rem = [] := List.eq_nil_of_length_eq_zero hf
    subst this
    refine ⟨?_, by simpa [opersOf, wpMix] using h⟩
    apply List.eq_nil_iff_forall_not_mem.2
    intro j hj
    obtain ⟨h0, o, ho, _⟩ := mem_ready.1 hj
    have := (inv.left j (Array.getElem?_eq_some_iff.1 ho).1).1 h0
    cases this
  case succ f ih =>
    intro rem listed a w hf inv hC h
    -- the first of the rest is ready
    obtain ⟨k, rest, rfl⟩ : ∃ k rest, rem = k :: rest := by
      cases rem with
      | nil => simp at hf
      | cons k rest => exact ⟨k, rest, rfl⟩
    have hkr : k ∈ Region.ready .any ops listed := by
      have hk : k < ops.size := inv.lt k (List.mem_cons_self ..)
      refine mem_ready.2 ⟨(inv.left k hk).2 (List.mem_cons_self ..), ops[k], Array.getElem?_eq_getElem hk, fun e he hb => ?_⟩
      have h1 := (hB k hk).1
      rw [Array.getElem?_eq_getElem hk] at h1
      have h2 := Array.all_eq_true_iff_forall_mem.1 h1 e he
      simp only [hb, Bool.not_true, Bool.false_or, decide_eq_true_eq] at h2
      have hne : e.on ∉ k :: rest := by
        intro hm
        rcases List.mem_cons.1 hm with hm | hm
        · omega
        · have := (List.pairwise_cons.1 inv.rise).1 _ hm; omega
      have hlt : e.on < ops.size := by omega
      have h3 : listed.getD e.on true ≠ false := fun hx => hne ((inv.left _ hlt).1 hx)
      have : e.on < listed.size := by rw [inv.size]; exact hlt
      simp [this] at h3 ⊢
      exact h3
    refine ⟨fun h0 => (by rw [h0] at hkr; cases hkr), fun i hi => ?_⟩
    obtain ⟨hun, oi, hoi, hall⟩ := mem_ready.1 hi
    have hilt : i < ops.size := (Array.getElem?_eq_some_iff.1 hoi).1
    have him : i ∈ k :: rest := (inv.left i hilt).1 hun
    obtain ⟨l1, l2, hl⟩ := List.append_of_mem him
    have hrise := inv.rise
    rw [hl] at h hf hrise
    rw [List.pairwise_append] at hrise
    -- nothing ahead of i is waited for
    have hnw : ∀ k ∈ l1, ¬ Waits ops i k := fun k hk hw => by
      have hkl := hw.listed inv.closed (fun oj hoj e he hb => by
        have : oj = oi := Option.some.inj (hoj.symm.trans hoi)
        subst this; exact hall e he hb)
      have hklt : k < ops.size := inv.lt k (by rw [hl]; simp [hk])
      have := (inv.left k hklt).2 (by rw [hl]; simp [hk])
      have hs : k < listed.size := by rw [inv.size]; exact hklt
      simp [hs] at this hkl
      rw [this] at hkl; cases hkl
    have hpair : ∀ k ∈ l1, ∀ ok, ops[k]? = some ok → ok.apart ops oi = true ∧ (isEff ok && isEff oi) = false := fun k hk ok hok => by
      have hki : k < i := hrise.2.2 k hk i (List.mem_cons_self ..)
      have h1 := (hB i hilt).2 k hki
      simp only [pairB, hok, hoi, Bool.or_eq_true, Bool.and_eq_true, Bool.not_eq_true'] at h1
      rcases h1 with h1 | h1
      · exact absurd (hms _ _ h1) (hnw k hk)
      · exact ⟨h1.1, h1.2⟩
    have hmem : ∀ o ∈ opersOf ops l1, ∃ k ∈ l1, ops[k]? = some o := fun o ho => List.mem_filterMap.1 ho
    have hap : ∀ o ∈ opersOf ops l1, o.apart ops oi = true ∧ ∀ cs b, o.op ≠ .select cs b := fun o ho => by
      obtain ⟨k, hk, hok⟩ := hmem o ho
      exact ⟨(hpair k hk o hok).1, fun cs b => hsel' k o cs b hok⟩
    have hT : wpMix P ops C (Q .normal) (opersOf ops l1 ++ oi :: opersOf ops l2) a w := by
      have : opersOf ops (l1 ++ i :: l2) = opersOf ops l1 ++ oi :: opersOf ops l2 := by
        rw [opersOf_append]; simp [opersOf, hoi]
      rw [← this]; exact h
    -- taken first
    have hS : Step1 P ops C oi (wpMix P ops C (Q .normal) (opersOf ops (l1 ++ l2))) a w := by
      rw [opersOf_append]
      cases he : isEff oi with
      | false => exact early_reader he (fun cs b => hsel' i oi cs b hoi) _ _ a w hC hap hT
      | true =>
        refine early_effect he (fun cs b => hsel' i oi cs b hoi) _ _ a w (fun o ho => ?_) hT
        obtain ⟨k, hk, hok⟩ := hmem o ho
        have h2 := (hpair k hk o hok).2
        rw [he, Bool.and_true] at h2
        exact ⟨h2, hap o ho⟩
    -- the rest
    have inv' : MixInv ops (l1 ++ l2) (listed.setIfInBounds i true) := by
      refine ⟨by simp [inv.size], ?_, fun j hj => inv.lt j (by rw [hl]; simp at hj ⊢; rcases hj with hj | hj <;> simp [hj]), fun j hj => ?_, fun j oj hoj hlj e he hb => ?_⟩
      · rw [List.pairwise_append]
        exact ⟨hrise.1, (List.pairwise_cons.1 hrise.2.1).2, fun x hx y hy => hrise.2.2 x hx y (List.mem_cons_of_mem _ hy)⟩
      · by_cases hji : i = j
        · subst hji
          have hs : i < listed.size := by rw [inv.size]; exact hj
          refine ⟨fun hx => by simp [hs] at hx, fun hx => ?_⟩
          rcases List.mem_append.1 hx with hx | hx
          · exact absurd (hrise.2.2 i hx i (List.mem_cons_self ..)) (Nat.lt_irrefl _)
          · exact absurd ((List.pairwise_cons.1 hrise.2.1).1 i hx) (Nat.lt_irrefl _)
        · rw [getD_set_ne true hji, inv.left j hj, hl]
          simp only [List.mem_append, List.mem_cons]
          constructor
          · rintro (h | h | h)
            · exact .inl h
            · exact absurd h.symm hji
            · exact .inr h
          · rintro (h | h)
            · exact .inl h
            · exact .inr (.inr h)
      · by_cases hji : i = j
        · subst hji
          have : oj = oi := Option.some.inj (hoj.symm.trans hoi)
          subst this
          exact getD_set_true (hall e he hb)
        · rw [getD_set_ne false hji] at hlj
          exact getD_set_true (inv.closed j oj hoj hlj e he hb)
    have hlen : (l1 ++ l2).length = f := by simp at hf ⊢; omega
    have next : ∀ a' w', C w' → wpMix P ops C (Q .normal) (opersOf ops (l1 ++ l2)) a' w' → wpAny P .any ops Q f (listed.setIfInBounds i true) a' w' :=
      fun a' w' hC' h' => ih _ _ a' w' hlen inv' hC' h'
    unfold wpOp
    simp only [hoi]
    unfold Step1 at hS
    by_cases hw : Region.wanted oi (yielded ops a.tmps) = true
    · rw [if_pos hw] at hS ⊢
      left
      by_cases he : isEff oi = true
      · rw [if_pos he] at hS
        refine wp_of_effAt ?_
        exact effUpon_put (fun u w' hK => next _ _ hK.1 hK.2) hS.2
      · rw [if_neg he] at hS
        obtain ⟨v, hv, hK⟩ := hS
        exact wp_of_readsAt (hv w hC) (next _ _ hC hK)
    · rw [if_neg hw] at hS ⊢
      exact next _ _ hC hS

theorem opersOf_range : opersOf ops (List.range ops.size) = ops.toList := by
  unfold opersOf
  rw [← Array.length_toList]
  have : ∀ (l : List Oper) (k : Nat) (f : Nat → Option Oper), (∀ j, l[j]? = f (k + j)) → (List.range' k l.length).filterMap f = l := by
    intro l
    induction l with
    | nil => intro k f _; rfl
    | cons o l ih =>
      intro k f h
      have h0 : f k = some o := by simpa using (h 0).symm
      rw [List.length_cons, List.range'_succ, List.filterMap_cons, h0]
      simp only
      rw [ih (k + 1) f (fun j => by have := h (j + 1); simpa [Nat.add_assoc, Nat.add_comm 1 j] using this)]
  rw [List.range_eq_range']
  exact this ops.toList 0 (fun j => ops[j]?) (fun j => by simp)

/-- A region that draws its order: walked once, in the order of the text. C: what holds all through it. -/
theorem wp_region_mix {id : Nat} {Q : Exit → Act → World → Prop} {a : Act} {w : World} {l : List Oper} (C : World → Prop) (hm : P.follows .mixedOrders = true) (hB : mixB l.toArray = true) (hC : C { w with drawn := w.drawn + 1 })
    (h : wpMix P l.toArray C (Q .normal) l a { w with drawn := w.drawn + 1 }) : (Code.region id l.toArray true).wp P Q a w := by
  refine wp_region_any hm (wpAny_of_mix (C := C) hB _ (List.range l.toArray.size) _ a _ (by simp) ?_ hC ?_)
  · refine ⟨by simp, List.pairwise_lt_range, fun i hi => List.mem_range.1 hi, fun i hi => ?_, fun j oj _ hl => ?_⟩
    · simp only [List.mem_range, hi, iff_true]
      simp at hi
      simp [hi]
    · rw [show (Array.replicate l.toArray.size false).getD j false = false from by by_cases h : j < l.length <;> simp [h]] at hl; cases hl
  · rw [opersOf_range]; exact h

end
end Go.Cob

namespace Go.Cob
open Go.RowKit
set_option linter.unusedSectionVars false
set_option linter.unusedSimpArgs false
set_option linter.unusedVariables false

/-- A world that has come out of w0: new blocks, and what S lets turn. -/
structure Ch (S : Nat → Prop) (w0 : World) where
  w : World
  os : w.os = w0.os
  tape : w.tape = w0.tape
  output : w.output = w0.output
  size : w0.heap.size ≤ w.heap.size
  same : ∀ b, b < w0.heap.size → ¬ S b → w.heap[b]? = w0.heap[b]?

abbrev NoS : Nat → Prop := fun _ => False
abbrev Ext (w0 : World) := Ch NoS w0

def Ch.refl (S : Nat → Prop) (w0 : World) : Ch S w0 := ⟨w0, rfl, rfl, rfl, Nat.le_refl _, fun _ _ _ => rfl⟩
instance (S : Nat → Prop) (w0 : World) : Nonempty (Ch S w0) := ⟨.refl S w0⟩
instance (S : Nat → Prop) (w0 : World) : Inhabited (Ch S w0) := ⟨.refl S w0⟩

/-! ### blocks -/
theorem cell_at {w : World} {b : Nat} {c : Array Value} {t : TypeId} {fr : Nat × Nat} (i : Nat) (h : w.heap[b]? = some (.cells c t fr)) : w.cell? ⟨b, i, none⟩ = c[i]? := by
  simp [World.cell?, h]
theorem frozen_at {w : World} {b : Nat} {c : Array Value} {t : TypeId} (i : Nat) (h : w.heap[b]? = some (.cells c t (0, 0))) : w.frozen? ⟨b, i, none⟩ = false := by
  simp [World.frozen?, h]
theorem lt_of_blk {w : World} {b : Nat} {o : Obj} (h : w.heap[b]? = some o) : b < w.heap.size := by
  rcases Nat.lt_or_ge b w.heap.size with h' | h'
  · exact h'
  · simp [Array.getElem?_eq_none h'] at h
theorem heap_alloc_at (w : World) (o : Obj) : (w.alloc o).heap[w.heap.size]? = some o := by
  show (w.heap.push o)[w.heap.size]? = _
  simp
theorem heap_alloc_eq {w : World} {n : Nat} (o : Obj) (h : n = w.heap.size) : (w.alloc o).heap[n]? = some o := by subst h; exact heap_alloc_at w o
theorem heap_alloc_lt {w : World} {b : Nat} (o : Obj) (h : b < w.heap.size) : (w.alloc o).heap[b]? = w.heap[b]? := by
  show (w.heap.push o)[b]? = _
  simp [Array.getElem?_push, Nat.ne_of_lt h]
theorem heap_alloc_blk {w : World} {b : Nat} {o' : Obj} (o : Obj) (h : w.heap[b]? = some o') : (w.alloc o).heap[b]? = some o' := by
  rw [heap_alloc_lt o (lt_of_blk h)]; exact h
theorem heap_set_other {w : World} {b g i : Nat} (h : g ≠ b) (v : Value) : (w.setCell ⟨b, i, none⟩ v).heap[g]? = w.heap[g]? := Below.heap_setCell w ⟨b, i, none⟩ v g h
theorem heap_set_same {w : World} {b : Nat} {c : Array Value} {t : TypeId} {fr : Nat × Nat} (h : w.heap[b]? = some (.cells c t fr)) (i : Nat) (v : Value) :
    (w.setCell ⟨b, i, none⟩ v).heap[b]? = some (.cells (c.setIfInBounds i v) t fr) := by
  simp only [World.setCell]
  rw [Array.getElem?_modify]
  simp [h]
theorem drew_heap (w : World) : w.drew.heap = w.heap := rfl

/-! ### Ch -/
section
variable {S : Nat → Prop} {w0 : World}
theorem Ch.blk (p : Ch S w0) {b : Nat} {o : Obj} (h : w0.heap[b]? = some o) (hS : ¬ S b) : p.w.heap[b]? = some o := by
  rw [p.same b (lt_of_blk h) hS]; exact h
theorem Ch.blkE {w0 : World} (p : Ext w0) {b : Nat} {o : Obj} (h : w0.heap[b]? = some o) : p.w.heap[b]? = some o := p.blk h id
theorem Ch.lt (p : Ch S w0) {b : Nat} (h : b < w0.heap.size) : b < p.w.heap.size := Nat.lt_of_lt_of_le h p.size
/-- One step more: what turns is of S, or was not there at first. -/
def Ch.then (p : Ch S w0) {T : Nat → Prop} (q : Ch T p.w) (h : ∀ b, b < w0.heap.size → T b → S b) : Ch S w0 :=
  ⟨q.w, q.os.trans p.os, q.tape.trans p.tape, q.output.trans p.output, Nat.le_trans p.size q.size, fun b hb hS => by
    rw [q.same b (p.lt hb) (fun hT => hS (h b hb hT)), p.same b hb hS]⟩
def Ch.onto {W : World} (p : Ch S w0) (e : W = p.w) {T : Nat → Prop} (q : Ch T W) (h : ∀ b, b < w0.heap.size → T b → S b) : Ch S w0 :=
  ⟨q.w, by rw [q.os, e, p.os], by rw [q.tape, e, p.tape], by rw [q.output, e, p.output], Nat.le_trans p.size (e ▸ q.size), fun b hb hS => by
    rw [q.same b (e ▸ p.lt hb) (fun hT => hS (h b hb hT)), e, p.same b hb hS]⟩
@[simp] theorem Ch.onto_w {W : World} (p : Ch S w0) (e : W = p.w) {T : Nat → Prop} (q : Ch T W) (h : ∀ b, b < w0.heap.size → T b → S b) : (p.onto e q h).w = q.w := rfl
def Ch.thenE (p : Ch S w0) (q : Ext p.w) : Ch S w0 := p.then q (fun _ _ h => h.elim)
def Ch.alloc (p : Ch S w0) (o : Obj) : Ch S w0 :=
  ⟨p.w.alloc o, p.os, p.tape, p.output, by have := p.size; simp; omega, fun b hb hS => by rw [heap_alloc_lt o (p.lt hb)]; exact p.same b hb hS⟩
def Ch.drew (p : Ch S w0) : Ch S w0 := ⟨p.w.drew, p.os, p.tape, p.output, p.size, p.same⟩
def Ch.set (p : Ch S w0) (b i : Nat) (v : Value) (h : b < w0.heap.size → S b) : Ch S w0 :=
  ⟨p.w.setCell ⟨b, i, none⟩ v, p.os, p.tape, p.output, by have := p.size; simp; omega, fun g hg hS => by
    by_cases e : g = b
    · subst e; exact absurd (h hg) hS
    · rw [heap_set_other e]; exact p.same g hg hS⟩
def Ch.mono {T : Nat → Prop} (p : Ch S w0) (h : ∀ b, b < w0.heap.size → S b → T b) : Ch T w0 :=
  ⟨p.w, p.os, p.tape, p.output, p.size, fun b hb hT => p.same b hb (fun hS => hT (h b hb hS))⟩
def Ch.up (T : Nat → Prop) (p : Ext w0) : Ch T w0 := p.mono (fun _ _ h => h.elim)
@[simp] theorem Ch.up_w (T : Nat → Prop) (p : Ext w0) : (p.up T).w = p.w := rfl
theorem Ch.below (p : Ext w0) : Below w0.heap.size w0 p.w := ⟨p.os, p.tape, p.output, p.size, fun b hb => p.same b hb id⟩
def Ch.ofBelow {w : World} (h : Below w0.heap.size w0 w) : Ext w0 := ⟨w, h.os, h.tape, h.output, h.size, fun b hb _ => h.block b hb⟩
@[simp] theorem Ch.then_w (p : Ch S w0) {T : Nat → Prop} (q : Ch T p.w) (h : ∀ b, b < w0.heap.size → T b → S b) : (p.then q h).w = q.w := rfl
@[simp] theorem Ch.thenE_w (p : Ch S w0) (q : Ext p.w) : (p.thenE q).w = q.w := rfl
@[simp] theorem Ch.alloc_w (p : Ch S w0) (o : Obj) : (p.alloc o).w = p.w.alloc o := rfl
@[simp] theorem Ch.set_w (p : Ch S w0) (b i : Nat) (v : Value) (h : b < w0.heap.size → S b) : (p.set b i v h).w = p.w.setCell ⟨b, i, none⟩ v := rfl
@[simp] theorem Ch.mono_w {T : Nat → Prop} (p : Ch S w0) (h : ∀ b, b < w0.heap.size → S b → T b) : (p.mono h).w = p.w := rfl
@[simp] theorem Ch.refl_w : (Ch.refl S w0).w = w0 := rfl
end

/-! ### a region that draws its order -/
theorem wpMix_step {P : Program} {ops : Array Oper} {C : World → Prop} {Q : Act → World → Prop} {o : Oper} {rest : List Oper} {a : Act} {w : World}
    (h : ∀ K : Act → World → Prop, (∀ a w, wpMix P ops C Q rest a w → K a w) →
      if Region.wanted o (yielded ops a.tmps) = true then
        if isEff o = true then effAt P o a w (fun a' w' => C w' ∧ K a' w') else ∃ v, (∀ w', C w' → readsAt P o a w' v) ∧ K (a.put o.dst v) w
      else K (a.put o.dst undef) w) : wpMix P ops C Q (o :: rest) a w := by
  have := h _ fun _ _ h => h
  unfold wpMix
  refine ⟨trivial, ?_⟩
  split
  · rename_i hw; rw [if_pos hw] at this; split
    · rename_i he; rw [if_pos he] at this; exact ⟨trivial, this⟩
    · rename_i he; rw [if_neg he] at this; exact this
  · rename_i hw; rw [if_neg hw] at this; exact this
theorem wpMix_nil {P : Program} {ops : Array Oper} {C : World → Prop} {Q : Act → World → Prop} {a : Act} {w : World} (h : Q a w) : wpMix P ops C Q [] a w := h

theorem wpMix_skip {P : Program} {ops : Array Oper} {C : World → Prop} {Q : Act → World → Prop} {o : Oper} {rest : List Oper} {a : Act} {w : World}
    (hw : Region.wanted o (yielded ops a.tmps) = false) (he : a.put o.dst undef = a) (h : wpMix P ops C Q rest a w) : wpMix P ops C Q (o :: rest) a w := by
  unfold wpMix
  refine ⟨trivial, ?_⟩
  rw [if_neg (by simp [hw]), he]
  exact h

/-- The class of a region: what has come out of w. -/
theorem wp_region_ch {P : Program} {id : Nat} {Q : Exit → Act → World → Prop} {a : Act} {w : World} {l : List Oper} (S : Nat → Prop) (hm : P.follows .mixedOrders = true) (hB : mixB l.toArray = true)
    (h : ∀ p : Ch S w, p.w.heap = w.heap → wpMix P l.toArray (fun w' => ∃ p : Ch S w, w' = p.w) (Q .normal) l a p.w) : (Code.region id l.toArray true).wp P Q a w :=
  wp_region_mix (C := fun w' => ∃ p : Ch S w, w' = p.w) hm hB ⟨⟨{ w with drawn := w.drawn + 1 }, rfl, rfl, rfl, Nat.le_refl _, fun _ _ _ => rfl⟩, rfl⟩ (h ⟨{ w with drawn := w.drawn + 1 }, rfl, rfl, rfl, Nat.le_refl _, fun _ _ _ => rfl⟩ rfl)

attribute [go_sem] isEff

/-! ### rows of the program's own -/
theorem rowKeep {w w' : World} {base e size n : Nat} {v : Value} {xs : List Value} (h : w.ownsRow base e size v n xs) (he : ∀ g, v.ownBlock = some g → w'.heap[g]? = w.heap[g]?) : w'.ownsRow base e size v n xs := by
  obtain ⟨h1, h2⟩ := h
  refine ⟨h1, ?_⟩
  rcases h2 with h2 | ⟨g, cap, cur, hv, hg, hh, r⟩
  · exact .inl h2
  · exact .inr ⟨g, cap, cur, hv, hg, by rw [he g (by rw [hv]; rfl)]; exact hh, r⟩
theorem rowPop {w : World} {base e g n cap : Nat} {xs : List Value} {x : Value} (h : w.ownsRow base e 1 (.slice (some ⟨g, 0, none⟩) (n + 1) cap) (n + 1) (xs ++ [x])) : w.ownsRow base e 1 (.slice (some ⟨g, 0, none⟩) n cap) n xs := by
  obtain ⟨h1, h2 | ⟨g', cap', cur, hv, hg, hh, r1, r2, r3, r4⟩⟩ := h
  · exact absurd h2.1 (by simp)
  · simp only [Value.slice.injEq, Option.some.injEq, Addr.mk.injEq, and_true] at hv
    obtain ⟨rfl, _, rfl⟩ := hv
    have hx : xs.length = n := by simpa using h1
    refine ⟨by simpa using hx, .inr ⟨g, cap, cur, rfl, hg, hh, by omega, r2, r3, ?_⟩⟩
    have : (cur.toList.take ((n + 1) * 1)).take n = xs := by rw [r4, ← hx]; simp
    rw [List.take_take] at this
    simpa using this
theorem rowBlk {w : World} {base e size n : Nat} {v : Value} {xs : List Value} (h : w.ownsRow base e size v n xs) {g : Nat} (hg : v.ownBlock = some g) : ∃ cur, w.heap[g]? = some (.cells cur e (0, 0)) := by
  obtain ⟨_, h2 | ⟨g', cap', cur, hv, _, hh, _⟩⟩ := h
  · rw [h2.1] at hg; cases hg
  · rw [hv] at hg; injection hg with hg; simp at hg; subst hg; exact ⟨cur, hh⟩
/-- Two blocks of cells of different types are two. -/
theorem blkNe {w : World} {b g : Nat} {c c' : Array Value} {t t' : TypeId} {fr fr' : Nat × Nat} (h : w.heap[b]? = some (.cells c t fr)) (h' : w.heap[g]? = some (.cells c' t' fr')) (ht : t ≠ t') : b ≠ g := by
  rintro rfl
  rw [h] at h'
  injection h' with h'
  injection h' with _ h2
  exact ht h2

/-! ### maps -/
/-- How a type's values serve as keys. -/
structure KeyLaw {α : Type} [DecidableEq α] (P : Program) (kt : TypeId) (encK : α → Value) : Prop where
  check : ∀ (e : Bool) (k : α) (w : World), (Instr.checkKey e 10000 kt (encK k)).run P w = .ok () w
  find : ∀ (k : α) (es : List MapEntry) (ks : List α) (w : World), es.map (·.key) = ks.map encK →
    (Instr.findKey kt (encK k) es).run P w = .ok ((ks.findIdx? (· = k)).map fun i => (i, (es.map (·.val)).getD i undef)) w
  bits : ∀ k : α, Instr.sameBits 10000 (encK k) (encK k) = true

section
variable {α β : Type} [DecidableEq α] {P : Program} {kt vt : TypeId} {encK : α → Value} {encV : β → Value}

/-- The entries of a map's block. -/
def ents (encK : α → Value) (encV : β → Value) : List (α × β) → List Nat → List MapEntry
  | (k, v) :: l, b :: bs => { key := encK k, val := encV v, born := b } :: ents encK encV l bs
  | _, _ => []

/-- Block m is a map with just the entries l, in the order in which they were laid. -/
def MapAt (encK : α → Value) (encV : β → Value) (w : World) (m : Nat) (l : List (α × β)) : Prop :=
  ∃ bs c, w.heap[m]? = some (.map (ents encK encV l bs).toArray c) ∧ bs.length = l.length ∧ bs.Pairwise (· < ·) ∧ ∀ b ∈ bs, b < c

theorem ents_keys : ∀ (l : List (α × β)) (bs : List Nat), bs.length = l.length → (ents encK encV l bs).map (·.key) = (l.map (·.1)).map encK
  | [], [], _ => rfl
  | (k, v) :: l, b :: bs, h => by simp only [ents, List.map_cons]; rw [ents_keys l bs (by simpa using h)]
theorem ents_vals : ∀ (l : List (α × β)) (bs : List Nat), bs.length = l.length → (ents encK encV l bs).map (·.val) = l.map fun p => encV p.2
  | [], [], _ => rfl
  | (k, v) :: l, b :: bs, h => by simp only [ents, List.map_cons]; rw [ents_vals l bs (by simpa using h)]
theorem ents_length : ∀ (l : List (α × β)) (bs : List Nat), bs.length = l.length → (ents encK encV l bs).length = l.length
  | [], [], _ => rfl
  | (k, v) :: l, b :: bs, h => by simp only [ents, List.length_cons]; rw [ents_length l bs (by simpa using h)]

/-- The value at a key. -/
def aget (l : List (α × β)) (k : α) : Option β := (l.find? (fun p => p.1 = k)).map (·.2)
/-- The list with a key's value set, behind, if it wasn't there. -/
def aput : List (α × β) → α → β → List (α × β)
  | [], k, v => [(k, v)]
  | p :: l, k, v => if p.1 = k then (k, v) :: l else p :: aput l k v
/-- The list without a key. -/
def adel : List (α × β) → α → List (α × β)
  | [], _ => []
  | p :: l, k => if p.1 = k then l else p :: adel l k

theorem MapAt.made (w : World) : MapAt encK encV (w.alloc (.map #[] 0)) w.heap.size ([] : List (α × β)) :=
  ⟨[], 0, heap_alloc_at _ _, rfl, .nil, by simp⟩
theorem MapAt.made' {w : World} {n : Nat} (h : n = w.heap.size) : MapAt encK encV (w.alloc (.map #[] 0)) n ([] : List (α × β)) := by
  subst h; exact ⟨[], 0, heap_alloc_at _ _, rfl, .nil, by simp⟩
theorem MapAt.keep {w w' : World} {m : Nat} {l : List (α × β)} (h : MapAt encK encV w m l) (e : w'.heap[m]? = w.heap[m]?) : MapAt encK encV w' m l := by
  obtain ⟨bs, c, h1, h2⟩ := h
  exact ⟨bs, c, e.trans h1, h2⟩
theorem MapAt.ne_cells {w : World} {m b : Nat} {l : List (α × β)} {c : Array Value} {t : TypeId} {fr : Nat × Nat} (h : MapAt encK encV w m l) (hb : w.heap[b]? = some (.cells c t fr)) : m ≠ b := by
  rintro rfl
  obtain ⟨bs, cl, h1, _⟩ := h
  rw [h1] at hb
  cases hb
theorem MapAt.lt {w : World} {m : Nat} {l : List (α × β)} (h : MapAt encK encV w m l) : m < w.heap.size := by
  obtain ⟨bs, c, h1, _⟩ := h
  exact lt_of_blk h1

theorem find_cases (l : List (α × β)) (k : α) :
    ((l.map (·.1)).findIdx? (· = k) = none ∧ aget l k = none ∧ adel l k = l ∧ ∀ v, aput l k v = l ++ [(k, v)]) ∨
    ∃ l1 v l2, l = l1 ++ (k, v) :: l2 ∧ (l.map (·.1)).findIdx? (· = k) = some l1.length ∧ aget l k = some v ∧ adel l k = l1 ++ l2 ∧ ∀ v', aput l k v' = l1 ++ (k, v') :: l2 := by
  induction l with
  | nil => exact .inl ⟨rfl, rfl, rfl, fun _ => rfl⟩
  | cons p l ih =>
    by_cases h : p.1 = k
    · right
      refine ⟨[], p.2, l, by rw [← h]; rfl, by simp [List.findIdx?_cons, h], by simp [aget, h], by simp [adel, h], fun v' => by simp [aput, h]⟩
    · rcases ih with ⟨h1, h2, h3, h4⟩ | ⟨l1, v, l2, h1, h2, h3, h4, h5⟩
      · left
        refine ⟨by simp only [List.map_cons, List.findIdx?_cons, h, decide_false, h1]; rfl, ?_, by simp [adel, h, h3], fun v => by simp [aput, h, h4]⟩
        simp only [aget, List.find?_cons, h, decide_false] at h2 ⊢
        exact h2
      · right
        refine ⟨p :: l1, v, l2, by rw [h1]; rfl, ?_, ?_, by simp [adel, h, h4], fun v' => by simp [aput, h, h5]⟩
        · simp only [List.map_cons, List.findIdx?_cons, h, decide_false, h2]; rfl
        · simp only [aget, List.find?_cons, h, decide_false] at h3 ⊢
          exact h3

theorem ents_append : ∀ (l1 l2 : List (α × β)) (b1 b2 : List Nat), b1.length = l1.length → ents encK encV (l1 ++ l2) (b1 ++ b2) = ents encK encV l1 b1 ++ ents encK encV l2 b2
  | [], l2, [], b2, _ => rfl
  | (k, v) :: l1, l2, b :: b1, b2, h => by simp only [List.cons_append, ents]; rw [ents_append l1 l2 b1 b2 (by simpa using h)]

theorem run_getObj_map' {w : World} {m : Nat} {es : Array MapEntry} {c : Nat} (h : w.heap[m]? = some (.map es c)) : (getObj m).run P w = .ok (.map es c) w := by
  simp [getObj, Sem.run, h]
/-- The world with block m's object turned. -/
def putO (w : World) (m : Nat) (o : Obj) : World := { w with heap := w.heap.setIfInBounds m o }
theorem run_setObj_map' {w : World} {m : Nat} {es : Array MapEntry} {c : Nat} (o : Obj) (h : w.heap[m]? = some (.map es c)) : (setObj m o).run P w = .ok () (putO w m o) := by
  simp [setObj, Sem.run, h, putO]
theorem putO_at {w : World} {m : Nat} (o : Obj) (h : m < w.heap.size) : (putO w m o).heap[m]? = some o := by
  show (w.heap.setIfInBounds m o)[m]? = _
  simp [h]
theorem putO_other {w : World} {m g : Nat} (o : Obj) (h : g ≠ m) : (putO w m o).heap[g]? = w.heap[g]? := by
  show (w.heap.setIfInBounds m o)[g]? = _
  rw [Array.getElem?_setIfInBounds_ne (Ne.symm h)]
theorem putO_size {w : World} {m : Nat} (o : Obj) : (putO w m o).heap.size = w.heap.size := by simp [putO]
@[go_sem] theorem cell?_putO {w : World} {m b i : Nat} (o : Obj) (h : b ≠ m) : (putO w m o).cell? ⟨b, i, none⟩ = w.cell? ⟨b, i, none⟩ := by
  simp only [World.cell?, putO_other o h]
@[go_sem] theorem frozen?_putO {w : World} {m b i : Nat} (o : Obj) (h : b ≠ m) : (putO w m o).frozen? ⟨b, i, none⟩ = w.frozen? ⟨b, i, none⟩ := by
  simp only [World.frozen?, putO_other o h]
@[go_sem] theorem size_putO {w : World} {m : Nat} (o : Obj) : (putO w m o).heap.size = w.heap.size := putO_size o
def Ch.putO {S : Nat → Prop} {w0 : World} (p : Ch S w0) (m : Nat) (o : Obj) (h : m < w0.heap.size → S m) : Ch S w0 :=
  ⟨Cob.putO p.w m o, p.os, p.tape, p.output, by rw [putO_size]; exact p.size, fun g hg hS => by
    by_cases e : g = m
    · subst e; exact absurd (h hg) hS
    · rw [putO_other o e]; exact p.same g hg hS⟩

@[simp] theorem Ch.putO_w {S : Nat → Prop} {w0 : World} (p : Ch S w0) (m : Nat) (o : Obj) (h : m < w0.heap.size → S m) : (p.putO m o h).w = Cob.putO p.w m o := rfl

theorem bs_split {l1 l2 : List (α × β)} {x : α × β} {bs : List Nat} (h : bs.length = (l1 ++ x :: l2).length) : ∃ b1 b b2, bs = b1 ++ b :: b2 ∧ b1.length = l1.length ∧ b2.length = l2.length := by
  refine ⟨bs.take l1.length, bs.getD l1.length 0, bs.drop (l1.length + 1), ?_, by simp at h ⊢; omega, by simp at h ⊢; omega⟩
  have hl : l1.length < bs.length := by simp at h; omega
  rw [List.getD_eq_getElem?_getD, List.getElem?_eq_getElem hl, Option.getD_some, List.getElem_cons_drop, List.take_append_drop]

theorem MapAt.lookBoth {w : World} {m : Nat} {l : List (α × β)} {t : TypeId} (h : MapAt encK encV w m l) (K : KeyLaw P kt encK) (ht : P.underlying t = some (.map kt vt)) {z : Value} (hz : ∀ w, (zeroValue vt).run P w = .ok z w) (k : α) (c : Bool) :
    (Instr.lookup t (.map (some m)) (encK k) c).run P w = .ok (if c then .tuple #[(aget l k).elim z encV, .bool (aget l k).isSome] else (aget l k).elim z encV) w := by
  obtain ⟨bs, cl, h1, h2, h3, h4⟩ := h
  have hf := K.find k (ents encK encV l bs) (l.map (·.1)) w (ents_keys l bs h2)
  rw [ents_vals l bs h2] at hf
  rcases find_cases l k with ⟨e1, e2, -, -⟩ | ⟨l1, v, l2, e0, e1, e2, -, -⟩
  · rw [e1] at hf
    rw [e2]
    simp [Instr.lookup, run_underlying ht, run_getObj_map' h1, K.check, hf, hz]
  · rw [e1] at hf
    rw [e2]
    have hv : (l.map fun p => encV p.2).getD l1.length undef = encV v := by rw [e0]; simp
    rw [Option.map_some, hv] at hf
    simp [Instr.lookup, run_underlying ht, run_getObj_map' h1, K.check, hf]

theorem MapAt.look {w : World} {m : Nat} {l : List (α × β)} {t : TypeId} (h : MapAt encK encV w m l) (K : KeyLaw P kt encK) (ht : P.underlying t = some (.map kt vt)) {z : Value} (hz : ∀ w, (zeroValue vt).run P w = .ok z w) (k : α) :
    (Instr.lookup t (.map (some m)) (encK k) false).run P w = .ok ((aget l k).elim z encV) w := h.lookBoth K ht hz k false
theorem MapAt.lookOk {w : World} {m : Nat} {l : List (α × β)} {t : TypeId} (h : MapAt encK encV w m l) (K : KeyLaw P kt encK) (ht : P.underlying t = some (.map kt vt)) {z : Value} (hz : ∀ w, (zeroValue vt).run P w = .ok z w) (k : α) :
    (Instr.lookup t (.map (some m)) (encK k) true).run P w = .ok (.tuple #[(aget l k).elim z encV, .bool (aget l k).isSome]) w := h.lookBoth K ht hz k true

theorem MapAt.put {w : World} {m : Nat} {l : List (α × β)} {t : TypeId} (h : MapAt encK encV w m l) (K : KeyLaw P kt encK) (ht : P.underlying t = some (.map kt vt)) (k : α) (v : β) :
    ∃ o, (Instr.mapUpdate t (.map (some m)) (encK k) (encV v)).run P w = .ok () (putO w m o) ∧ MapAt encK encV (putO w m o) m (aput l k v) := by
  have hm := h.lt
  obtain ⟨bs, cl, h1, h2, h3, h4⟩ := h
  have hf := K.find k (ents encK encV l bs) (l.map (·.1)) w (ents_keys l bs h2)
  rw [ents_vals l bs h2] at hf
  rcases find_cases l k with ⟨e1, -, -, e2⟩ | ⟨l1, v0, l2, e0, e1, -, -, e2⟩
  · rw [e1] at hf
    refine ⟨.map ((ents encK encV l bs).toArray.push { key := encK k, val := encV v, born := cl }) (cl + 1), ?_, ?_⟩
    · simp [Instr.mapUpdate, run_underlying ht, run_getObj_map' h1, K.check, hf, run_setObj_map' _ h1]
    · rw [e2 v]
      refine ⟨bs ++ [cl], cl + 1, ?_, by simp [h2], ?_, ?_⟩
      · rw [putO_at _ hm, ents_append l [(k, v)] bs [cl] h2]; simp [ents]
      · rw [List.pairwise_append]; exact ⟨h3, by simp, fun a ha b hb => by simp at hb; subst hb; exact h4 a ha⟩
      · intro b hb; simp at hb; rcases hb with hb | hb
        · have := h4 b hb; omega
        · omega
  · rw [e1] at hf
    subst e0
    obtain ⟨b1, b, b2, rfl, hb1, hb2⟩ := bs_split h2
    have hs : ents encK encV (l1 ++ (k, v0) :: l2) (b1 ++ b :: b2) = ents encK encV l1 b1 ++ { key := encK k, val := encV v0, born := b } :: ents encK encV l2 b2 := by rw [ents_append _ _ _ _ hb1]; rfl
    have hl1 := ents_length (encK := encK) (encV := encV) l1 b1 hb1
    have hkey : ((ents encK encV (l1 ++ (k, v0) :: l2) (b1 ++ b :: b2))[l1.length]?).map (·.key) = some (encK k) := by rw [hs]; simp [hl1]
    refine ⟨.map ((ents encK encV (l1 ++ (k, v0) :: l2) (b1 ++ b :: b2)).toArray.modify l1.length fun e => { e with key := encK k, val := encV v }) cl, ?_, ?_⟩
    · have hks : ∀ w, (Instr.keyThatStays (encK k) (encK k)).run P w = .ok (encK k) w := fun w => by simp [Instr.keyThatStays, K.bits]
      simp only [Option.map_some] at hf
      simp [Instr.mapUpdate, run_underlying ht, run_getObj_map' h1, K.check, hf, hkey, hks, run_setObj_map' _ h1]
    · rw [e2 v]
      refine ⟨b1 ++ b :: b2, cl, ?_, by simpa using h2, h3, h4⟩
      rw [putO_at _ hm, hs, ents_append l1 ((k, v) :: l2) b1 (b :: b2) hb1]
      simp only [ents]
      congr 1
      congr 1
      apply Array.ext'
      simp only [Array.toList_modify]
      have hmod : ∀ (A : List MapEntry) (x : MapEntry) (B : List MapEntry) (f : MapEntry → MapEntry), (A ++ x :: B).modify A.length f = A ++ f x :: B := by
        intro A x B f
        induction A with
        | nil => rfl
        | cons a A ih => simp [ih]
      rw [← hl1, hmod]

theorem MapAt.del {w : World} {m : Nat} {l : List (α × β)} {t ty : TypeId} (h : MapAt encK encV w m l) (K : KeyLaw P kt encK) (ht : P.underlying t = some (.map kt vt)) (k : α) (ats : Array TypeId) (hat : ats[0]? = some t) :
    ∃ o, (Builtin.delete_ ats ty #[.map (some m), encK k]).run P w = .ok (.tuple #[]) (putO w m o) ∧ MapAt encK encV (putO w m o) m (adel l k) := by
  have hm := h.lt
  obtain ⟨bs, cl, h1, h2, h3, h4⟩ := h
  have hf := K.find k (ents encK encV l bs) (l.map (·.1)) w (ents_keys l bs h2)
  rw [ents_vals l bs h2] at hf
  rcases find_cases l k with ⟨e1, -, e2, -⟩ | ⟨l1, v0, l2, e0, e1, -, e2, -⟩
  · rw [e1] at hf
    refine ⟨.map (ents encK encV l bs).toArray cl, ?_, ?_⟩
    · simp [Builtin.delete_, hat, run_underlying ht, run_getObj_map' h1, K.check, hf, run_setObj_map' _ h1]
    · rw [e2]
      exact ⟨bs, cl, putO_at _ hm, h2, h3, h4⟩
  · rw [e1] at hf
    subst e0
    obtain ⟨b1, b, b2, rfl, hb1, hb2⟩ := bs_split h2
    have hs : ents encK encV (l1 ++ (k, v0) :: l2) (b1 ++ b :: b2) = ents encK encV l1 b1 ++ { key := encK k, val := encV v0, born := b } :: ents encK encV l2 b2 := by rw [ents_append _ _ _ _ hb1]; rfl
    have hl1 := ents_length (encK := encK) (encV := encV) l1 b1 hb1
    refine ⟨.map ((ents encK encV (l1 ++ (k, v0) :: l2) (b1 ++ b :: b2)).toArray.eraseIdxIfInBounds l1.length) cl, ?_, ?_⟩
    · simp only [Option.map_some] at hf
      simp [Builtin.delete_, hat, run_underlying ht, run_getObj_map' h1, K.check, hf, run_setObj_map' _ h1]
    · rw [e2]
      refine ⟨b1 ++ b2, cl, ?_, by simp [hb1, hb2], ?_, fun x hx => h4 x (by simp at hx ⊢; rcases hx with hx | hx <;> simp [hx])⟩
      · rw [putO_at _ hm, hs, ents_append l1 l2 b1 b2 hb1]
        congr 2
        simp [Array.eraseIdxIfInBounds, hl1]
        rw [List.eraseIdx_append_of_length_le (by omega)]
        simp [hl1]
      · rw [List.pairwise_append] at h3 ⊢
        exact ⟨h3.1, (List.pairwise_cons.1 h3.2.1).2, fun x hx y hy => h3.2.2 x hx y (List.mem_cons_of_mem _ hy)⟩

/-! ### maps at an operation -/
theorem wpList_look {w : World} {ops : Array Oper} {rest : List Oper} {o : Oper} {a : Act} {Q : Exit → Act → World → Prop} {b : Nat} {l : List (α × β)} {t : TypeId} {z v : Value} {k : α} {c : Bool} (hg : o.guard = none) (m x : Operand)
    (hop : o.op = .lookup t m x c) (K : KeyLaw P kt encK) (ht : P.underlying t = some (.map kt vt)) (hz : ∀ w, (zeroValue vt).run P w = .ok z w) (hm : a.eval m = .map (some b)) (hx : a.eval x = encK k)
    (h : MapAt encK encV w b l) (hv : (aget l k).elim z encV = v) (hK : wpList P ops Q rest (a.put o.dst (if c then .tuple #[v, .bool (aget l k).isSome] else v)) w) :
    wpList P ops Q (o :: rest) a w := by
  subst hv
  refine wpList_plain hg fun K' hK' => ?_
  have hr := h.lookBoth K ht hz k c
  unfold Oper.wp
  simp [execOp, hop, hm, hx, hr, Result.andThen]
  exact hK' _ _ hK
theorem wpList_put {w : World} {ops : Array Oper} {rest : List Oper} {o : Oper} {a : Act} {Q : Exit → Act → World → Prop} {b : Nat} {l : List (α × β)} {t : TypeId} {k : α} {u : β} (hg : o.guard = none) (m x v : Operand)
    (hop : o.op = .mapUpdate t m x v) (K : KeyLaw P kt encK) (ht : P.underlying t = some (.map kt vt)) (hm : a.eval m = .map (some b)) (hx : a.eval x = encK k) (hv : a.eval v = encV u)
    (h : MapAt encK encV w b l) (hK : ∀ ob, MapAt encK encV (putO w b ob) b (aput l k u) → wpList P ops Q rest (a.put o.dst undef) (putO w b ob)) :
    wpList P ops Q (o :: rest) a w := by
  refine wpList_plain hg fun K' hK' => ?_
  obtain ⟨ob, hr, h'⟩ := h.put K ht k u
  unfold Oper.wp
  simp [execOp, hop, hm, hx, hv, hr, Result.andThen]
  exact hK' _ _ (hK ob h')
theorem wpMix_look {w : World} {C : World → Prop} {ops : Array Oper} {rest : List Oper} {o : Oper} {a : Act} {Q : Act → World → Prop} {b : Nat} {l : List (α × β)} {t : TypeId} {z v : Value} {k : α} {c : Bool} (hg : Region.wanted o (yielded ops a.tmps) = true) (m x : Operand)
    (hop : o.op = .lookup t m x c) (K : KeyLaw P kt encK) (ht : P.underlying t = some (.map kt vt)) (hz : ∀ w, (zeroValue vt).run P w = .ok z w) (hm : a.eval m = .map (some b)) (hx : a.eval x = encK k)
    (h : ∀ w', C w' → MapAt encK encV w' b l) (hv : (aget l k).elim z encV = v) (hK : wpMix P ops C Q rest (a.put o.dst (if c then .tuple #[v, .bool (aget l k).isSome] else v)) w) :
    wpMix P ops C Q (o :: rest) a w := by
  subst hv
  unfold wpMix
  refine ⟨trivial, ?_⟩
  rw [if_pos hg, if_neg (by simp [isEff, hop])]
  refine ⟨_, fun w' hw' => ?_, hK⟩
  have hr := (h w' hw').lookBoth K ht hz k c
  unfold readsAt
  simp [execOp, hop, hm, hx, hr, Result.andThen, readsUpon]
theorem wpMix_put {w : World} {C : World → Prop} {ops : Array Oper} {rest : List Oper} {o : Oper} {a : Act} {Q : Act → World → Prop} {b : Nat} {l : List (α × β)} {t : TypeId} {k : α} {u : β} (hg : Region.wanted o (yielded ops a.tmps) = true) (m x v : Operand)
    (hop : o.op = .mapUpdate t m x v) (K : KeyLaw P kt encK) (ht : P.underlying t = some (.map kt vt)) (hm : a.eval m = .map (some b)) (hx : a.eval x = encK k) (hv : a.eval v = encV u)
    (h : MapAt encK encV w b l) (hK : ∀ ob, MapAt encK encV (putO w b ob) b (aput l k u) → C (putO w b ob) ∧ wpMix P ops C Q rest (a.put o.dst undef) (putO w b ob)) :
    wpMix P ops C Q (o :: rest) a w := by
  obtain ⟨ob, hr, h'⟩ := h.put K ht k u
  unfold wpMix
  refine ⟨trivial, ?_⟩
  rw [if_pos hg, if_pos (by simp [isEff, hop])]
  refine ⟨trivial, ?_⟩
  unfold effAt
  simp [execOp, hop, hm, hx, hv, hr, Result.andThen, effUpon]
  exact hK ob h'
end
end Go.Cob

namespace Go.Cob
open Go
set_option linter.unusedVariables false
section
variable {P : Program} {ops : Array Oper} {C : World → Prop}

/-- Does the last operation wait for all the others? -/
def lateB (ops : Array Oper) : Bool := (List.range (ops.size - 1)).all fun i => ((masks ops.toList []).getD (ops.size - 1) 0).testBit i

theorem lateB_spec (h : lateB ops = true) {i n : Nat} (hn : ops.size = n + 1) (hi : i < n) : Waits ops n i := by
  unfold lateB at h
  rw [List.all_eq_true] at h
  have h1 := h i (List.mem_range.2 (by omega))
  rw [hn] at h1
  exact masks_spec (ops := ops) ops.toList [] (by simp) (by simp) _ _ h1

/-- The last operation's own step. -/
def LastStep (P : Program) (ops : Array Oper) (o : Oper) (K : Act → World → Prop) (a : Act) (w : World) : Prop :=
  if Region.wanted o (yielded ops a.tmps) = true then
    if isEff o = true then effAt P o a w K else ∃ v, readsAt P o a w v ∧ K (a.put o.dst v) w
  else K (a.put o.dst undef) w

theorem wpAny_of_late {Q : Exit → Act → World → Prop} (hB : mixB ops = true) (n : Nat) (ol : Oper) (hn : ops.size = n + 1) (hol : ops[n]? = some ol) (hlate : lateB ops = true) : ∀ (f : Nat) (rem : List Nat) (listed : Array Bool) (a : Act) (w : World), rem.length = f → MixInv ops (rem ++ [n]) listed → C w →
    wpMix P ops C (LastStep P ops ol (Q .normal)) (opersOf ops rem) a w → wpAny P .any ops Q (f + 1) listed a w := by
  simp only [mixB, Bool.and_eq_true, List.all_eq_true, List.mem_range] at hB
  obtain ⟨hsel, hB⟩ := hB
  have hms := masks_spec (ops := ops) ops.toList [] (by simp) (by simp)
  have hsel' := Region.noSelect_spec hsel
  intro f
  induction f
  case zero =>
    intro rem listed a w hf inv hC h
    have : rem = [] := List.eq_nil_of_length_eq_zero hf
    subst this
    have hun : listed.getD n true = false := (inv.left n (by omega)).2 (by simp)
    have hready : n ∈ Region.ready .any ops listed := by
      refine mem_ready.2 ⟨hun, ol, hol, fun e he hb => ?_⟩
      have h1 := (hB n (by omega)).1
      rw [hol] at h1
      have h2 := Array.all_eq_true_iff_forall_mem.1 h1 e he
      simp only [hb, Bool.not_true, Bool.false_or, decide_eq_true_eq] at h2
      have hlt : e.on < ops.size := by omega
      have h3 : listed.getD e.on true ≠ false := fun hx => by have := (inv.left _ hlt).1 hx; simp at this; omega
      have : e.on < listed.size := by rw [inv.size]; exact hlt
      simp [this] at h3 ⊢
      exact h3
    refine ⟨fun h0 => (by rw [h0] at hready; cases hready), fun i hi => ?_⟩
    obtain ⟨hui, oi, hoi, hall⟩ := mem_ready.1 hi
    have hilt : i < ops.size := (Array.getElem?_eq_some_iff.1 hoi).1
    have hin : i = n := by have := (inv.left i hilt).1 hui; simpa using this
    subst hin
    have : oi = ol := Option.some.inj (hoi.symm.trans hol)
    subst this
    have next : ∀ a' w', Q .normal a' w' → wpAny P .any ops Q 0 (listed.setIfInBounds i true) a' w' := fun a' w' hq => by
      refine ⟨?_, hq⟩
      apply List.eq_nil_iff_forall_not_mem.2
      intro j hj
      obtain ⟨h0, o, ho, _⟩ := mem_ready.1 hj
      have hjlt := (Array.getElem?_eq_some_iff.1 ho).1
      by_cases hji : i = j
      · subst hji
        have hs : i < listed.size := by rw [inv.size]; exact hjlt
        simp [hs] at h0
      · rw [getD_set_ne true hji] at h0
        have := (inv.left j hjlt).1 h0
        simp at this
        exact hji this.symm
    have hL : LastStep P ops oi (Q .normal) a w := by simpa [opersOf, wpMix] using h
    unfold wpOp
    simp only [hoi]
    unfold LastStep at hL
    by_cases hw : Region.wanted oi (yielded ops a.tmps) = true
    · rw [if_pos hw] at hL ⊢
      left
      by_cases he : isEff oi = true
      · rw [if_pos he] at hL
        refine wp_of_effAt ?_
        exact effUpon_put (fun u w' hK => next _ _ hK) hL
      · rw [if_neg he] at hL
        obtain ⟨v, hv, hK⟩ := hL
        exact wp_of_readsAt hv (next _ _ hK)
    · rw [if_neg hw] at hL ⊢
      exact next _ _ hL
  case succ f ih =>
    intro rem listed a w hf inv hC h
    -- the first of the rest is ready
    obtain ⟨k, rest, rfl⟩ : ∃ k rest, rem = k :: rest := by
      cases rem with
      | nil => simp at hf
      | cons k rest => exact ⟨k, rest, rfl⟩
    have hrk := inv.rise
    rw [List.pairwise_append] at hrk
    have hkn : k < n := hrk.2.2 k (List.mem_cons_self ..) n (by simp)
    have hkr : k ∈ Region.ready .any ops listed := by
      have hk : k < ops.size := inv.lt k (by simp)
      refine mem_ready.2 ⟨(inv.left k hk).2 (by simp), ops[k], Array.getElem?_eq_getElem hk, fun e he hb => ?_⟩
      have h1 := (hB k hk).1
      rw [Array.getElem?_eq_getElem hk] at h1
      have h2 := Array.all_eq_true_iff_forall_mem.1 h1 e he
      simp only [hb, Bool.not_true, Bool.false_or, decide_eq_true_eq] at h2
      have hne : e.on ∉ k :: rest ++ [n] := by
        intro hm
        rw [List.cons_append] at hm
        rcases List.mem_cons.1 hm with hm | hm
        · omega
        · have := (List.pairwise_cons.1 (by simpa using inv.rise)).1 _ hm; omega
      have hlt : e.on < ops.size := by omega
      have h3 : listed.getD e.on true ≠ false := fun hx => hne ((inv.left _ hlt).1 hx)
      have : e.on < listed.size := by rw [inv.size]; exact hlt
      simp [this] at h3 ⊢
      exact h3
    refine ⟨fun h0 => (by rw [h0] at hkr; cases hkr), fun i hi => ?_⟩
    obtain ⟨hun, oi, hoi, hall⟩ := mem_ready.1 hi
    have hilt : i < ops.size := (Array.getElem?_eq_some_iff.1 hoi).1
    have him0 : i ∈ k :: rest ++ [n] := (inv.left i hilt).1 hun
    have hin : i ≠ n := fun hx => by
      subst hx
      have : oi = ol := Option.some.inj (hoi.symm.trans hol)
      subst this
      have h3 := (lateB_spec hlate hn hkn).listed inv.closed (fun oj hoj e he hb => by
        have : oj = oi := Option.some.inj (hoj.symm.trans hoi)
        subst this; exact hall e he hb)
      have h4 := (inv.left k (by omega)).2 (by simp)
      have hs : k < listed.size := by rw [inv.size]; omega
      simp [hs] at h3 h4
      rw [h4] at h3; cases h3
    have him : i ∈ k :: rest := by
      rcases List.mem_append.1 him0 with hx | hx
      · exact hx
      · exact absurd (by simpa using hx) hin
    obtain ⟨l1, l2, hl⟩ := List.append_of_mem him
    have hriseA := inv.rise
    rw [hl] at h hf hriseA
    have hrise := (List.pairwise_append.1 hriseA).1
    have hriseN : ∀ x ∈ l1 ++ i :: l2, x < n := fun x hx => (List.pairwise_append.1 hriseA).2.2 x hx n (by simp)
    rw [List.pairwise_append] at hrise
    -- nothing ahead of i is waited for
    have hnw : ∀ k ∈ l1, ¬ Waits ops i k := fun k hk hw => by
      have hkl := hw.listed inv.closed (fun oj hoj e he hb => by
        have : oj = oi := Option.some.inj (hoj.symm.trans hoi)
        subst this; exact hall e he hb)
      have hklt : k < ops.size := inv.lt k (by rw [hl]; simp [hk])
      have := (inv.left k hklt).2 (by rw [hl]; simp [hk])
      have hs : k < listed.size := by rw [inv.size]; exact hklt
      simp [hs] at this hkl
      rw [this] at hkl; cases hkl
    have hpair : ∀ k ∈ l1, ∀ ok, ops[k]? = some ok → ok.apart ops oi = true ∧ (isEff ok && isEff oi) = false := fun k hk ok hok => by
      have hki : k < i := hrise.2.2 k hk i (List.mem_cons_self ..)
      have h1 := (hB i hilt).2 k hki
      simp only [pairB, hok, hoi, Bool.or_eq_true, Bool.and_eq_true, Bool.not_eq_true'] at h1
      rcases h1 with h1 | h1
      · exact absurd (hms _ _ h1) (hnw k hk)
      · exact ⟨h1.1, h1.2⟩
    have hmem : ∀ o ∈ opersOf ops l1, ∃ k ∈ l1, ops[k]? = some o := fun o ho => List.mem_filterMap.1 ho
    have hap : ∀ o ∈ opersOf ops l1, o.apart ops oi = true ∧ ∀ cs b, o.op ≠ .select cs b := fun o ho => by
      obtain ⟨k, hk, hok⟩ := hmem o ho
      exact ⟨(hpair k hk o hok).1, fun cs b => hsel' k o cs b hok⟩
    have hT : wpMix P ops C (LastStep P ops ol (Q .normal)) (opersOf ops l1 ++ oi :: opersOf ops l2) a w := by
      have : opersOf ops (l1 ++ i :: l2) = opersOf ops l1 ++ oi :: opersOf ops l2 := by
        rw [opersOf_append]; simp [opersOf, hoi]
      rw [← this]; exact h
    -- taken first
    have hS : Step1 P ops C oi (wpMix P ops C (LastStep P ops ol (Q .normal)) (opersOf ops (l1 ++ l2))) a w := by
      rw [opersOf_append]
      cases he : isEff oi with
      | false => exact early_reader he (fun cs b => hsel' i oi cs b hoi) _ _ a w hC hap hT
      | true =>
        refine early_effect he (fun cs b => hsel' i oi cs b hoi) _ _ a w (fun o ho => ?_) hT
        obtain ⟨k, hk, hok⟩ := hmem o ho
        have h2 := (hpair k hk o hok).2
        rw [he, Bool.and_true] at h2
        exact ⟨h2, hap o ho⟩
    -- the rest
    have inv' : MixInv ops (l1 ++ l2 ++ [n]) (listed.setIfInBounds i true) := by
      refine ⟨by simp [inv.size], ?_, fun j hj => inv.lt j (by rw [hl]; simp at hj ⊢; rcases hj with hj | hj | hj <;> simp [hj]), fun j hj => ?_, fun j oj hoj hlj e he hb => ?_⟩
      · rw [List.pairwise_append]
        refine ⟨?_, by simp, fun x hx y hy => ?_⟩
        · rw [List.pairwise_append]
          exact ⟨hrise.1, (List.pairwise_cons.1 hrise.2.1).2, fun x hx y hy => hrise.2.2 x hx y (List.mem_cons_of_mem _ hy)⟩
        · have : y = n := by simpa using hy
          subst this
          exact hriseN x (by rcases List.mem_append.1 hx with hx | hx <;> simp [hx])
      · by_cases hji : i = j
        · subst hji
          have hs : i < listed.size := by rw [inv.size]; exact hj
          refine ⟨fun hx => by simp [hs] at hx, fun hx => ?_⟩
          rcases List.mem_append.1 hx with hx | hx
          · rcases List.mem_append.1 hx with hx | hx
            · exact absurd (hrise.2.2 i hx i (List.mem_cons_self ..)) (Nat.lt_irrefl _)
            · exact absurd ((List.pairwise_cons.1 hrise.2.1).1 i hx) (Nat.lt_irrefl _)
          · exact absurd (by simpa using hx) hin
        · rw [getD_set_ne true hji, inv.left j hj, hl]
          simp only [List.mem_append, List.mem_cons]
          constructor
          · rintro ((h | h | h) | h)
            · exact .inl (.inl h)
            · exact absurd h.symm hji
            · exact .inl (.inr h)
            · exact .inr h
          · rintro ((h | h) | h)
            · exact .inl (.inl h)
            · exact .inl (.inr (.inr h))
            · exact .inr h
      · by_cases hji : i = j
        · subst hji
          have : oj = oi := Option.some.inj (hoj.symm.trans hoi)
          subst this
          exact getD_set_true (hall e he hb)
        · rw [getD_set_ne false hji] at hlj
          exact getD_set_true (inv.closed j oj hoj hlj e he hb)
    have hlen : (l1 ++ l2).length = f := by simp at hf ⊢; omega
    have next : ∀ a' w', C w' → wpMix P ops C (LastStep P ops ol (Q .normal)) (opersOf ops (l1 ++ l2)) a' w' → wpAny P .any ops Q (f + 1) (listed.setIfInBounds i true) a' w' :=
      fun a' w' hC' h' => ih _ _ a' w' hlen inv' hC' h'
    unfold wpOp
    simp only [hoi]
    unfold Step1 at hS
    by_cases hw : Region.wanted oi (yielded ops a.tmps) = true
    · rw [if_pos hw] at hS ⊢
      left
      by_cases he : isEff oi = true
      · rw [if_pos he] at hS
        refine wp_of_effAt ?_
        exact effUpon_put (fun u w' hK => next _ _ hK.1 hK.2) hS.2
      · rw [if_neg he] at hS
        obtain ⟨v, hv, hK⟩ := hS
        exact wp_of_readsAt (hv w hC) (next _ _ hC hK)
    · rw [if_neg hw] at hS ⊢
      exact next _ _ hC hS


/-- A region that draws its order, and whose last operation waits for all: the rest in the order of the text, then the last. -/
theorem wp_region_late {id : Nat} {Q : Exit → Act → World → Prop} {a : Act} {w : World} {l : List Oper} (C : World → Prop) (hm : P.follows .mixedOrders = true) (hB : mixB l.toArray = true) (l' : List Oper) (ol : Oper) (hl : l = l' ++ [ol]) (hlate : lateB l.toArray = true) (hC : C { w with drawn := w.drawn + 1 })
    (h : wpMix P l.toArray C (LastStep P l.toArray ol (Q .normal)) l' a { w with drawn := w.drawn + 1 }) : (Code.region id l.toArray true).wp P Q a w := by
  have hsz : l.toArray.size = l'.length + 1 := by rw [hl]; simp
  have hrg : List.range l.toArray.size = List.range l'.length ++ [l'.length] := by rw [hsz, List.range_succ]
  have hop : opersOf l.toArray (List.range l'.length) = l' := by
    have := opersOf_range (ops := l.toArray)
    rw [hrg, opersOf_append] at this
    have h2 : opersOf l.toArray [l'.length] = [ol] := by simp [opersOf, hl]
    rw [h2] at this
    have h3 : l.toArray.toList = l' ++ [ol] := by simpa using hl
    rw [h3] at this
    exact List.append_cancel_right this
  refine wp_region_any hm ?_
  rw [hsz]
  refine wpAny_of_late (C := C) hB l'.length ol hsz (by rw [hl]; simp) hlate _ (List.range l'.length) _ a _ (by simp) ?_ hC ?_
  · rw [← hrg]
    refine ⟨by simp [hsz], List.pairwise_lt_range, fun i hi => List.mem_range.1 hi, fun i hi => ?_, fun j oj _ hl => ?_⟩
    · simp only [List.mem_range, hi, iff_true]
      rw [hsz] at hi
      simp [hi]
    · rw [show (Array.replicate (l'.length + 1) false).getD j false = false from by by_cases h : j < l'.length + 1 <;> simp [h]] at hl; cases hl
  · rw [hop]; exact h
end
end Go.Cob

namespace Go.Cob
open Go Go.RowKit
set_option linter.unusedVariables false
section
variable {α β : Type} [DecidableEq α] {P : Program} {kt vt : TypeId} {encK : α → Value} {encV : β → Value}

theorem wpMix_del {w : World} {C : World → Prop} {ops : Array Oper} {rest : List Oper} {o : Oper} {a : Act} {Q : Act → World → Prop} {b : Nat} {l : List (α × β)} {t : TypeId} {k : α} (hg : Region.wanted o (yielded ops a.tmps) = true) (m x : Operand) (t2 : TypeId)
    (hop : o.op = .call { callee := .builtin .delete, args := #[m, x], argTypes := #[t, t2] }) (K : KeyLaw P kt encK) (ht : P.underlying t = some (.map kt vt)) (hm : a.eval m = .map (some b)) (hx : a.eval x = encK k)
    (h : MapAt encK encV w b l) (hK : ∀ ob, MapAt encK encV (putO w b ob) b (adel l k) → C (putO w b ob) ∧ wpMix P ops C Q rest (a.put o.dst (.tuple #[])) (putO w b ob)) :
    wpMix P ops C Q (o :: rest) a w := by
  obtain ⟨ob, hr, h'⟩ := h.del (ty := o.type) K ht k #[t, t2] rfl
  unfold wpMix
  refine ⟨trivial, ?_⟩
  rw [if_pos hg, if_pos (by simp [isEff, hop])]
  refine ⟨trivial, ?_⟩
  unfold effAt execOp
  simp only [hop, resolve, invoke, builtin, Sem.run_bind, Sem.run_pure, Result.andThen_ok, List.map_toArray, List.map_cons, List.map_nil, hm, hx, hr, effUpon]
  exact hK ob h'

theorem wpMix_append {w : World} {C : World → Prop} {ops : Array Oper} {rest : List Oper} {o : Oper} {a : Act} {Q : Act → World → Prop} (hg : Region.wanted o (yielded ops a.tmps) = true) (s x : Operand) (t : TypeId)
    (ho : o.op = .call { callee := .builtin .append, args := #[s, x], argTypes := #[t, t] })
    (e : TypeId) (i : TypeInfo) (z : Value) (size bytes : Nat) (ht : P.underlying t = some (.slice e)) (hi : P.info? e = some i) (hz : i.zero = some z)
    (hsize : i.size = size) (hby : i.bytes = bytes) (hzs : z.cells.size = size) (hsz : 0 < size)
    (v : Value) (n : Nat) (xs : List Value) (hs : a.eval s = v) (hown : w.ownsRow 0 e size v n xs)
    (ad : Addr) (m c : Nat) (news : List Value) (hx : a.eval x = .slice (some ad) m c) (hl : news.length = m * size) (hnews : ∀ j u, news[j]? = some u → w.cell? (ad.add j) = some u) (h1 : ∀ u ∈ news, u.oneCell' = true)
    (hm : 0 < m) (h63 : n + m ≤ maxLen) (hbytes : (n + m) * bytes ≤ 140737488355328)
    (h : ∀ g cap w', w'.ownsRow 0 e size (.slice (some ⟨g, 0, none⟩) (n + m) cap) (n + m) (xs ++ news) → w.grownBy w' v.ownBlock → (v.ownBlock = some g ∨ g = w.heap.size) → g < w'.heap.size →
      C w' ∧ wpMix P ops C Q rest (a.put o.dst (.slice (some ⟨g, 0, none⟩) (n + m) cap)) w') :
    wpMix P ops C Q (o :: rest) a w := by
  obtain ⟨g, cap, w', hr, h2, h3, h4, h5⟩ := run_append_lies (P := P) w t o.type 0 e i z size bytes ht hi hz hsize hby hzs hsz v n xs hown ad m c news hl hnews h1 hm h63 hbytes (Nat.zero_le _) w.heap.size rfl
  unfold wpMix
  refine ⟨trivial, ?_⟩
  rw [if_pos hg, if_pos (by simp [isEff, ho])]
  refine ⟨trivial, ?_⟩
  unfold effAt execOp
  simp only [ho, resolve, invoke, builtin, Sem.run_bind, Sem.run_pure, Result.andThen_ok, List.map_toArray, List.map_cons, List.map_nil, hs, hx, hr, effUpon]
  exact h g cap w' h2 h3 h4 h5
end
/-- What an append leaves, as a world of a class. -/
def Ch.grown {S : Nat → Prop} {w0 w' : World} {row : Option Nat} (p : Ch S w0) (h : p.w.grownBy w' row) (hr : ∀ b, b < w0.heap.size → row = some b → S b) : Ch S w0 :=
  ⟨w', h.os.trans p.os, h.tape.trans p.tape, h.output.trans p.output, Nat.le_trans p.size h.size, fun b hb hS => (h.block b (Nat.lt_of_lt_of_le hb p.size) (fun e => hS (hr b hb e.symm))).trans (p.same b hb hS)⟩
@[simp] theorem Ch.grown_w {S : Nat → Prop} {w0 w' : World} {row : Option Nat} (p : Ch S w0) (h : p.w.grownBy w' row) (hr : ∀ b, b < w0.heap.size → row = some b → S b) : (p.grown h hr).w = w' := rfl
theorem MapAt.ext {α β : Type} [DecidableEq α] {encK : α → Value} {encV : β → Value} {w : World} {m : Nat} {l : List (α × β)} (h : MapAt encK encV w m l) (p : Ext w) : MapAt encK encV p.w m l := h.keep (p.same _ h.lt id)

/-! ### the last operation apart -/
inductive Split : List Oper → List Oper → Oper → Prop
  | one (o : Oper) : Split [o] [] o
  | cons (o : Oper) {l l' : List Oper} {x : Oper} (h : Split l l' x) : Split (o :: l) (o :: l') x
theorem Split.eq {l l' : List Oper} {x : Oper} (h : Split l l' x) : l = l' ++ [x] := by
  induction h with
  | one => rfl
  | cons o _ ih => rw [ih]; rfl
theorem last_step {P : Program} {ops : Array Oper} {Q : Act → World → Prop} {o : Oper} {a : Act} {w : World}
    (h : ∀ K : Act → World → Prop, (∀ a w, Q a w → K a w) →
      if Region.wanted o (yielded ops a.tmps) = true then
        if isEff o = true then effAt P o a w K else ∃ v, readsAt P o a w v ∧ K (a.put o.dst v) w
      else K (a.put o.dst undef) w) : LastStep P ops o Q a w := h _ fun _ _ h => h
theorem last_put {α β : Type} [DecidableEq α] {P : Program} {kt vt : TypeId} {encK : α → Value} {encV : β → Value} {w : World} {ops : Array Oper} {o : Oper} {a : Act} {Q : Act → World → Prop} {b : Nat} {l : List (α × β)} {t : TypeId} {k : α} {u : β} (hg : Region.wanted o (yielded ops a.tmps) = true) (m x v : Operand)
    (hop : o.op = .mapUpdate t m x v) (K : KeyLaw P kt encK) (ht : P.underlying t = some (.map kt vt)) (hm : a.eval m = .map (some b)) (hx : a.eval x = encK k) (hv : a.eval v = encV u)
    (h : MapAt encK encV w b l) (hK : ∀ ob, MapAt encK encV (putO w b ob) b (aput l k u) → Q (a.put o.dst undef) (putO w b ob)) :
    LastStep P ops o Q a w := by
  obtain ⟨ob, hr, h'⟩ := h.put K ht k u
  unfold LastStep
  rw [if_pos hg, if_pos (by simp [isEff, hop])]
  unfold effAt
  simp [execOp, hop, hm, hx, hv, hr, Result.andThen, effUpon]
  exact hK ob h'
theorem last_del {α β : Type} [DecidableEq α] {P : Program} {kt vt : TypeId} {encK : α → Value} {encV : β → Value} {w : World} {ops : Array Oper} {o : Oper} {a : Act} {Q : Act → World → Prop} {b : Nat} {l : List (α × β)} {t : TypeId} {k : α} (hg : Region.wanted o (yielded ops a.tmps) = true) (m x : Operand) (t2 : TypeId)
    (hop : o.op = .call { callee := .builtin .delete, args := #[m, x], argTypes := #[t, t2] }) (K : KeyLaw P kt encK) (ht : P.underlying t = some (.map kt vt)) (hm : a.eval m = .map (some b)) (hx : a.eval x = encK k)
    (h : MapAt encK encV w b l) (hK : ∀ ob, MapAt encK encV (putO w b ob) b (adel l k) → Q (a.put o.dst (.tuple #[])) (putO w b ob)) :
    LastStep P ops o Q a w := by
  obtain ⟨ob, hr, h'⟩ := h.del (ty := o.type) K ht k #[t, t2] rfl
  unfold LastStep
  rw [if_pos hg, if_pos (by simp [isEff, hop])]
  unfold effAt execOp
  simp only [hop, resolve, invoke, builtin, Sem.run_bind, Sem.run_pure, Result.andThen_ok, List.map_toArray, List.map_cons, List.map_nil, hm, hx, hr, effUpon]
  exact hK ob h'
/-- A region whose last operation waits for all: the class of the others. -/
theorem wp_region_lch {P : Program} {id : Nat} {Q : Exit → Act → World → Prop} {a : Act} {w : World} {l l' : List Oper} {ol : Oper} (S : Nat → Prop) (hm : P.follows .mixedOrders = true) (hs : Split l l' ol) (hB : mixB l.toArray = true) (hlate : lateB l.toArray = true)
    (h : ∀ p : Ch S w, p.w.heap = w.heap → wpMix P l.toArray (fun w' => ∃ p : Ch S w, w' = p.w) (LastStep P l.toArray ol (Q .normal)) l' a p.w) : (Code.region id l.toArray true).wp P Q a w :=
  wp_region_late (C := fun w' => ∃ p : Ch S w, w' = p.w) hm hB l' ol hs.eq hlate ⟨⟨{ w with drawn := w.drawn + 1 }, rfl, rfl, rfl, Nat.le_refl _, fun _ _ _ => rfl⟩, rfl⟩ (h ⟨{ w with drawn := w.drawn + 1 }, rfl, rfl, rfl, Nat.le_refl _, fun _ _ _ => rfl⟩ rfl)
end Go.Cob

set_option linter.unusedSectionVars false
set_option linter.unusedSimpArgs false
namespace Go.Cob
open Go
section
variable {P : Program} {ops : Array Oper} {C : World → Prop}

def barB (ops : Array Oper) (b : Nat) : Bool :=
  ((List.range b).all fun i => ((masks ops.toList []).getD b 0).testBit i) && ((List.range ops.size).all fun j => !decide (b < j) || ((masks ops.toList []).getD j 0).testBit b)
theorem barB_ahead {b i : Nat} (h : barB ops b = true) (hi : i < b) : Waits ops b i := by
  unfold barB at h
  rw [Bool.and_eq_true, List.all_eq_true, List.all_eq_true] at h
  exact masks_spec (ops := ops) ops.toList [] (by simp) (by simp) _ _ (h.1 i (List.mem_range.2 hi))
theorem barB_after {b j : Nat} (h : barB ops b = true) (hj : b < j) (hs : j < ops.size) : Waits ops j b := by
  unfold barB at h
  rw [Bool.and_eq_true, List.all_eq_true, List.all_eq_true] at h
  have h1 := h.2 j (List.mem_range.2 hs)
  simp only [hj, decide_true, Bool.not_true, Bool.false_or] at h1
  exact masks_spec (ops := ops) ops.toList [] (by simp) (by simp) _ _ h1

theorem wpAny_of_bar {Q : Exit → Act → World → Prop} (hB : mixB ops = true) (n : Nat) (ol : Oper) (hol : ops[n]? = some ol) (rem2 : List Nat) (hr2 : ∀ x ∈ rem2, n < x) (hbar : barB ops n = true) : ∀ (f : Nat) (rem : List Nat) (listed : Array Bool) (a : Act) (w : World), rem.length = f → MixInv ops (rem ++ n :: rem2) listed → C w →
    wpMix P ops C (LastStep P ops ol (fun a' w' => ∃ C2 : World → Prop, C2 w' ∧ wpMix P ops C2 (Q .normal) (opersOf ops rem2) a' w')) (opersOf ops rem) a w → wpAny P .any ops Q (f + 1 + rem2.length) listed a w := by
  have hB0 := hB
  simp only [mixB, Bool.and_eq_true, List.all_eq_true, List.mem_range] at hB
  obtain ⟨hsel, hB⟩ := hB
  have hms := masks_spec (ops := ops) ops.toList [] (by simp) (by simp)
  have hsel' := Region.noSelect_spec hsel
  have hnlt : n < ops.size := (Array.getElem?_eq_some_iff.1 hol).1
  -- what is behind the bar isn't ready while the bar isn't listed
  have hlater : ∀ (rem : List Nat) (listed : Array Bool), MixInv ops (rem ++ n :: rem2) listed → ∀ i ∈ rem2, ∀ oi, ops[i]? = some oi → (∀ e ∈ oi.after, Region.binds .any e = true → listed.getD e.on false = true) → False := by
    intro rem listed inv i hi oi hoi hall
    have hilt : i < ops.size := (Array.getElem?_eq_some_iff.1 hoi).1
    have h3 := (barB_after hbar (hr2 i hi) hilt).listed inv.closed (fun oj hoj e he hb => by
      have : oj = oi := Option.some.inj (hoj.symm.trans hoi)
      subst this; exact hall e he hb)
    have h4 := (inv.left n hnlt).2 (by simp)
    have hs : n < listed.size := by rw [inv.size]; omega
    simp [hs] at h3 h4
    rw [h4] at h3; cases h3
  intro f
  induction f
  case zero =>
    intro rem listed a w hf inv hC h
    have : rem = [] := List.eq_nil_of_length_eq_zero hf
    subst this
    have hun : listed.getD n true = false := (inv.left n hnlt).2 (by simp)
    have hready : n ∈ Region.ready .any ops listed := by
      refine mem_ready.2 ⟨hun, ol, hol, fun e he hb => ?_⟩
      have h1 := (hB n hnlt).1
      rw [hol] at h1
      have h2 := Array.all_eq_true_iff_forall_mem.1 h1 e he
      simp only [hb, Bool.not_true, Bool.false_or, decide_eq_true_eq] at h2
      have hlt : e.on < ops.size := by omega
      have h3 : listed.getD e.on true ≠ false := fun hx => by
        have := (inv.left _ hlt).1 hx
        simp at this
        rcases this with h | h
        · omega
        · have := hr2 _ h; omega
      have : e.on < listed.size := by rw [inv.size]; exact hlt
      simp [this] at h3 ⊢
      exact h3
    rw [show 0 + 1 + rem2.length = rem2.length + 1 from by omega]
    refine ⟨fun h0 => (by rw [h0] at hready; cases hready), fun i hi => ?_⟩
    obtain ⟨hui, oi, hoi, hall⟩ := mem_ready.1 hi
    have hilt : i < ops.size := (Array.getElem?_eq_some_iff.1 hoi).1
    have hin : i = n := by
      have := (inv.left i hilt).1 hui
      simp at this
      rcases this with h | h
      · exact h
      · exact (hlater [] listed inv i h oi hoi hall).elim
    subst hin
    have : oi = ol := Option.some.inj (hoi.symm.trans hol)
    subst this
    have inv2 : MixInv ops rem2 (listed.setIfInBounds i true) := by
      have hri := inv.rise
      rw [List.nil_append] at hri
      refine ⟨by simp [inv.size], (List.pairwise_cons.1 hri).2, fun j hj => inv.lt j (by simp [hj]), fun j hj => ?_, fun j oj hoj hlj e he hb => ?_⟩
      · by_cases hji : i = j
        · subst hji
          have hs : i < listed.size := by rw [inv.size]; exact hj
          refine ⟨fun hx => by simp [hs] at hx, fun hx => ?_⟩
          have := hr2 _ hx; omega
        · rw [getD_set_ne true hji, inv.left j hj]
          simp only [List.nil_append, List.mem_cons]
          constructor
          · rintro (h | h)
            · exact absurd h.symm hji
            · exact h
          · exact .inr
      · by_cases hji : i = j
        · subst hji
          have : oj = oi := Option.some.inj (hoj.symm.trans hoi)
          subst this
          exact getD_set_true (hall e he hb)
        · rw [getD_set_ne false hji] at hlj
          exact getD_set_true (inv.closed j oj hoj hlj e he hb)
    have next : ∀ a' w', (∃ C2 : World → Prop, C2 w' ∧ wpMix P ops C2 (Q .normal) (opersOf ops rem2) a' w') → wpAny P .any ops Q rem2.length (listed.setIfInBounds i true) a' w' := fun a' w' hq =>
      hq.elim fun C2 hq => wpAny_of_mix (C := C2) hB0 rem2.length rem2 _ a' w' rfl inv2 hq.1 hq.2
    have hL : LastStep P ops oi (fun a' w' => ∃ C2 : World → Prop, C2 w' ∧ wpMix P ops C2 (Q .normal) (opersOf ops rem2) a' w') a w := by simpa [opersOf, wpMix] using h
    unfold wpOp
    simp only [hoi]
    unfold LastStep at hL
    by_cases hw : Region.wanted oi (yielded ops a.tmps) = true
    · rw [if_pos hw] at hL ⊢
      left
      by_cases he : isEff oi = true
      · rw [if_pos he] at hL
        refine wp_of_effAt ?_
        exact effUpon_put (fun u w' hK => next _ _ hK) hL
      · rw [if_neg he] at hL
        obtain ⟨v, hv, hK⟩ := hL
        exact wp_of_readsAt hv (next _ _ hK)
    · rw [if_neg hw] at hL ⊢
      exact next _ _ hL
  case succ f ih =>
    intro rem listed a w hf inv hC h
    -- the first of the rest is ready
    obtain ⟨k, rest, rfl⟩ : ∃ k rest, rem = k :: rest := by
      cases rem with
      | nil => simp at hf
      | cons k rest => exact ⟨k, rest, rfl⟩
    have hrk := inv.rise
    rw [List.pairwise_append] at hrk
    have hkn : k < n := hrk.2.2 k (List.mem_cons_self ..) n (by simp)
    have hkr : k ∈ Region.ready .any ops listed := by
      have hk : k < ops.size := inv.lt k (by simp)
      refine mem_ready.2 ⟨(inv.left k hk).2 (by simp), ops[k], Array.getElem?_eq_getElem hk, fun e he hb => ?_⟩
      have h1 := (hB k hk).1
      rw [Array.getElem?_eq_getElem hk] at h1
      have h2 := Array.all_eq_true_iff_forall_mem.1 h1 e he
      simp only [hb, Bool.not_true, Bool.false_or, decide_eq_true_eq] at h2
      have hne : e.on ∉ k :: rest ++ n :: rem2 := by
        intro hm
        rw [List.cons_append] at hm
        rcases List.mem_cons.1 hm with hm | hm
        · omega
        · have := (List.pairwise_cons.1 (by simpa using inv.rise)).1 _ hm; omega
      have hlt : e.on < ops.size := by omega
      have h3 : listed.getD e.on true ≠ false := fun hx => hne ((inv.left _ hlt).1 hx)
      have : e.on < listed.size := by rw [inv.size]; exact hlt
      simp [this] at h3 ⊢
      exact h3
    rw [show f + 1 + 1 + rem2.length = (f + 1 + rem2.length) + 1 from by omega]
    refine ⟨fun h0 => (by rw [h0] at hkr; cases hkr), fun i hi => ?_⟩
    obtain ⟨hun, oi, hoi, hall⟩ := mem_ready.1 hi
    have hilt : i < ops.size := (Array.getElem?_eq_some_iff.1 hoi).1
    have him0 : i ∈ k :: rest ++ n :: rem2 := (inv.left i hilt).1 hun
    have hin : i ≠ n := fun hx => by
      subst hx
      have : oi = ol := Option.some.inj (hoi.symm.trans hol)
      subst this
      have h3 := (barB_ahead hbar hkn).listed inv.closed (fun oj hoj e he hb => by
        have : oj = oi := Option.some.inj (hoj.symm.trans hoi)
        subst this; exact hall e he hb)
      have h4 := (inv.left k (by omega)).2 (by simp)
      have hs : k < listed.size := by rw [inv.size]; omega
      simp [hs] at h3 h4
      rw [h4] at h3; cases h3
    have him : i ∈ k :: rest := by
      rcases List.mem_append.1 him0 with hx | hx
      · exact hx
      · rcases List.mem_cons.1 hx with hx | hx
        · exact absurd hx hin
        · exact (hlater _ listed inv i hx oi hoi hall).elim
    obtain ⟨l1, l2, hl⟩ := List.append_of_mem him
    have hriseA := inv.rise
    rw [hl] at h hf hriseA
    have hrise := (List.pairwise_append.1 hriseA).1
    have hriseN : ∀ x ∈ l1 ++ i :: l2, x < n := fun x hx => (List.pairwise_append.1 hriseA).2.2 x hx n (by simp)
    rw [List.pairwise_append] at hrise
    -- nothing ahead of i is waited for
    have hnw : ∀ k ∈ l1, ¬ Waits ops i k := fun k hk hw => by
      have hkl := hw.listed inv.closed (fun oj hoj e he hb => by
        have : oj = oi := Option.some.inj (hoj.symm.trans hoi)
        subst this; exact hall e he hb)
      have hklt : k < ops.size := inv.lt k (by rw [hl]; simp [hk])
      have := (inv.left k hklt).2 (by rw [hl]; simp [hk])
      have hs : k < listed.size := by rw [inv.size]; exact hklt
      simp [hs] at this hkl
      rw [this] at hkl; cases hkl
    have hpair : ∀ k ∈ l1, ∀ ok, ops[k]? = some ok → ok.apart ops oi = true ∧ (isEff ok && isEff oi) = false := fun k hk ok hok => by
      have hki : k < i := hrise.2.2 k hk i (List.mem_cons_self ..)
      have h1 := (hB i hilt).2 k hki
      simp only [pairB, hok, hoi, Bool.or_eq_true, Bool.and_eq_true, Bool.not_eq_true'] at h1
      rcases h1 with h1 | h1
      · exact absurd (hms _ _ h1) (hnw k hk)
      · exact ⟨h1.1, h1.2⟩
    have hmem : ∀ o ∈ opersOf ops l1, ∃ k ∈ l1, ops[k]? = some o := fun o ho => List.mem_filterMap.1 ho
    have hap : ∀ o ∈ opersOf ops l1, o.apart ops oi = true ∧ ∀ cs b, o.op ≠ .select cs b := fun o ho => by
      obtain ⟨k, hk, hok⟩ := hmem o ho
      exact ⟨(hpair k hk o hok).1, fun cs b => hsel' k o cs b hok⟩
    have hT : wpMix P ops C (LastStep P ops ol (fun a' w' => ∃ C2 : World → Prop, C2 w' ∧ wpMix P ops C2 (Q .normal) (opersOf ops rem2) a' w')) (opersOf ops l1 ++ oi :: opersOf ops l2) a w := by
      have : opersOf ops (l1 ++ i :: l2) = opersOf ops l1 ++ oi :: opersOf ops l2 := by
        rw [opersOf_append]; simp [opersOf, hoi]
      rw [← this]; exact h
    -- taken first
    have hS : Step1 P ops C oi (wpMix P ops C (LastStep P ops ol (fun a' w' => ∃ C2 : World → Prop, C2 w' ∧ wpMix P ops C2 (Q .normal) (opersOf ops rem2) a' w')) (opersOf ops (l1 ++ l2))) a w := by
      rw [opersOf_append]
      cases he : isEff oi with
      | false => exact early_reader he (fun cs b => hsel' i oi cs b hoi) _ _ a w hC hap hT
      | true =>
        refine early_effect he (fun cs b => hsel' i oi cs b hoi) _ _ a w (fun o ho => ?_) hT
        obtain ⟨k, hk, hok⟩ := hmem o ho
        have h2 := (hpair k hk o hok).2
        rw [he, Bool.and_true] at h2
        exact ⟨h2, hap o ho⟩
    -- the rest
    have inv' : MixInv ops (l1 ++ l2 ++ n :: rem2) (listed.setIfInBounds i true) := by
      refine ⟨by simp [inv.size], ?_, fun j hj => inv.lt j (by rw [hl]; simp at hj ⊢; rcases hj with hj | hj | hj | hj <;> simp [hj]), fun j hj => ?_, fun j oj hoj hlj e he hb => ?_⟩
      · rw [List.pairwise_append]
        refine ⟨?_, (List.pairwise_append.1 hriseA).2.1, fun x hx y hy => ?_⟩
        · rw [List.pairwise_append]
          exact ⟨hrise.1, (List.pairwise_cons.1 hrise.2.1).2, fun x hx y hy => hrise.2.2 x hx y (List.mem_cons_of_mem _ hy)⟩
        · have hxn := hriseN x (by rcases List.mem_append.1 hx with hx | hx <;> simp [hx])
          rcases List.mem_cons.1 hy with rfl | hy
          · exact hxn
          · have := hr2 y hy; omega
      · by_cases hji : i = j
        · subst hji
          have hs : i < listed.size := by rw [inv.size]; exact hj
          refine ⟨fun hx => by simp [hs] at hx, fun hx => ?_⟩
          rcases List.mem_append.1 hx with hx | hx
          · rcases List.mem_append.1 hx with hx | hx
            · exact absurd (hrise.2.2 i hx i (List.mem_cons_self ..)) (Nat.lt_irrefl _)
            · exact absurd ((List.pairwise_cons.1 hrise.2.1).1 i hx) (Nat.lt_irrefl _)
          · rcases List.mem_cons.1 hx with hx | hx
            · exact (hin hx).elim
            · exact (hlater _ listed inv _ hx oi hoi hall).elim
        · rw [getD_set_ne true hji, inv.left j hj, hl]
          simp only [List.mem_append, List.mem_cons]
          constructor
          · rintro ((h | h | h) | h)
            · exact .inl (.inl h)
            · exact absurd h.symm hji
            · exact .inl (.inr h)
            · exact .inr h
          · rintro ((h | h) | h)
            · exact .inl (.inl h)
            · exact .inl (.inr (.inr h))
            · exact .inr h
      · by_cases hji : i = j
        · subst hji
          have : oj = oi := Option.some.inj (hoj.symm.trans hoi)
          subst this
          exact getD_set_true (hall e he hb)
        · rw [getD_set_ne false hji] at hlj
          exact getD_set_true (inv.closed j oj hoj hlj e he hb)
    have hlen : (l1 ++ l2).length = f := by simp at hf ⊢; omega
    have next : ∀ a' w', C w' → wpMix P ops C (LastStep P ops ol (fun a' w' => ∃ C2 : World → Prop, C2 w' ∧ wpMix P ops C2 (Q .normal) (opersOf ops rem2) a' w')) (opersOf ops (l1 ++ l2)) a' w' → wpAny P .any ops Q (f + 1 + rem2.length) (listed.setIfInBounds i true) a' w' :=
      fun a' w' hC' h' => ih _ _ a' w' hlen inv' hC' h'
    unfold wpOp
    simp only [hoi]
    unfold Step1 at hS
    by_cases hw : Region.wanted oi (yielded ops a.tmps) = true
    · rw [if_pos hw] at hS ⊢
      left
      by_cases he : isEff oi = true
      · rw [if_pos he] at hS
        refine wp_of_effAt ?_
        exact effUpon_put (fun u w' hK => next _ _ hK.1 hK.2) hS.2
      · rw [if_neg he] at hS
        obtain ⟨v, hv, hK⟩ := hS
        exact wp_of_readsAt (hv w hC) (next _ _ hC hK)
    · rw [if_neg hw] at hS ⊢
      exact next _ _ hC hS



/-- A list parted at a place. -/
inductive PartAt : Nat → List Oper → List Oper → Oper → List Oper → Prop
  | here (o : Oper) (l : List Oper) : PartAt 0 (o :: l) [] o l
  | there (o : Oper) {n : Nat} {l l1 l2 : List Oper} {x : Oper} (h : PartAt n l l1 x l2) : PartAt (n + 1) (o :: l) (o :: l1) x l2
theorem PartAt.eq {n : Nat} {l l1 l2 : List Oper} {x : Oper} (h : PartAt n l l1 x l2) : l = l1 ++ x :: l2 ∧ l1.length = n := by
  induction h with
  | here => exact ⟨rfl, rfl⟩
  | there o _ ih => exact ⟨by rw [ih.1]; rfl, by simp [ih.2]⟩

/-- A region that draws its order, with a bar. -/
theorem wp_region_bar {id : Nat} {Q : Exit → Act → World → Prop} {a : Act} {w : World} {l : List Oper} (C : World → Prop) (n : Nat) {l1 l2 : List Oper} {ob : Oper} (hm : P.follows .mixedOrders = true) (hp : PartAt n l l1 ob l2) (hB : mixB l.toArray = true) (hbar : barB l.toArray n = true) (hC : C { w with drawn := w.drawn + 1 })
    (h : wpMix P l.toArray C (LastStep P l.toArray ob (fun a' w' => ∃ C2 : World → Prop, C2 w' ∧ wpMix P l.toArray C2 (Q .normal) l2 a' w')) l1 a { w with drawn := w.drawn + 1 }) : (Code.region id l.toArray true).wp P Q a w := by
  obtain ⟨hl, hn⟩ := hp.eq
  have hsz : l.toArray.size = n + 1 + l2.length := by rw [hl]; simp; omega
  have hrg : List.range l.toArray.size = List.range n ++ n :: List.range' (n + 1) l2.length := by
    rw [hsz, List.range_eq_range', List.range_eq_range', show n + 1 + l2.length = n + (1 + l2.length) from by omega, ← List.range'_append_1, show 1 + l2.length = l2.length + 1 from by omega, List.range'_succ]
    simp
  have hall := opersOf_range (ops := l.toArray)
  rw [hrg, opersOf_append] at hall
  have hob : l.toArray[n]? = some ob := by simp [hl, ← hn]
  have h2 : opersOf l.toArray (n :: List.range' (n + 1) l2.length) = ob :: opersOf l.toArray (List.range' (n + 1) l2.length) := by
    unfold opersOf; rw [List.filterMap_cons, hob]
  rw [h2, show l.toArray.toList = l1 ++ ob :: l2 from by simpa using hl] at hall
  have hlen : (opersOf l.toArray (List.range n)).length = l1.length := by
    have : ∀ m, m ≤ l.toArray.size → (opersOf l.toArray (List.range m)).length = m := by
      intro m
      induction m with
      | zero => intro _; rfl
      | succ m ih =>
        intro hm
        have hs : l.toArray[m]? = some l.toArray[m] := Array.getElem?_eq_getElem (by omega)
        rw [List.range_succ, opersOf_append, List.length_append, ih (by omega)]
        have h1 : opersOf l.toArray [m] = [l.toArray[m]] := by
          unfold opersOf; rw [List.filterMap_cons, hs]; rfl
        rw [h1]; rfl
    rw [this n (by omega), hn]
  obtain ⟨e1, e2⟩ := List.append_inj hall hlen
  have e3 : opersOf l.toArray (List.range' (n + 1) l2.length) = l2 := (List.cons.inj e2).2
  refine wp_region_any hm ?_
  rw [hsz, show n + 1 + l2.length = n + 1 + (List.range' (n + 1) l2.length).length from by simp]
  refine wpAny_of_bar (C := C) hB n ob hob (List.range' (n + 1) l2.length) (fun x hx => by have := List.mem_range'_1.1 hx; omega) hbar n (List.range n) _ a _ (by simp) ?_ hC ?_
  · rw [← hrg]
    refine ⟨by simp [hsz], List.pairwise_lt_range, fun i hi => List.mem_range.1 hi, fun i hi => ?_, fun j oj _ hl => ?_⟩
    · simp only [List.mem_range, hi, iff_true]
      rw [hsz] at hi
      simp [hi]
    · rw [show (Array.replicate (n + 1 + (List.range' (n + 1) l2.length).length) false).getD j false = false from by by_cases h : j < n + 1 + l2.length <;> simp [h]] at hl; cases hl
  · rw [e1, e3]; exact h
end
end Go.Cob

namespace Go.Proofs.Cob
open Go Go.RowKit Go.Cob
set_option linter.unusedSimpArgs false
set_option linter.unusedVariables false

/-- A cell's key. -/
structure Key where
  kind : Int
  a : Int
  b : Int
  s : ByteArray
  deriving DecidableEq

abbrev keyV (k : Key) : Value := .agg #[.int .i64 k.kind, .int .i64 k.a, .int .i64 k.b, .string k.s]
abbrev intV (n : Int) : Value := .int .i64 n

theorem stood23 : Try.prog.stoodInHeld 23 = false := by kernel_rfl

theorem beq_toList (a b : ByteArray) : (a.toList == b.toList) = decide (a = b) := by
  rw [ByteArray.toList_eq, ByteArray.toList_eq]
  obtain ⟨⟨x⟩⟩ := a
  obtain ⟨⟨y⟩⟩ := b
  show (x == y) = decide ((⟨⟨x⟩⟩ : ByteArray) = ⟨⟨y⟩⟩)
  by_cases h : x = y
  · subst h; simp
  · rw [decide_eq_false (by intro e; injection e with e; injection e with e; exact h e)]; simpa using h

theorem run_eq_key (a b : Key) (w : World) : (Op.equalIn 10000 23 (keyV a) (keyV b)).run Try.prog w = .ok (decide (a = b)) w := by
  obtain ⟨a1, a2, a3, a4⟩ := a
  obtain ⟨b1, b2, b3, b4⟩ := b
  have h : (Op.equalIn 10000 23 (keyV ⟨a1, a2, a3, a4⟩) (keyV ⟨b1, b2, b3, b4⟩)).run Try.prog w = .ok ((a1 == b1) && ((a2 == b2) && ((a3 == b3) && (a4.toList == b4.toList)))) w := by
    cases h1 : a1 == b1 <;> cases h2 : a2 == b2 <;> cases h3 : a3 == b3 <;> cases h4 : a4.toList == b4.toList <;>
      simp [go_sem, Try.underlying23, Try.underlying3, Try.underlying9, stood23, h1, h2, h3, h4]
  have hb : ((a1 == b1) && ((a2 == b2) && ((a3 == b3) && (a4.toList == b4.toList)))) = decide (Key.mk a1 a2 a3 a4 = ⟨b1, b2, b3, b4⟩) := by
    rw [beq_toList]
    by_cases h1 : a1 = b1 <;> by_cases h2 : a2 = b2 <;> by_cases h3 : a3 = b3 <;> simp [Key.mk.injEq, h1, h2, h3]
  rw [h, hb]

theorem run_check_plain (e : Bool) (m : Nat) (t : TypeId) (v : Value) (w : World) (h : (∃ k, Try.prog.underlying t = some (.int k)) ∨ Try.prog.underlying t = some .string) : (Instr.checkKey e (m + 1) t v).run Try.prog w = .ok () w := by
  rcases h with ⟨k, h⟩ | h <;> simp [Instr.checkKey, run_underlying h]

theorem run_check_key (e : Bool) (k : Key) (w : World) : (Instr.checkKey e 10000 23 (keyV k)).run Try.prog w = .ok () w := by
  have h : ∀ m, (Instr.checkKey e (m + 2) 23 (keyV k)).run Try.prog w = .ok () w := fun m => by
    have h3 : ∀ v w, (Instr.checkKey e (m + 1) 3 v).run Try.prog w = .ok () w := fun v w => run_check_plain e m 3 v w (.inl ⟨_, Try.underlying3⟩)
    have h9 : ∀ v w, (Instr.checkKey e (m + 1) 9 v).run Try.prog w = .ok () w := fun v w => run_check_plain e m 9 v w (.inr Try.underlying9)
    rw [Instr.checkKey]
    simp [go_sem, Try.underlying23, h3, h9]
  exact h 9998

theorem findIdx_shift {α : Type} [DecidableEq α] (k a : α) (ks : List α) : (a :: ks).findIdx? (· = k) = if a = k then some 0 else (ks.findIdx? (· = k)).map (· + 1) := by
  by_cases h : a = k <;> simp [List.findIdx?_cons, h]

theorem key_law : KeyLaw Try.prog 23 keyV where
  check := run_check_key
  bits := fun k => by simp [Instr.sameBits, beq_toListBytes]
  find := fun k es ks w h => by
    have ask : ∀ (es : List MapEntry) (ks : List Key) (i : Nat), es.map (·.key) = ks.map keyV →
        (Instr.findAsking 23 (keyV k) es i).run Try.prog w = .ok ((ks.findIdx? (· = k)).map fun j => (i + j, (es.map (·.val)).getD j undef)) w := by
      intro es
      induction es with
      | nil => intro ks i h; cases ks with | nil => simp [Instr.findAsking] | cons => simp at h
      | cons e es ih =>
        intro ks i h
        cases ks with
        | nil => simp at h
        | cons a ks =>
          simp only [List.map_cons, List.cons.injEq] at h
          have he : (Op.equal 23 (keyV k) e.key).run Try.prog w = .ok (decide (k = a)) w := by rw [h.1]; exact run_eq_key k a w
          rw [findIdx_shift]
          by_cases hk : a = k
          · subst hk
            simp [Instr.findAsking, he]
          · have hk' : ¬ k = a := fun e => hk e.symm
            simp only [Instr.findAsking, Sem.run_bind, he, hk', decide_false, Result.andThen_ok, Bool.false_eq_true, if_false]
            rw [ih ks (i + 1) h.2, if_neg hk]
            cases ks.findIdx? (· = k) <;> simp [Nat.add_assoc, Nat.add_comm 1]
    have hnow : Instr.findNow (.struct (Try.prog.fieldsOf 23)) (keyV k) es 0 = none ∨ es = [] := by
      cases es with
      | nil => exact .inr rfl
      | cons e es => left; simp [Instr.findNow, Instr.sameNow]
    have hu : Try.prog.underlying 23 = some (.struct (Try.prog.fieldsOf 23)) := by kernel_rfl
    rcases hnow with hn | rfl
    · have := ask es ks 0 h
      simp only [Nat.zero_add] at this
      simp [Instr.findKey, run_underlying hu, hn, this]
    · have : ks = [] := by simpa using h.symm
      subst this
      simp [Instr.findKey, run_underlying hu, Instr.findNow]

theorem int_law {kt : TypeId} (hu : Try.prog.underlying kt = some (.int .i64)) : KeyLaw Try.prog kt intV where
  check := fun e k w => run_check_plain e 9999 kt _ w (.inl ⟨_, hu⟩)
  bits := fun k => by simp [Instr.sameBits]
  find := fun k es ks w h => by
    have now : ∀ (es : List MapEntry) (ks : List Int) (i : Nat), es.map (·.key) = ks.map intV →
        Instr.findNow (.int .i64) (intV k) es i = some ((ks.findIdx? (· = k)).map fun j => (i + j, (es.map (·.val)).getD j undef)) := by
      intro es
      induction es with
      | nil => intro ks i h; cases ks with | nil => simp [Instr.findNow] | cons => simp at h
      | cons e es ih =>
        intro ks i h
        cases ks with
        | nil => simp at h
        | cons a ks =>
          simp only [List.map_cons, List.cons.injEq] at h
          rw [findIdx_shift]
          by_cases hk : a = k
          · subst hk
            simp [Instr.findNow, Instr.sameNow, h.1]
          · have hk' : (k == a) = false := by simpa using fun e : k = a => hk e.symm
            simp only [Instr.findNow, Instr.sameNow, h.1, hk', if_true]
            rw [ih ks (i + 1) h.2, if_neg hk]
            cases ks.findIdx? (· = k) <;> simp [Nat.add_assoc, Nat.add_comm 1]
    have := now es ks 0 h
    simp only [Nat.zero_add] at this
    simp [Instr.findKey, run_underlying hu, this]
end Go.Proofs.Cob

namespace Go.Proofs.Cob
open Go Go.RowKit Go.Cob
set_option linter.unusedSimpArgs false
set_option linter.unusedVariables false

def stampZ (x : Int) : Int := bits .andNot .u64 x 13835058055282163712
def lockZ (x : Int) : Int := bits .or .u64 x 9223372036854775808
def freeB (x : Int) : Bool := bits .and .u64 x 9223372036854775808 == 0
def unlockZ (x : Int) : Int := bits .andNot .u64 x 9223372036854775808
def absentZ (x : Int) (is : Bool) : Int := if is then bits .or .u64 x 4611686018427387904 else bits .andNot .u64 x 4611686018427387904
/-- Is a word's absent set? -/
def goneB (x : Int) : Bool := absentZ x true == x

theorem stamp_any (x : Int) (w : World) : Calls Try.prog 119 #[.int .u64 x] w fun e w' => e = .returned (.int .u64 (stampZ x)) ∧ w = w' := by
  go_enter Try.func119, Try.ntmps119
  go_wp2
  go_ret
  exact ⟨rfl, rfl⟩
theorem lock_any (x : Int) (w : World) : Calls Try.prog 118 #[.int .u64 x] w fun e w' => e = .returned (.tuple #[.int .u64 (lockZ x), .bool (freeB x)]) ∧ w = w' := by
  go_enter Try.func118, Try.ntmps118
  go_wp2
  go_ret2
  exact ⟨rfl, rfl⟩
theorem unlock_any (x : Int) (w : World) : Calls Try.prog 132 #[.int .u64 x] w fun e w' => e = .returned (.int .u64 (unlockZ x)) ∧ w = w' := by
  go_enter Try.func132, Try.ntmps132
  go_wp2
  go_ret
  exact ⟨rfl, rfl⟩
theorem absent_any (x : Int) (is : Bool) (w : World) : Calls Try.prog 117 #[.int .u64 x, .bool is] w fun e w' => e = .returned (.int .u64 (absentZ x is)) ∧ w = w' := by
  cases is <;>
  · go_enter Try.func117, Try.ntmps117
    go_wp2
    go_ret
    exact ⟨rfl, rfl⟩

/-- The cells of a slot. -/
abbrev slotCells (sl gen wd : Int) (text : ByteArray) (who : Int) : Array Value := #[.int .i64 sl, .int .i64 gen, .int .u64 wd, .string text, .int .i64 who]
/-- A slot at block x. -/
abbrev SlotAt (w : World) (x : Nat) (sl gen wd : Int) (text : ByteArray) (who : Int) : Prop := w.heap[x]? = some (.cells (slotCells sl gen wd text who) 183 (0, 0))

section
variable (x : Nat) (sl gen wd : Int) (text : ByteArray) (who : Int) (w : World) (hb : SlotAt w x sl gen wd text who)
include hb
theorem locked_any : Calls Try.prog 121 #[.pointer (some ⟨x, 0, none⟩)] w fun e w' => e = .returned (.bool (!freeB wd)) ∧ w = w' := by
  have c2 := cell_at 2 hb
  clear hb
  go_enter Try.func121, Try.ntmps121
  go_wp2_with (go_at_call 118; refine (lock_any _ _).mono ?_; rintro e w' ⟨rfl, rfl⟩)
  go_ret
  exact ⟨rfl, rfl⟩
theorem slotAbsent_any : Calls Try.prog 129 #[.pointer (some ⟨x, 0, none⟩)] w fun e w' => e = .returned (.bool (goneB wd)) ∧ ∃ p : Ext w, w' = p.w := by
  have c2 : ∀ p : Ext w, p.w.cell? ⟨x, 2, none⟩ = some (.int .u64 wd) := fun p => cell_at 2 (p.blkE hb)
  clear hb
  go_enter Try.func129, Try.ntmps129
  go_wp2_with fail
  refine wp_region_ch NoS (by kernel_rfl) (by kernel_rfl) (fun p _ => ?_)
  repeat (refine wpMix_step (fun K hK => ?_); go_simp; (with_reducible (refine hK _ _ ?_)); clear hK K)
  refine wpMix_step (fun K hK => ?_)
  go_simp
  refine (absent_any _ _ _).mono ?_
  rintro e w' ⟨rfl, rfl⟩
  refine ⟨⟨p, rfl⟩, hK _ _ ?_⟩
  clear hK K
  repeat (refine wpMix_step (fun K hK => ?_); go_simp; (with_reducible (refine hK _ _ ?_)); clear hK K)
  refine wpMix_nil ?_
  go_wp2
  go_ret
  exact ⟨rfl, p, rfl⟩
end
end Go.Proofs.Cob

namespace Go.Proofs.Cob
open Go Go.RowKit Go.Cob
set_option linter.unusedSimpArgs false
set_option linter.unusedVariables false

abbrev boolV (b : Bool) : Value := .bool b
structure ArenaSt where
  room : Int
  fresh : Int
  gens : List (Int × Int)
  taken : List (Int × Bool)
  free : List Int

def ArenaAt (w : World) (a g t : Nat) (fv : Value) (A : ArenaSt) : Prop :=
  w.heap[a]? = some (.cells #[.int .i64 A.room, .map (some g), .map (some t), fv, .int .i64 A.fresh] 200 (0, 0)) ∧
  MapAt intV intV w g A.gens ∧ MapAt intV boolV w t A.taken ∧ w.ownsRow 0 3 1 fv A.free.length (A.free.map intV) ∧ g ≠ t

theorem z3 (w : World) : (zeroValue 3).run Try.prog w = .ok (.int .i64 0) w := by kernel_rfl
theorem z4 (w : World) : (zeroValue 4).run Try.prog w = .ok (.bool false) w := by kernel_rfl

set_option maxHeartbeats 400000 in
theorem take_free (a g t : Nat) (fb cap : Nat) (A : ArenaSt) (w : World) (l : List Int) (s : Int) (hcap : l.length + 1 ≤ cap) (hA : ArenaAt w a g t (.slice (some ⟨fb, 0, none⟩) (l.length + 1) cap) A) (hl : A.free = l ++ [s]) :
    Calls Try.prog 116 #[.pointer (some ⟨a, 0, none⟩)] w fun e w' => e = .returned (.tuple #[.agg #[.int .i64 s, .int .i64 ((aget A.gens s).getD 0)], .int .i64 0]) ∧
      ∃ p : Ch (fun b => b = a ∨ b = t) w, w' = p.w ∧ ArenaAt p.w a g t (.slice (some ⟨fb, 0, none⟩) l.length cap) { A with free := l, taken := aput A.taken s true } := by
  obtain ⟨hb, hg, ht, hr, hgt⟩ := hA
  have c0 := cell_at 0 hb
  have c1 := cell_at 1 hb
  have c2 := cell_at 2 hb
  have c3 := cell_at 3 hb
  have c4 := cell_at 4 hb
  have f3 := frozen_at 3 hb
  have f4 := frozen_at 4 hb
  have hlt := lt_of_blk hb
  have hta := ht.ne_cells hb
  have hga := hg.ne_cells hb
  have hat : a ≠ t := Ne.symm hta
  have hag : a ≠ g := Ne.symm hga
  have htl := ht.lt
  have hgl := hg.lt
  have hnt : w.heap.size ≠ t := by omega
  have hlast : w.cell? ⟨fb, l.length, none⟩ = some (.int .i64 s) := by
    have := hr.cells (g := fb) rfl l.length (.int .i64 s) (by rw [hl]; simp)
    unfold Addr.add at this
    split at this <;> simp_all
  have hfb := World.block_lt_of_cell? w _ hlast
  simp only at hfb
  have hbound : l.length + 1 ≤ 9223372036854775807 := by
    obtain ⟨_, h | ⟨_, _, _, h, _, _, h2, h3, _⟩⟩ := hr
    · exact absurd h.1 (by simp)
    · have : A.free.length = l.length + 1 := by rw [hl]; simp
      unfold maxLen at h3
      simp at h
      omega
  go_enter Try.func116, Try.ntmps116
  have hrow := hr; clear hr
  go_wp2_with (first
    | (at_mapUpdate; go_must (refine wpList_put (K := int_law Try.underlying3) (encV := boolV) (k := s) (u := true) (l := A.taken) rfl _ _ _ rfl Try.underlying198 rfl rfl rfl ?hm ?_); go_must (case hm => exact ht.keep (by simp (disch := first | assumption | omega | (simp only [World.size_setCell, World.size_alloc, putO_size]; omega)) only [heap_set_other, heap_alloc_lt, putO_other])); intro ob hT)
    | (at_lookup; refine wpList_look (K := int_law Try.underlying3) (encV := intV) (k := s) (l := A.gens) (c := false) rfl _ _ rfl Try.underlying197 z3 rfl rfl ?hm2 (v := .int .i64 ((aget A.gens s).getD 0)) (by cases aget A.gens s <;> rfl) ?_; go_must (case hm2 => exact hg.keep (by simp (disch := first | assumption | omega | (simp only [World.size_setCell, World.size_alloc, putO_size]; omega)) only [heap_set_other, heap_alloc_lt, putO_other]))))
  refine bodyPost_ret (v := .tuple #[.agg #[.int .i64 s, .int .i64 ((aget A.gens s).getD 0)], .int .i64 0]) (by simp [results, Try.results116, go_sem, hnt]) rfl ⟨rfl, ?_⟩
  obtain ⟨_, hfbb⟩ := rowBlk hrow rfl
  have hfa : fb ≠ a := blkNe hfbb hb (by decide)
  have hft : fb ≠ t := fun e => ht.ne_cells hfbb e.symm
  refine ⟨((((((Ch.refl (fun b => b = a ∨ b = t) w).set a 3 (.slice (some ⟨fb, 0, none⟩) l.length cap) (fun _ => .inl rfl)).alloc (.cells #[.int .i64 0, .int .i64 0] 143)).putO t ob (fun _ => .inr rfl)).set w.heap.size 0 (.int .i64 s) (fun h => absurd h (Nat.lt_irrefl _))).set w.heap.size 1 (.int .i64 ((aget A.gens s).getD 0)) (fun h => absurd h (Nat.lt_irrefl _))), rfl, ?_, ?_, ?_, ?_, hgt⟩
  · show (World.setCell (World.setCell (putO (World.alloc (World.setCell w _ _) _) t ob) _ _) _ _).heap[a]? = _
    simp (disch := (first | assumption | omega | (simp only [World.size_setCell, World.size_alloc, World.size_drew, putO_size]; omega))) only [Ch.set_w, Ch.alloc_w, Ch.putO_w, Ch.refl_w, Ch.thenE_w, Ch.then_w, Ch.mono_w, Ch.up_w, Ch.onto_w, heap_set_other, heap_alloc_lt, putO_other]
    have := heap_set_same hb 3 (.slice (some ⟨fb, 0, none⟩) l.length cap)
    simpa using this
  · exact hg.keep (by simp (disch := (first | assumption | omega | (simp only [World.size_setCell, World.size_alloc, World.size_drew, putO_size]; omega))) only [Ch.set_w, Ch.alloc_w, Ch.putO_w, Ch.refl_w, Ch.thenE_w, Ch.then_w, Ch.mono_w, Ch.up_w, Ch.onto_w, heap_set_other, heap_alloc_lt, putO_other])
  · exact hT.keep (by simp (disch := (first | assumption | omega | (simp only [World.size_setCell, World.size_alloc, World.size_drew, putO_size]; omega))) only [Ch.set_w, Ch.alloc_w, Ch.putO_w, Ch.refl_w, Ch.thenE_w, Ch.then_w, Ch.mono_w, Ch.up_w, Ch.onto_w, heap_set_other, heap_alloc_lt, putO_other])
  · refine rowKeep (rowPop (x := intV s) (xs := l.map intV) (by simpa [hl] using hrow)) (fun g' hg' => ?_)
    simp [Value.ownBlock] at hg'
    subst hg'
    exact (by simp (disch := (first | assumption | omega | (simp only [World.size_setCell, World.size_alloc, World.size_drew, putO_size]; omega))) only [Ch.set_w, Ch.alloc_w, Ch.putO_w, Ch.refl_w, Ch.thenE_w, Ch.then_w, Ch.mono_w, Ch.up_w, Ch.onto_w, heap_set_other, heap_alloc_lt, putO_other])

set_option maxHeartbeats 400000 in
theorem take_full (a g t : Nat) (fa : Option Addr) (cap : Nat) (A : ArenaSt) (w : World) (hA : ArenaAt w a g t (.slice fa 0 cap) A) (hr : (A.fresh == A.room) = true) :
    Calls Try.prog 116 #[.pointer (some ⟨a, 0, none⟩)] w fun e w' => e = .returned (.tuple #[.agg #[.int .i64 0, .int .i64 0], .int .i64 50]) ∧ ∃ p : Ext w, w' = p.w := by
  obtain ⟨hb, hg, ht, hrow, hgt⟩ := hA
  have c0 := cell_at 0 hb; have c1 := cell_at 1 hb; have c2 := cell_at 2 hb; have c3 := cell_at 3 hb; have c4 := cell_at 4 hb
  have hlt := lt_of_blk hb
  clear hb hg ht hrow
  go_enter Try.func116, Try.ntmps116
  go_wp2
  refine bodyPost_ret (v := .tuple #[.agg #[.int .i64 0, .int .i64 0], .int .i64 50]) (by simp [results, Try.results116, go_sem]) rfl ⟨rfl, (Ch.refl _ w).alloc _, rfl⟩

set_option maxHeartbeats 400000 in
theorem take_fresh (a g t : Nat) (fa : Option Addr) (cap : Nat) (A : ArenaSt) (w : World) (hA : ArenaAt w a g t (.slice fa 0 cap) A) (hf : A.free = []) (hr : (A.fresh == A.room) = false) (h0 : 0 ≤ A.fresh) (h1 : A.fresh < 2000000) :
    Calls Try.prog 116 #[.pointer (some ⟨a, 0, none⟩)] w fun e w' => e = .returned (.tuple #[.agg #[.int .i64 A.fresh, .int .i64 ((aget A.gens A.fresh).getD 0)], .int .i64 0]) ∧
      ∃ p : Ch (fun b => b = a ∨ b = t) w, w' = p.w ∧ ArenaAt p.w a g t (.slice fa 0 cap) { A with fresh := A.fresh + 1, taken := aput A.taken A.fresh true } := by
  obtain ⟨hb, hg, ht, hrow, hgt⟩ := hA
  have c0 := cell_at 0 hb; have c1 := cell_at 1 hb; have c2 := cell_at 2 hb; have c3 := cell_at 3 hb; have c4 := cell_at 4 hb
  have f3 := frozen_at 3 hb
  have f4 := frozen_at 4 hb
  have hlt := lt_of_blk hb
  have hta := ht.ne_cells hb
  have hga := hg.ne_cells hb
  have hat : a ≠ t := Ne.symm hta
  have hag : a ≠ g := Ne.symm hga
  have htl := ht.lt
  have hgl := hg.lt
  have hnt : w.heap.size ≠ t := by omega
  go_enter Try.func116, Try.ntmps116
  clear hf
  go_wp2_with (first
    | (at_mapUpdate; go_must (refine wpList_put (K := int_law Try.underlying3) (encV := boolV) (k := A.fresh) (u := true) (l := A.taken) rfl _ _ _ rfl Try.underlying198 rfl rfl rfl ?hm ?_); go_must (case hm => exact ht.keep (by simp (disch := (first | assumption | omega | (simp only [World.size_setCell, World.size_alloc, World.size_drew, putO_size]; omega))) only [Ch.set_w, Ch.alloc_w, Ch.putO_w, Ch.refl_w, Ch.thenE_w, Ch.then_w, Ch.mono_w, Ch.up_w, Ch.onto_w, heap_set_other, heap_alloc_lt, putO_other])); intro ob hT)
    | (at_lookup; go_must (refine wpList_look (K := int_law Try.underlying3) (encV := intV) (k := A.fresh) (l := A.gens) (c := false) rfl _ _ rfl Try.underlying197 z3 rfl rfl ?hm2 (v := .int .i64 ((aget A.gens A.fresh).getD 0)) (by cases aget A.gens A.fresh <;> rfl) ?_); go_must (case hm2 => exact hg.keep (by simp (disch := (first | assumption | omega | (simp only [World.size_setCell, World.size_alloc, World.size_drew, putO_size]; omega))) only [Ch.set_w, Ch.alloc_w, Ch.putO_w, Ch.refl_w, Ch.thenE_w, Ch.then_w, Ch.mono_w, Ch.up_w, Ch.onto_w, heap_set_other, heap_alloc_lt, putO_other]))))
  refine bodyPost_ret (v := .tuple #[.agg #[.int .i64 A.fresh, .int .i64 ((aget A.gens A.fresh).getD 0)], .int .i64 0]) (by simp [results, Try.results116, go_sem, hnt]) rfl ⟨rfl, ?_⟩
  refine ⟨((((((Ch.refl (fun b => b = a ∨ b = t) w).set a 4 (.int .i64 (A.fresh + 1)) (fun _ => .inl rfl)).alloc (.cells #[.int .i64 0, .int .i64 0] 143)).putO t ob (fun _ => .inr rfl)).set w.heap.size 0 (.int .i64 A.fresh) (fun h => absurd h (Nat.lt_irrefl _))).set w.heap.size 1 (.int .i64 ((aget A.gens A.fresh).getD 0)) (fun h => absurd h (Nat.lt_irrefl _))), rfl, ?_, ?_, ?_, ?_, hgt⟩
  · simp (disch := (first | assumption | omega | (simp only [World.size_setCell, World.size_alloc, World.size_drew, putO_size]; omega))) only [Ch.set_w, Ch.alloc_w, Ch.putO_w, Ch.refl_w, Ch.thenE_w, Ch.then_w, Ch.mono_w, Ch.up_w, Ch.onto_w, heap_set_other, heap_alloc_lt, putO_other]
    have := heap_set_same hb 4 (.int .i64 (A.fresh + 1))
    simpa using this
  · exact hg.keep (by simp (disch := (first | assumption | omega | (simp only [World.size_setCell, World.size_alloc, World.size_drew, putO_size]; omega))) only [Ch.set_w, Ch.alloc_w, Ch.putO_w, Ch.refl_w, Ch.thenE_w, Ch.then_w, Ch.mono_w, Ch.up_w, Ch.onto_w, heap_set_other, heap_alloc_lt, putO_other])
  · exact hT.keep (by simp (disch := (first | assumption | omega | (simp only [World.size_setCell, World.size_alloc, World.size_drew, putO_size]; omega))) only [Ch.set_w, Ch.alloc_w, Ch.putO_w, Ch.refl_w, Ch.thenE_w, Ch.then_w, Ch.mono_w, Ch.up_w, Ch.onto_w, heap_set_other, heap_alloc_lt, putO_other])
  · refine rowKeep hrow (fun g' hg' => ?_)
    obtain ⟨_, hfbb⟩ := rowBlk hrow hg'
    have hfa : g' ≠ a := blkNe hfbb hb (by decide)
    have hft : g' ≠ t := fun e => ht.ne_cells hfbb e.symm
    have hfl := lt_of_blk hfbb
    exact (by simp (disch := (first | assumption | omega | (simp only [World.size_setCell, World.size_alloc, World.size_drew, putO_size]; omega))) only [Ch.set_w, Ch.alloc_w, Ch.putO_w, Ch.refl_w, Ch.thenE_w, Ch.then_w, Ch.mono_w, Ch.up_w, Ch.onto_w, heap_set_other, heap_alloc_lt, putO_other])

theorem arenaNew_bad (room : Int) (w : World) (h : room < 0 ∨ 1048576 < room) :
    Calls Try.prog 115 #[.int .i64 room] w fun e w' => e = .returned (.tuple #[.pointer none, .int .i64 2]) ∧ w = w' := by
  have hmm := @run_makeMap Try.prog
  by_cases h1 : room < 0
  · go_enter Try.func115, Try.ntmps115
    go_wp2
    go_ret2
    exact ⟨rfl, rfl⟩
  · have h2 : 1048576 < room := by omega
    go_enter Try.func115, Try.ntmps115
    go_wp2
    go_ret2
    exact ⟨rfl, rfl⟩

theorem arenaNew_ok (room : Int) (w : World) (h0 : 0 ≤ room) (h1 : room ≤ 1048576) :
    Calls Try.prog 115 #[.int .i64 room] w fun e w' => ∃ p : Ext w, w' = p.w ∧ e = .returned (.tuple #[.pointer (some ⟨w.heap.size + 2, 0, none⟩), .int .i64 0]) ∧
      p.w.heap.size = w.heap.size + 3 ∧ ArenaAt p.w (w.heap.size + 2) w.heap.size (w.heap.size + 1) (.slice none 0 0) ⟨room, 0, [], [], []⟩ := by
  have hmm := @run_makeMap Try.prog
  go_enter Try.func115, Try.ntmps115
  go_wp2
  go_ret2
  refine ⟨(((Ch.refl _ w).alloc (.map #[] 0)).alloc (.map #[] 0)).alloc (.cells #[.int .i64 room, .map (some w.heap.size), .map (some (w.heap.size + 1)), .slice none 0 0, .int .i64 0] 200), rfl, rfl, ?_, ?_⟩
  · simp
  · refine ⟨heap_alloc_eq _ (by simp), ?_, ?_, World.ownsRow_nil _ _ _ _, by omega⟩
    · refine (MapAt.made (encK := intV) (encV := intV) w).keep ?_
      show (World.alloc (World.alloc (World.alloc w _) _) _).heap[w.heap.size]? = _
      rw [heap_alloc_lt _ (by simp; omega), heap_alloc_lt _ (by simp)]
    · refine (MapAt.made' (encK := intV) (encV := boolV) (w := w.alloc (.map #[] 0)) (n := w.heap.size + 1) (by simp)).keep ?_
      show (World.alloc (World.alloc (World.alloc w _) _) _).heap[w.heap.size + 1]? = _
      rw [heap_alloc_lt _ (by simp)]
end Go.Proofs.Cob

namespace Go.Proofs.Cob
open Go Go.RowKit Go.Cob
set_option linter.unusedSimpArgs false
set_option linter.unusedVariables false

structure Ids where
  s : Nat
  a : Nat
  m : Nat
  g : Nat
  t : Nat
structure Slot where
  x : Nat
  sl : Int
  gen : Int
  wd : Int
  text : ByteArray
  who : Int
abbrev slotV (z : Slot) : Value := .pointer (some ⟨z.x, 0, none⟩)
abbrev SlotIn (w : World) (z : Slot) : Prop := SlotAt w z.x z.sl z.gen z.wd z.text z.who

structure StoreAt (w : World) (I : Ids) (fv : Value) (A : ArenaSt) (l : List (Key × Slot)) : Prop where
  st : w.heap[I.s]? = some (.cells #[.pointer (some ⟨I.a, 0, none⟩), .map (some I.m)] 58 (0, 0))
  ar : ArenaAt w I.a I.g I.t fv A
  mp : MapAt keyV slotV w I.m l
  slots : ∀ p ∈ l, SlotIn w p.2
  nodup : (l.map (·.2.x)).Nodup
  mg : I.m ≠ I.g
  mt : I.m ≠ I.t

theorem aget_mem {α β : Type} [DecidableEq α] {l : List (α × β)} {k : α} {v : β} (h : aget l k = some v) : (k, v) ∈ l := by
  unfold aget at h
  obtain ⟨p, hp, rfl⟩ := Option.map_eq_some_iff.1 h
  have h1 := List.find?_some hp
  have h2 := List.mem_of_find?_eq_some hp
  simp at h1
  subst h1
  exact h2

theorem z178 (w : World) : (zeroValue 178).run Try.prog w = .ok (.pointer none) w := by kernel_rfl

/-- A callee's contract that lays blocks alone, met in a world of a class. -/
theorem _root_.Go.Cob.Calls.inCh {P : Program} {f : FuncId} {args : Array Value} {S : Nat → Prop} {w0 : World} {p : Ch S w0} {v : Value}
    (h : Calls P f args p.w fun e w' => e = .returned v ∧ ∃ q : Ext p.w, w' = q.w) : Calls P f args p.w fun e w' => e = .returned v ∧ ∃ p' : Ch S w0, w' = p'.w :=
  h.mono fun _ _ ⟨he, q, hq⟩ => ⟨he, p.thenE q, hq⟩

/-- The blocks that a store is made of. -/
def Foot (I : Ids) (fv : Value) (l : List (Key × Slot)) (b : Nat) : Prop :=
  b = I.s ∨ b = I.a ∨ b = I.m ∨ b = I.g ∨ b = I.t ∨ fv.ownBlock = some b ∨ ∃ p ∈ l, p.2.x = b

theorem ArenaAt.keep {w w' : World} {a g t : Nat} {fv : Value} {A : ArenaSt} (h : ArenaAt w a g t fv A) (ea : w'.heap[a]? = w.heap[a]?) (eg : w'.heap[g]? = w.heap[g]?) (et : w'.heap[t]? = w.heap[t]?)
    (ef : ∀ b, fv.ownBlock = some b → w'.heap[b]? = w.heap[b]?) : ArenaAt w' a g t fv A := by
  obtain ⟨h1, h2, h3, h4, h5⟩ := h
  exact ⟨ea.trans h1, h2.keep eg, h3.keep et, rowKeep h4 ef, h5⟩

theorem StoreAt.lt {w : World} {I : Ids} {fv : Value} {A : ArenaSt} {l : List (Key × Slot)} (h : StoreAt w I fv A l) {b : Nat} (hb : Foot I fv l b) : b < w.heap.size := by
  rcases hb with rfl | rfl | rfl | rfl | rfl | hb | ⟨p, hp, rfl⟩
  · exact lt_of_blk h.st
  · exact lt_of_blk h.ar.1
  · exact h.mp.lt
  · exact h.ar.2.1.lt
  · exact h.ar.2.2.1.lt
  · obtain ⟨_, hc⟩ := rowBlk h.ar.2.2.2.1 hb; exact lt_of_blk hc
  · exact lt_of_blk (h.slots p hp)

theorem StoreAt.keep {w w' : World} {I : Ids} {fv : Value} {A : ArenaSt} {l : List (Key × Slot)} (h : StoreAt w I fv A l) (he : ∀ b, Foot I fv l b → w'.heap[b]? = w.heap[b]?) : StoreAt w' I fv A l where
  st := (he _ (.inl rfl)).trans h.st
  ar := h.ar.keep (he _ (.inr (.inl rfl))) (he _ (.inr (.inr (.inr (.inl rfl))))) (he _ (.inr (.inr (.inr (.inr (.inl rfl)))))) fun b hb => he b (.inr (.inr (.inr (.inr (.inr (.inl hb))))))
  mp := h.mp.keep (he _ (.inr (.inr (.inl rfl))))
  slots := fun p hp => (he _ (.inr (.inr (.inr (.inr (.inr (.inr ⟨p, hp, rfl⟩))))))).trans (h.slots p hp)
  nodup := h.nodup
  mg := h.mg
  mt := h.mt

theorem StoreAt.ext {w : World} {I : Ids} {fv : Value} {A : ArenaSt} {l : List (Key × Slot)} (h : StoreAt w I fv A l) (p : Ext w) : StoreAt p.w I fv A l :=
  h.keep fun b hb => p.same b (h.lt hb) id
theorem StoreAt.alloc {w : World} {I : Ids} {fv : Value} {A : ArenaSt} {l : List (Key × Slot)} (h : StoreAt w I fv A l) (o : Obj) : StoreAt (w.alloc o) I fv A l :=
  h.keep fun b hb => heap_alloc_lt o (h.lt hb)

def holdsB (l : List (Key × Slot)) (k : Key) (who : Int) : Bool := match aget l k with | none => false | some z => !freeB z.wd && (z.who == who)

abbrev keyCells (kd ka kb : Int) (ks : ByteArray) : Array Value := #[.int .i64 kd, .int .i64 ka, .int .i64 kb, .string ks]

set_option maxHeartbeats 400000 in
theorem holds_any (I : Ids) (fv : Value) (A : ArenaSt) (l : List (Key × Slot)) (kd ka kb : Int) (ks : ByteArray) (who : Int) (w : World) (h : StoreAt w I fv A l) :
    Calls Try.prog 120 #[.pointer (some ⟨I.s, 0, none⟩), .agg #[.int .i64 kd, .int .i64 ka, .int .i64 kb, .string ks], .int .i64 who] w fun e w' =>
      e = .returned (.bool (holdsB l ⟨kd, ka, kb, ks⟩ who)) ∧ ∃ p : Ext w, w' = p.w := by
  obtain ⟨W, hW⟩ : ∃ W, W = w.alloc (.cells (keyCells kd ka kb ks) 23) := ⟨_, rfl⟩
  have hkb : W.heap[w.heap.size]? = some (.cells (keyCells kd ka kb ks) 23 (0, 0)) := by rw [hW]; exact heap_alloc_at _ _
  have hS : StoreAt W I fv A l := by rw [hW]; exact h.alloc _
  have fin : ∀ p : Ext W, ∃ q : Ext w, p.w = q.w := fun p => ⟨((Ch.refl NoS w).alloc _).onto hW p (fun _ _ h => h), rfl⟩
  have k0 : ∀ p : Ext W, p.w.cell? ⟨w.heap.size, 0, none⟩ = some (.int .i64 kd) := fun p => cell_at 0 (p.blkE hkb); have k1 : ∀ p : Ext W, p.w.cell? ⟨w.heap.size, 1, none⟩ = some (.int .i64 ka) := fun p => cell_at 1 (p.blkE hkb); have k2 : ∀ p : Ext W, p.w.cell? ⟨w.heap.size, 2, none⟩ = some (.int .i64 kb) := fun p => cell_at 2 (p.blkE hkb); have k3 : ∀ p : Ext W, p.w.cell? ⟨w.heap.size, 3, none⟩ = some (.string ks) := fun p => cell_at 3 (p.blkE hkb)
  have m1 : ∀ p : Ext W, p.w.cell? ⟨I.s, 1, none⟩ = some (.map (some I.m)) := fun p => cell_at 1 (hS.ext p).st
  go_enter Try.func120, Try.ntmps120
  clear h
  cases hg : aget l ⟨kd, ka, kb, ks⟩ with
  | none =>
    have hv : holdsB l ⟨kd, ka, kb, ks⟩ who = false := by simp [holdsB, hg]
    rw [hv]
    clear hv
    go_wp2_with fail
    rw [← hW]
    clear hW
    refine wp_region_ch NoS (by kernel_rfl) (by kernel_rfl) (fun p _ => ?_)
    (repeat (first | (refine wpMix_skip rfl rfl ?_) | (refine wpMix_step (fun K hK => ?_); go_simp; (with_reducible (refine hK _ _ ?_)); clear hK K)))
    refine wpMix_look (K := key_law) (encV := slotV) (k := ⟨kd, ka, kb, ks⟩) (l := l) (c := false) rfl _ _ rfl Try.underlying56 z178 rfl rfl (fun w' ⟨q, hq⟩ => by rw [hq]; exact (hS.ext q).mp) (v := .pointer none) (by rw [hg]; rfl) ?_
    clear hg
    (repeat (first | (refine wpMix_skip rfl rfl ?_) | (refine wpMix_step (fun K hK => ?_); go_simp; (with_reducible (refine hK _ _ ?_)); clear hK K)))
    refine wpMix_nil ?_
    go_wp2
    go_ret
    exact ⟨rfl, fin p⟩
  | some z =>
    have hz : ∀ p : Ext W, SlotIn p.w z := fun p => (hS.ext p).slots _ (aget_mem hg)
    have z4 : ∀ p : Ext W, p.w.cell? ⟨z.x, 4, none⟩ = some (.int .i64 z.who) := fun p => cell_at 4 (hz p)
    cases hf : freeB z.wd with
    | true =>
      have hv : holdsB l ⟨kd, ka, kb, ks⟩ who = false := by simp [holdsB, hg, hf]
      rw [hv]
      clear hv
      go_wp2_with fail
      rw [← hW]
      clear hW
      refine wp_region_ch NoS (by kernel_rfl) (by kernel_rfl) (fun p _ => ?_)
      (repeat (first | (refine wpMix_skip rfl rfl ?_) | (refine wpMix_step (fun K hK => ?_); go_simp; (with_reducible (refine hK _ _ ?_)); clear hK K)))
      refine wpMix_look (K := key_law) (encV := slotV) (k := ⟨kd, ka, kb, ks⟩) (l := l) (c := false) rfl _ _ rfl Try.underlying56 z178 rfl rfl (fun w' ⟨q, hq⟩ => by rw [hq]; exact (hS.ext q).mp) (v := .pointer (some ⟨z.x, 0, none⟩)) (by rw [hg]; rfl) ?_
      clear hg
      (repeat (first | (refine wpMix_skip rfl rfl ?_) | (refine wpMix_step (fun K hK => ?_); go_simp; (with_reducible (refine hK _ _ ?_)); clear hK K)))
      refine wpMix_nil ?_
      go_wp2_with (go_at_call 121; go_must (refine (locked_any _ _ _ _ _ _ _ (hz p)).mono ?_); rintro e w' ⟨rfl, rfl⟩; rw [hf])
      go_ret
      exact ⟨rfl, fin p⟩
    | false =>
      have hv : holdsB l ⟨kd, ka, kb, ks⟩ who = (z.who == who) := by simp [holdsB, hg, hf]
      rw [hv]
      clear hv
      go_wp2_with fail
      rw [← hW]
      clear hW
      refine wp_region_ch NoS (by kernel_rfl) (by kernel_rfl) (fun p _ => ?_)
      (repeat (first | (refine wpMix_skip rfl rfl ?_) | (refine wpMix_step (fun K hK => ?_); go_simp; (with_reducible (refine hK _ _ ?_)); clear hK K)))
      refine wpMix_look (K := key_law) (encV := slotV) (k := ⟨kd, ka, kb, ks⟩) (l := l) (c := false) rfl _ _ rfl Try.underlying56 z178 rfl rfl (fun w' ⟨q, hq⟩ => by rw [hq]; exact (hS.ext q).mp) (v := .pointer (some ⟨z.x, 0, none⟩)) (by rw [hg]; rfl) ?_
      clear hg
      (repeat (first | (refine wpMix_skip rfl rfl ?_) | (refine wpMix_step (fun K hK => ?_); go_simp; (with_reducible (refine hK _ _ ?_)); clear hK K)))
      refine wpMix_nil ?_
      go_wp2_with (go_at_call 121; go_must (refine (locked_any _ _ _ _ _ _ _ (hz p)).mono ?_); rintro e w' ⟨rfl, rfl⟩; rw [hf])
      go_ret
      exact ⟨rfl, fin p⟩

/-! ### slots that are read -/
theorem has_any (x : Nat) (sl gen wd : Int) (text : ByteArray) (who : Int) (w : World) (hb : SlotAt w x sl gen wd text who) :
    Calls Try.prog 169 #[.pointer (some ⟨x, 0, none⟩)] w fun e w' => e = .returned (.bool (!goneB wd)) ∧ ∃ p : Ext w, w' = p.w := by
  go_enter Try.func169, Try.ntmps169
  go_wp2_with (go_at_call 129; go_must (refine (slotAbsent_any _ _ _ _ _ _ _ hb).mono ?_); rintro e w' ⟨rfl, p, rfl⟩)
  go_ret
  exact ⟨rfl, p, rfl⟩

abbrev seenV (wd : Int) (text : ByteArray) (has : Bool) : Value := .agg #[.int .u64 wd, .string text, .bool has]

set_option maxHeartbeats 400000 in
theorem slotSeen_any (x : Nat) (sl gen wd : Int) (text : ByteArray) (who : Int) (w : World) (hb : SlotAt w x sl gen wd text who) :
    Calls Try.prog 122 #[.pointer (some ⟨x, 0, none⟩)] w fun e w' => e = .returned (seenV (stampZ wd) text (!goneB wd)) ∧ ∃ p : Ext w, w' = p.w := by
  obtain ⟨n, hn⟩ : ∃ n, n = w.heap.size := ⟨_, rfl⟩
  obtain ⟨W, hW⟩ : ∃ W, W = w.alloc (.cells #[.int .u64 0, .string ⟨#[]⟩, .bool false] 37) := ⟨_, rfl⟩
  have hnb : W.heap[n]? = some (.cells #[.int .u64 0, .string ⟨#[]⟩, .bool false] 37 (0, 0)) := by rw [hW, hn]; exact heap_alloc_at _ _
  have hx : SlotAt W x sl gen wd text who := by rw [hW]; exact heap_alloc_blk _ hb
  have hxn : x ≠ n := by have := lt_of_blk hb; omega
  have hx' : ∀ p : Ch (fun b => b = n) W, SlotAt p.w x sl gen wd text who := fun p => p.blk hx hxn
  have s2 : ∀ p : Ch (fun b => b = n) W, p.w.cell? ⟨x, 2, none⟩ = some (.int .u64 wd) := fun p => cell_at 2 (hx' p)
  have s3 : ∀ p : Ch (fun b => b = n) W, p.w.cell? ⟨x, 3, none⟩ = some (.string text) := fun p => cell_at 3 (hx' p)
  have fin : ∀ p : Ch (fun b => b = n) W, ∃ q : Ext w, p.w = q.w := fun p => ⟨((Ch.refl NoS w).alloc _).onto hW p (fun b hb h => by omega), rfl⟩
  go_enter Try.func122, Try.ntmps122
  clear hb
  go_wp2_with fail
  rw [← hn, ← hW]
  clear hW hx hn
  refine wp_region_ch (fun b => b = n) (by kernel_rfl) (by kernel_rfl) (fun p hp => ?_)
  have hnp : p.w.heap[n]? = some (.cells #[.int .u64 0, .string ⟨#[]⟩, .bool false] 37 (0, 0)) := by rw [hp]; exact hnb
  clear hp
  (repeat (first | (refine wpMix_skip rfl rfl ?_) | (refine wpMix_step (fun K hK => ?_); go_simp; (with_reducible (refine hK _ _ ?_)); clear hK K)))
  refine wpMix_step (fun K hK => ?_); go_simp; refine (stamp_any _ _).mono ?_; rintro e w' ⟨rfl, rfl⟩; refine ⟨⟨p, rfl⟩, hK _ _ ?_⟩; clear hK K
  (repeat (first | (refine wpMix_skip rfl rfl ?_) | (refine wpMix_step (fun K hK => ?_); go_simp; (with_reducible (refine hK _ _ ?_)); clear hK K)))
  refine wpMix_step (fun K hK => ?_); go_simp
  refine (has_any _ _ _ _ _ _ _ (hx' p)).mono ?_
  rintro e w' ⟨rfl, q, rfl⟩
  refine ⟨⟨p.thenE q, rfl⟩, hK _ _ ?_⟩; clear hK K
  have hnq := q.blkE hnp
  obtain ⟨p2, hp2⟩ : ∃ p2 : Ch (fun b => b = n) W, q.w = p2.w := ⟨p.thenE q, rfl⟩
  rw [hp2] at hnq ⊢
  clear hp2 q hnp
  (repeat (first | (refine wpMix_skip rfl rfl ?_) | (refine wpMix_step (fun K hK => ?_); go_simp; (with_reducible (refine hK _ _ ?_)); clear hK K)))
  have n0 := cell_at 0 hnq
  have n1 := cell_at 1 hnq
  have n2 := cell_at 2 hnq
  have nf0 := frozen_at 0 hnq
  have nf1 := frozen_at 1 hnq
  have nf2 := frozen_at 2 hnq
  refine wpMix_step (fun K hK => ?_); go_simp
  refine ⟨⟨((p2.set n 0 (.int .u64 (stampZ wd)) (fun _ => rfl)).set n 1 (.string text) (fun _ => rfl)).set n 2 (.bool (!goneB wd)) (fun _ => rfl), rfl⟩, hK _ _ ?_⟩; clear hK K
  refine wpMix_nil ?_
  go_wp2
  refine bodyPost_ret (v := seenV (stampZ wd) text (!goneB wd)) (by simp [results, Try.results122, go_sem, n0, n1, n2, nf0, nf1, nf2]) rfl ⟨rfl, ?_⟩
  exact fin (((p2.set n 0 (.int .u64 (stampZ wd)) (fun _ => rfl)).set n 1 (.string text) (fun _ => rfl)).set n 2 (.bool (!goneB wd)) (fun _ => rfl))
end Go.Proofs.Cob
