/-
  ANY ORDER OF A REGION WHOSE EFFECTS STAND IN A CHAIN: one walk in the order of the text serves every order.
  Readers (operations that hand back one value in every world of a class and turn nothing) may come at any time; effects (calls, stores, new blocks) wait for one another.
-/
import Derived.Deep.Quiet
import Derived.Deep.QuietTactic
import Derived.KernelRfl
import Derived.WalkKit
namespace Go.Cob

/-- What a reader's run must come to: the value v, in the world that it got. -/
@[go_sem] def readsUpon (w : World) (v : Value) : Result Next → Prop
  | .ok (.value u) w' => w' = w ∧ u = v
  | .ok .skip w' => w' = w ∧ v = undef
  | _ => False

@[go_sem] def readsAt (P : Program) (o : Oper) (a : Act) (w : World) (v : Value) : Prop := readsUpon w v ((execOp a.eval o).run P w)

theorem readsAt_uniq {P : Program} {o : Oper} {a : Act} {w : World} {v u : Value} (h : readsAt P o a w v) (k : readsAt P o a w u) : v = u := by
  unfold readsAt at h k
  generalize (execOp a.eval o).run P w = r at h k
  cases r with
  | ok n w' => cases n <;> simp only [readsUpon] at h k <;> first | exact h.2.symm.trans k.2 | exact h.2.trans k.2.symm | exact h.elim
  | halt x w' => exact h.elim

/-- What an effect's run must come to: a value, or a call that returns. -/
@[go_sem] def effUpon (P : Program) (o : Oper) (a : Act) (K : Act → World → Prop) : Result Next → Prop
  | .ok (.value v) w' => K (a.put o.dst v) w'
  | .ok .skip w' => K (a.put o.dst undef) w'
  | .ok (.enter f args) w' => Calls P f args w' fun
      | .returned v, w'' => K (a.put o.dst v) w''
      | _, _ => False
  | _ => False

@[go_sem] def effAt (P : Program) (o : Oper) (a : Act) (w : World) (K : Act → World → Prop) : Prop := effUpon P o a K ((execOp a.eval o).run P w)

/-- Has an operation an effect (a call, a store, a new block)? -/
def isEff (o : Oper) : Bool :=
  match o.op with
  | .call c => match c.callee with
    | .builtin .len | .builtin .cap | .builtin .min | .builtin .max => false
    | _ => true
  | .alloc _ | .box .. | .buildSlice .. | .insert .. | .store .. | .mapUpdate .. | .makeMap .. | .makeSlice .. | .range .. | .next .. | .panic .. | .entryStore .. | .mapEntry .. | .go .. | .defer .. | .send .. | .recv .. | .select .. | .makeChan .. => true
  | _ => false

/-- The walk in the order of the text. -/
def wpMix (P : Program) (ops : Array Oper) (C : World → Prop) (Q : Act → World → Prop) : List Oper → Act → World → Prop
  | [], a, w => Q a w
  | o :: rest, a, w =>
    True ∧ (if Region.wanted o (yielded ops a.tmps) = true then
      if isEff o = true then True ∧ effAt P o a w (fun a' w' => C w' ∧ wpMix P ops C Q rest a' w')
      else ∃ v, (∀ w', C w' → readsAt P o a w' v) ∧ wpMix P ops C Q rest (a.put o.dst v) w
    else wpMix P ops C Q rest (a.put o.dst undef) w)

section
variable {P : Program} {ops : Array Oper} {C : World → Prop}

/-! ### wp of one operation -/
theorem effUpon_put {o : Oper} {a b : Act} {K K' : Act → World → Prop} {r : Result Next}
    (h : ∀ u w, K (a.put o.dst u) w → K' (b.put o.dst u) w) (hh : effUpon P o a K r) : effUpon P o b K' r := by
  cases r with
  | halt x w' => exact hh.elim
  | ok n w' =>
    cases n <;> simp only [effUpon] at hh ⊢ <;> first
      | exact h _ _ hh
      | exact hh.mono fun e w'' he => by cases e <;> first | exact h _ _ he | exact he

theorem effUpon_some {o : Oper} {a : Act} {K : Act → World → Prop} {r : Result Next} (hh : effUpon P o a K r) : ∃ u w', K (a.put o.dst u) w' := by
  cases r with
  | halt x w' => exact hh.elim
  | ok n w' =>
    cases n <;> simp only [effUpon] at hh <;> first
      | exact ⟨_, _, hh⟩
      | (obtain ⟨e, w'', fr, hr, _⟩ := hh []
         cases e <;> first | exact ⟨_, _, hr⟩ | exact hr.elim)

theorem wp_of_effAt {o : Oper} {a : Act} {w : World} {K : Act → World → Prop} {Q : Exit → Act → World → Prop} (h : effAt P o a w K) : o.wp P a w K Q := by
  unfold effAt at h
  unfold Oper.wp
  generalize (execOp a.eval o).run P w = r at h ⊢
  cases r with
  | halt x w' => exact h.elim
  | ok n w' =>
    cases n <;> simp only [effUpon] at h <;> simp only [Oper.upon] <;> first
      | exact h
      | exact h.mono fun e w'' he => by cases e <;> first | exact he | exact he.elim

theorem wp_of_readsAt {o : Oper} {a : Act} {w : World} {v : Value} {K : Act → World → Prop} {Q : Exit → Act → World → Prop} (h : readsAt P o a w v) (hk : K (a.put o.dst v) w) : o.wp P a w K Q := by
  unfold readsAt at h
  unfold Oper.wp
  generalize (execOp a.eval o).run P w = r at h ⊢
  cases r with
  | halt x w' => exact h.elim
  | ok n w' =>
    cases n <;> simp only [readsUpon] at h <;> simp only [Oper.upon] <;> first
      | (obtain ⟨rfl, rfl⟩ := h; exact hk)
      | exact h.elim

/-! ### two operations that stand apart -/
theorem readsAt_put {o p : Oper} (hs : ∀ cs b, o.op ≠ .select cs b) (h : ∀ d, p.dst = some d → d ∉ o.looksAt ops) (a : Act) (u : Value) (w : World) (v : Value) :
    readsAt P o (a.put p.dst u) w v ↔ readsAt P o a w v := by
  unfold readsAt
  rw [execOp_put (ops := ops) o hs a p.dst u h]

theorem effAt_put {o p : Oper} (hs : ∀ cs b, o.op ≠ .select cs b) (h : ∀ d, p.dst = some d → d ∉ o.looksAt ops) (a : Act) (v : Value) (w : World) {K K' : Act → World → Prop}
    (hk : ∀ u w', K (a.put o.dst u) w' → K' ((a.put p.dst v).put o.dst u) w') (hh : effAt P o a w K) : effAt P o (a.put p.dst v) w K' := by
  unfold effAt at *
  rw [execOp_put (ops := ops) o hs a p.dst v h]
  exact effUpon_put hk hh

theorem effAt_unput {o p : Oper} (hs : ∀ cs b, o.op ≠ .select cs b) (h : ∀ d, p.dst = some d → d ∉ o.looksAt ops) (a : Act) (v : Value) (w : World) {K K' : Act → World → Prop}
    (hk : ∀ u w', K ((a.put p.dst v).put o.dst u) w' → K' (a.put o.dst u) w') (hh : effAt P o (a.put p.dst v) w K) : effAt P o a w K' := by
  unfold effAt at *
  rw [execOp_put (ops := ops) o hs a p.dst v h] at hh
  exact effUpon_put hk hh

/-- One operation, taken now. -/
def Step1 (P : Program) (ops : Array Oper) (C : World → Prop) (o : Oper) (K : Act → World → Prop) (a : Act) (w : World) : Prop :=
  if Region.wanted o (yielded ops a.tmps) = true then
    if isEff o = true then True ∧ effAt P o a w (fun a' w' => C w' ∧ K a' w') else ∃ v, (∀ w', C w' → readsAt P o a w' v) ∧ K (a.put o.dst v) w
  else K (a.put o.dst undef) w

theorem wpMix_cons {Q : Act → World → Prop} {o : Oper} {rest : List Oper} {a : Act} {w : World} : wpMix P ops C Q (o :: rest) a w = Step1 P ops C o (wpMix P ops C Q rest) a w := by
  show (True ∧ Step1 P ops C o (wpMix P ops C Q rest) a w) = _
  rw [true_and]

/-- A reader behind other operations that stand apart from it may be taken first. -/
theorem early_reader {Q : Act → World → Prop} {i : Oper} (hi : isEff i = false) (hsi : ∀ cs b, i.op ≠ .select cs b) :
    ∀ (l1 l2 : List Oper) (a : Act) (w : World), C w → (∀ k ∈ l1, k.apart ops i = true ∧ ∀ cs b, k.op ≠ .select cs b) → wpMix P ops C Q (l1 ++ i :: l2) a w →
      Step1 P ops C i (wpMix P ops C Q (l1 ++ l2)) a w
  | [], _, _, _, _, _, h => by rw [List.nil_append, wpMix_cons] at h; exact h
  | k :: l1, l2, a, w, hC, hap, h => by
    obtain ⟨hk, hsk⟩ := hap k (List.mem_cons_self ..)
    obtain ⟨h1, h2, h3⟩ := Oper.apart_spec hk
    have ih := early_reader (Q := Q) hi hsi l1 l2
    have hap' : ∀ k ∈ l1, k.apart ops i = true ∧ ∀ cs b, k.op ≠ .select cs b := fun k hk => hap k (List.mem_cons_of_mem _ hk)
    rw [List.cons_append, wpMix_cons] at h
    unfold Step1 at h
    have hwi : ∀ u, Region.wanted i (yielded ops (a.put k.dst u).tmps) = Region.wanted i (yielded ops a.tmps) := fun u => wanted_put i a k.dst u h1
    have hwk : ∀ u, Region.wanted k (yielded ops (a.put i.dst u).tmps) = Region.wanted k (yielded ops a.tmps) := fun u => wanted_put k a i.dst u h3
    have hcomm : ∀ u v, (a.put k.dst u).put i.dst v = (a.put i.dst v).put k.dst u := fun u v => Act.put_comm a u v h2
    by_cases hw : Region.wanted k (yielded ops a.tmps) = true
    · rw [if_pos hw] at h
      by_cases he : isEff k = true
      · rw [if_pos he] at h
        -- an effect ahead
        have hsome := effUpon_some h.2
        obtain ⟨u, w1, hC1, hT1⟩ := hsome
        have s1 := ih _ w1 hC1 hap' hT1
        unfold Step1 at s1 ⊢
        rw [hwi] at s1
        by_cases hwant : Region.wanted i (yielded ops a.tmps) = true
        · rw [if_pos hwant] at s1 ⊢
          rw [if_neg (by simp [hi])] at s1 ⊢
          obtain ⟨v, hv, _⟩ := s1
          refine ⟨v, fun w' hw' => (readsAt_put hsi h1 a u w' v).1 (hv w' hw'), ?_⟩
          rw [List.cons_append, wpMix_cons]
          unfold Step1
          rw [hwk, if_pos hw, if_pos he]
          refine ⟨trivial, effAt_put hsk h3 a v w (fun u' w' hK => ?_) h.2⟩
          obtain ⟨hC', hT'⟩ := hK
          refine ⟨hC', ?_⟩
          have s2 := ih _ w' hC' hap' hT'
          unfold Step1 at s2
          rw [hwi, if_pos hwant, if_neg (by simp [hi])] at s2
          obtain ⟨v', hv', hT''⟩ := s2
          have : v' = v := readsAt_uniq ((readsAt_put hsi h1 a u' w v').1 (hv' w hC)) ((readsAt_put hsi h1 a u w v).1 (hv w hC))
          subst this
          rw [← hcomm]; exact hT''
        · rw [if_neg hwant] at s1 ⊢
          rw [List.cons_append, wpMix_cons]
          unfold Step1
          rw [hwk, if_pos hw, if_pos he]
          refine ⟨trivial, effAt_put hsk h3 a undef w (fun u' w' hK => ?_) h.2⟩
          obtain ⟨hC', hT'⟩ := hK
          refine ⟨hC', ?_⟩
          have s2 := ih _ w' hC' hap' hT'
          unfold Step1 at s2
          rw [hwi, if_neg hwant] at s2
          rw [← hcomm]; exact s2
      · rw [if_neg he] at h
        obtain ⟨u, hu, hT⟩ := h
        have s1 := ih _ w hC hap' hT
        unfold Step1 at s1 ⊢
        rw [hwi] at s1
        by_cases hwant : Region.wanted i (yielded ops a.tmps) = true
        · rw [if_pos hwant] at s1 ⊢
          rw [if_neg (by simp [hi])] at s1 ⊢
          obtain ⟨v, hv, hT1⟩ := s1
          refine ⟨v, fun w' hw' => (readsAt_put hsi h1 a u w' v).1 (hv w' hw'), ?_⟩
          rw [List.cons_append, wpMix_cons]
          unfold Step1
          rw [hwk, if_pos hw, if_neg he]
          exact ⟨u, fun w' hw' => (readsAt_put hsk h3 a v w' u).2 (hu w' hw'), by rw [← hcomm]; exact hT1⟩
        · rw [if_neg hwant] at s1 ⊢
          rw [List.cons_append, wpMix_cons]
          unfold Step1
          rw [hwk, if_pos hw, if_neg he]
          exact ⟨u, fun w' hw' => (readsAt_put hsk h3 a undef w' u).2 (hu w' hw'), by rw [← hcomm]; exact s1⟩
    · rw [if_neg hw] at h
      have s1 := ih _ w hC hap' h
      unfold Step1 at s1 ⊢
      rw [hwi] at s1
      by_cases hwant : Region.wanted i (yielded ops a.tmps) = true
      · rw [if_pos hwant] at s1 ⊢
        rw [if_neg (by simp [hi])] at s1 ⊢
        obtain ⟨v, hv, hT1⟩ := s1
        refine ⟨v, fun w' hw' => (readsAt_put hsi h1 a undef w' v).1 (hv w' hw'), ?_⟩
        rw [List.cons_append, wpMix_cons]
        unfold Step1
        rw [hwk, if_neg hw, ← hcomm]; exact hT1
      · rw [if_neg hwant] at s1 ⊢
        rw [List.cons_append, wpMix_cons]
        unfold Step1
        rw [hwk, if_neg hw, ← hcomm]; exact s1

/-- An effect behind readers that stand apart from it may be taken first. -/
theorem early_effect {Q : Act → World → Prop} {i : Oper} (hi : isEff i = true) (hsi : ∀ cs b, i.op ≠ .select cs b) :
    ∀ (l1 l2 : List Oper) (a : Act) (w : World), (∀ k ∈ l1, isEff k = false ∧ k.apart ops i = true ∧ ∀ cs b, k.op ≠ .select cs b) → wpMix P ops C Q (l1 ++ i :: l2) a w →
      Step1 P ops C i (wpMix P ops C Q (l1 ++ l2)) a w
  | [], _, _, _, _, h => by rw [List.nil_append, wpMix_cons] at h; exact h
  | k :: l1, l2, a, w, hap, h => by
    obtain ⟨hek, hk, hsk⟩ := hap k (List.mem_cons_self ..)
    obtain ⟨h1, h2, h3⟩ := Oper.apart_spec hk
    have hap' : ∀ k ∈ l1, isEff k = false ∧ k.apart ops i = true ∧ ∀ cs b, k.op ≠ .select cs b := fun k hk => hap k (List.mem_cons_of_mem _ hk)
    have ih := early_effect (Q := Q) hi hsi l1 l2
    rw [List.cons_append, wpMix_cons] at h
    unfold Step1 at h
    have hwi : ∀ u, Region.wanted i (yielded ops (a.put k.dst u).tmps) = Region.wanted i (yielded ops a.tmps) := fun u => wanted_put i a k.dst u h1
    have hwk : ∀ u, Region.wanted k (yielded ops (a.put i.dst u).tmps) = Region.wanted k (yielded ops a.tmps) := fun u => wanted_put k a i.dst u h3
    have hcomm : ∀ u v, (a.put k.dst u).put i.dst v = (a.put i.dst v).put k.dst u := fun u v => Act.put_comm a u v h2
    by_cases hw : Region.wanted k (yielded ops a.tmps) = true
    · rw [if_pos hw, if_neg (by simp [hek])] at h
      obtain ⟨u, hu, hT⟩ := h
      have s1 := ih _ w hap' hT
      have back : ∀ v w', wpMix P ops C Q (l1 ++ l2) ((a.put k.dst u).put i.dst v) w' → wpMix P ops C Q (k :: l1 ++ l2) (a.put i.dst v) w' := fun v w' hx => by
        rw [List.cons_append, wpMix_cons]
        unfold Step1
        rw [hwk, if_pos hw, if_neg (by simp [hek])]
        exact ⟨u, fun w' hw' => (readsAt_put hsk h3 a v w' u).2 (hu w' hw'), by rw [← hcomm]; exact hx⟩
      unfold Step1 at s1 ⊢
      rw [hwi] at s1
      by_cases hwant : Region.wanted i (yielded ops a.tmps) = true
      · rw [if_pos hwant, if_pos hi] at s1 ⊢
        exact ⟨trivial, effAt_unput hsi h1 a u w (fun v w' hK => ⟨hK.1, back v w' hK.2⟩) s1.2⟩
      · rw [if_neg hwant] at s1 ⊢
        exact back _ _ s1
    · rw [if_neg hw] at h
      have s1 := ih _ w hap' h
      have back : ∀ v w', wpMix P ops C Q (l1 ++ l2) ((a.put k.dst undef).put i.dst v) w' → wpMix P ops C Q (k :: l1 ++ l2) (a.put i.dst v) w' := fun v w' hx => by
        rw [List.cons_append, wpMix_cons]
        unfold Step1
        rw [hwk, if_neg hw, ← hcomm]; exact hx
      unfold Step1 at s1 ⊢
      rw [hwi] at s1
      by_cases hwant : Region.wanted i (yielded ops a.tmps) = true
      · rw [if_pos hwant, if_pos hi] at s1 ⊢
        exact ⟨trivial, effAt_unput hsi h1 a undef w (fun v w' hK => ⟨hK.1, back v w' hK.2⟩) s1.2⟩
      · rw [if_neg hwant] at s1 ⊢
        exact back _ _ s1


/-! ### the Bool over a region -/
/-- j waits for i, directly or through others. -/
inductive Waits (ops : Array Oper) : Nat → Nat → Prop
  | one {j i : Nat} {o : Oper} {e : Edge} (ho : ops[j]? = some o) (he : e ∈ o.after) (hb : Region.binds .any e = true) (hi : e.on = i) : Waits ops j i
  | more {j k i : Nat} {o : Oper} {e : Edge} (ho : ops[j]? = some o) (he : e ∈ o.after) (hb : Region.binds .any e = true) (hk : e.on = k) (h : Waits ops k i) : Waits ops j i

theorem Waits.listed {j i : Nat} (h : Waits ops j i) : ∀ {listed : Array Bool}, (∀ j oj, ops[j]? = some oj → listed.getD j false = true → ∀ e ∈ oj.after, Region.binds .any e = true → listed.getD e.on false = true) →
    (∀ oj, ops[j]? = some oj → ∀ e ∈ oj.after, Region.binds .any e = true → listed.getD e.on false = true) → listed.getD i false = true := by
  induction h with
  | one ho he hb hi => intro listed _ hj; rw [← hi]; exact hj _ ho _ he hb
  | more ho he hb hk _ ih =>
    intro listed hc hj
    refine ih hc fun oj hoj e' he' hb' => hc _ _ hoj ?_ e' he' hb'
    rw [← hk]; exact hj _ ho _ he hb

/-- The masks of what each of the first operations waits for. -/
def maskOf (prev : List Nat) (o : Oper) : Nat :=
  o.after.toList.foldl (fun s e => if Region.binds .any e = true then s ||| 2 ^ e.on ||| prev.getD e.on 0 else s) 0

def masks : List Oper → List Nat → List Nat
  | [], prev => prev
  | o :: l, prev => masks l (prev ++ [maskOf prev o])

theorem maskOf_spec {prev : List Nat} {k : Nat} {o : Oper} (hk : ops[k]? = some o) (hp : ∀ j i, (prev.getD j 0).testBit i = true → Waits ops j i) {i : Nat} (h : (maskOf prev o).testBit i = true) : Waits ops k i := by
  unfold maskOf at h
  have aux : ∀ (l : List Edge) (s : Nat), (∀ e ∈ l, e ∈ o.after) → (∀ i, s.testBit i = true → Waits ops k i) →
      ∀ i, (l.foldl (fun s e => if Region.binds .any e = true then s ||| 2 ^ e.on ||| prev.getD e.on 0 else s) s).testBit i = true → Waits ops k i := by
    intro l
    induction l with
    | nil => intro s _ hs i hi; exact hs i hi
    | cons e l ih =>
      intro s hm hs i hi
      rw [List.foldl_cons] at hi
      refine ih _ (fun e he => hm e (List.mem_cons_of_mem _ he)) (fun i hi => ?_) i hi
      by_cases hb : Region.binds .any e = true
      · rw [if_pos hb, Nat.testBit_or, Nat.testBit_or, Bool.or_eq_true, Bool.or_eq_true] at hi
        rcases hi with (hi | hi) | hi
        · exact hs i hi
        · rw [Nat.testBit_two_pow] at hi
          exact .one hk (hm e (List.mem_cons_self ..)) hb (of_decide_eq_true hi)
        · exact .more hk (hm e (List.mem_cons_self ..)) hb rfl (hp _ _ hi)
      · rw [if_neg hb] at hi; exact hs i hi
  exact aux _ 0 (fun e he => Array.mem_toList_iff.1 he) (fun i hi => by simp at hi) i h

theorem masks_spec : ∀ (l : List Oper) (prev : List Nat), (∀ j, l[j]? = ops[prev.length + j]?) → (∀ j i, (prev.getD j 0).testBit i = true → Waits ops j i) →
    ∀ j i, ((masks l prev).getD j 0).testBit i = true → Waits ops j i
  | [], _, _, hp => hp
  | o :: l, prev, hl, hp => by
    have h0 : ops[prev.length]? = some o := by simpa using (hl 0).symm
    refine masks_spec l (prev ++ [maskOf prev o]) (fun j => by have := hl (j + 1); simpa [Nat.add_assoc, Nat.add_comm 1 j] using this) fun j i hj => ?_
    rcases Nat.lt_trichotomy j prev.length with h | h | h
    · exact hp j i (by simpa [List.getD_eq_getElem?_getD, List.getElem?_append_left h] using hj)
    · subst h
      exact maskOf_spec h0 hp (by simpa [List.getD_eq_getElem?_getD] using hj)
    · have : (prev ++ [maskOf prev o])[j]? = none := by simp; omega
      rw [List.getD_eq_getElem?_getD, this] at hj
      simp at hj

/-- Two operations, i ahead of j in the text: j waits for i, or they stand apart and not both have an effect. -/
def pairB (ops : Array Oper) (ms : List Nat) (i j : Nat) : Bool :=
  match ops[i]?, ops[j]? with
  | some oi, some oj => (ms.getD j 0).testBit i || (oi.apart ops oj && !(isEff oi && isEff oj))
  | _, _ => true

def mixB (ops : Array Oper) : Bool :=
  let ms := masks ops.toList []
  Region.noSelect ops &&
  (List.range ops.size).all fun j =>
    (match ops[j]? with | some o => o.after.all fun e => !Region.binds .any e || decide (e.on < j) | none => true) &&
    (List.range j).all fun i => pairB ops ms i j

/-! ### the walk serves every order -/
structure MixInv (ops : Array Oper) (rem : List Nat) (listed : Array Bool) : Prop where
  size : listed.size = ops.size
  rise : rem.Pairwise (· < ·)
  lt : ∀ i ∈ rem, i < ops.size
  left : ∀ i, i < ops.size → (listed.getD i true = false ↔ i ∈ rem)
  closed : ∀ j oj, ops[j]? = some oj → listed.getD j false = true → ∀ e ∈ oj.after, Region.binds .any e = true → listed.getD e.on false = true

def opersOf (ops : Array Oper) (rem : List Nat) : List Oper := rem.filterMap (ops[·]?)

theorem opersOf_append (l1 l2 : List Nat) : opersOf ops (l1 ++ l2) = opersOf ops l1 ++ opersOf ops l2 := by simp [opersOf]

theorem wpAny_of_mix {Q : Exit → Act → World → Prop} (hB : mixB ops = true) : ∀ (f : Nat) (rem : List Nat) (listed : Array Bool) (a : Act) (w : World), rem.length = f → MixInv ops rem listed → C w →
    wpMix P ops C (Q .normal) (opersOf ops rem) a w → wpAny P .any ops Q f listed a w := by
  simp only [mixB, Bool.and_eq_true, List.all_eq_true, List.mem_range] at hB
  obtain ⟨hsel, hB⟩ := hB
  have hms := masks_spec (ops := ops) ops.toList [] (by simp) (by simp)
  have hsel' := Region.noSelect_spec hsel
  intro f
  induction f
  case zero =>
    intro rem listed a w hf inv hC h
    have : rem = [] := List.eq_nil_of_length_eq_zero hf
    subst this
    refine ⟨?_, by simpa [opersOf, wpMix] using h⟩
    apply List.eq_nil_iff_forall_not_mem.2
    intro j hj
    obtain ⟨h0, o, ho, _⟩ := mem_ready.1 hj
    have := (inv.left j (Array.getElem?_eq_some_iff.1 ho).1).1 h0
    cases this
  case succ f ih =>
    intro rem listed a w hf inv hC h
    -- the first of the rest is ready
    obtain ⟨k, rest, rfl⟩ : ∃ k rest, rem = k :: rest := by
      cases rem with
      | nil => simp at hf
      | cons k rest => exact ⟨k, rest, rfl⟩
    have hkr : k ∈ Region.ready .any ops listed := by
      have hk : k < ops.size := inv.lt k (List.mem_cons_self ..)
      refine mem_ready.2 ⟨(inv.left k hk).2 (List.mem_cons_self ..), ops[k], Array.getElem?_eq_getElem hk, fun e he hb => ?_⟩
      have h1 := (hB k hk).1
      rw [Array.getElem?_eq_getElem hk] at h1
      have h2 := Array.all_eq_true_iff_forall_mem.1 h1 e he
      simp only [hb, Bool.not_true, Bool.false_or, decide_eq_true_eq] at h2
      have hne : e.on ∉ k :: rest := by
        intro hm
        rcases List.mem_cons.1 hm with hm | hm
        · omega
        · have := (List.pairwise_cons.1 inv.rise).1 _ hm; omega
      have hlt : e.on < ops.size := by omega
      have h3 : listed.getD e.on true ≠ false := fun hx => hne ((inv.left _ hlt).1 hx)
      have : e.on < listed.size := by rw [inv.size]; exact hlt
      simp [this] at h3 ⊢
      exact h3
    refine ⟨fun h0 => (by rw [h0] at hkr; cases hkr), fun i hi => ?_⟩
    obtain ⟨hun, oi, hoi, hall⟩ := mem_ready.1 hi
    have hilt : i < ops.size := (Array.getElem?_eq_some_iff.1 hoi).1
    have him : i ∈ k :: rest := (inv.left i hilt).1 hun
    obtain ⟨l1, l2, hl⟩ := List.append_of_mem him
    have hrise := inv.rise
    rw [hl] at h hf hrise
    rw [List.pairwise_append] at hrise
    -- nothing ahead of i is waited for
    have hnw : ∀ k ∈ l1, ¬ Waits ops i k := fun k hk hw => by
      have hkl := hw.listed inv.closed (fun oj hoj e he hb => by
        have : oj = oi := Option.some.inj (hoj.symm.trans hoi)
        subst this; exact hall e he hb)
      have hklt : k < ops.size := inv.lt k (by rw [hl]; simp [hk])
      have := (inv.left k hklt).2 (by rw [hl]; simp [hk])
      have hs : k < listed.size := by rw [inv.size]; exact hklt
      simp [hs] at this hkl
      rw [this] at hkl; cases hkl
    have hpair : ∀ k ∈ l1, ∀ ok, ops[k]? = some ok → ok.apart ops oi = true ∧ (isEff ok && isEff oi) = false := fun k hk ok hok => by
      have hki : k < i := hrise.2.2 k hk i (List.mem_cons_self ..)
      have h1 := (hB i hilt).2 k hki
      simp only [pairB, hok, hoi, Bool.or_eq_true, Bool.and_eq_true, Bool.not_eq_true'] at h1
      rcases h1 with h1 | h1
      · exact absurd (hms _ _ h1) (hnw k hk)
      · exact ⟨h1.1, h1.2⟩
    have hmem : ∀ o ∈ opersOf ops l1, ∃ k ∈ l1, ops[k]? = some o := fun o ho => List.mem_filterMap.1 ho
    have hap : ∀ o ∈ opersOf ops l1, o.apart ops oi = true ∧ ∀ cs b, o.op ≠ .select cs b := fun o ho => by
      obtain ⟨k, hk, hok⟩ := hmem o ho
      exact ⟨(hpair k hk o hok).1, fun cs b => hsel' k o cs b hok⟩
    have hT : wpMix P ops C (Q .normal) (opersOf ops l1 ++ oi :: opersOf ops l2) a w := by
      have : opersOf ops (l1 ++ i :: l2) = opersOf ops l1 ++ oi :: opersOf ops l2 := by
        rw [opersOf_append]; simp [opersOf, hoi]
      rw [← this]; exact h
    -- taken first
    have hS : Step1 P ops C oi (wpMix P ops C (Q .normal) (opersOf ops (l1 ++ l2))) a w := by
      rw [opersOf_append]
      cases he : isEff oi with
      | false => exact early_reader he (fun cs b => hsel' i oi cs b hoi) _ _ a w hC hap hT
      | true =>
        refine early_effect he (fun cs b => hsel' i oi cs b hoi) _ _ a w (fun o ho => ?_) hT
        obtain ⟨k, hk, hok⟩ := hmem o ho
        have h2 := (hpair k hk o hok).2
        rw [he, Bool.and_true] at h2
        exact ⟨h2, hap o ho⟩
    -- the rest
    have inv' : MixInv ops (l1 ++ l2) (listed.setIfInBounds i true) := by
      refine ⟨by simp [inv.size], ?_, fun j hj => inv.lt j (by rw [hl]; simp at hj ⊢; rcases hj with hj | hj <;> simp [hj]), fun j hj => ?_, fun j oj hoj hlj e he hb => ?_⟩
      · rw [List.pairwise_append]
        exact ⟨hrise.1, (List.pairwise_cons.1 hrise.2.1).2, fun x hx y hy => hrise.2.2 x hx y (List.mem_cons_of_mem _ hy)⟩
      · by_cases hji : i = j
        · subst hji
          have hs : i < listed.size := by rw [inv.size]; exact hj
          refine ⟨fun hx => by simp [hs] at hx, fun hx => ?_⟩
          rcases List.mem_append.1 hx with hx | hx
          · exact absurd (hrise.2.2 i hx i (List.mem_cons_self ..)) (Nat.lt_irrefl _)
          · exact absurd ((List.pairwise_cons.1 hrise.2.1).1 i hx) (Nat.lt_irrefl _)
        · rw [getD_set_ne true hji, inv.left j hj, hl]
          simp only [List.mem_append, List.mem_cons]
          constructor
          · rintro (h | h | h)
            · exact .inl h
            · exact absurd h.symm hji
            · exact .inr h
          · rintro (h | h)
            · exact .inl h
            · exact .inr (.inr h)
      · by_cases hji : i = j
        · subst hji
          have : oj = oi := Option.some.inj (hoj.symm.trans hoi)
          subst this
          exact getD_set_true (hall e he hb)
        · rw [getD_set_ne false hji] at hlj
          exact getD_set_true (inv.closed j oj hoj hlj e he hb)
    have hlen : (l1 ++ l2).length = f := by simp at hf ⊢; omega
    have next : ∀ a' w', C w' → wpMix P ops C (Q .normal) (opersOf ops (l1 ++ l2)) a' w' → wpAny P .any ops Q f (listed.setIfInBounds i true) a' w' :=
      fun a' w' hC' h' => ih _ _ a' w' hlen inv' hC' h'
    unfold wpOp
    simp only [hoi]
    unfold Step1 at hS
    by_cases hw : Region.wanted oi (yielded ops a.tmps) = true
    · rw [if_pos hw] at hS ⊢
      left
      by_cases he : isEff oi = true
      · rw [if_pos he] at hS
        refine wp_of_effAt ?_
        exact effUpon_put (fun u w' hK => next _ _ hK.1 hK.2) hS.2
      · rw [if_neg he] at hS
        obtain ⟨v, hv, hK⟩ := hS
        exact wp_of_readsAt (hv w hC) (next _ _ hC hK)
    · rw [if_neg hw] at hS ⊢
      exact next _ _ hC hS

theorem opersOf_range : opersOf ops (List.range ops.size) = ops.toList := by
  unfold opersOf
  rw [← Array.length_toList]
  have : ∀ (l : List Oper) (k : Nat) (f : Nat → Option Oper), (∀ j, l[j]? = f (k + j)) → (List.range' k l.length).filterMap f = l := by
    intro l
    induction l with
    | nil => intro k f _; rfl
    | cons o l ih =>
      intro k f h
      have h0 : f k = some o := by simpa using (h 0).symm
      rw [List.length_cons, List.range'_succ, List.filterMap_cons, h0]
      simp only
      rw [ih (k + 1) f (fun j => by have := h (j + 1); simpa [Nat.add_assoc, Nat.add_comm 1 j] using this)]
  rw [List.range_eq_range']
  exact this ops.toList 0 (fun j => ops[j]?) (fun j => by simp)

/-- A region that draws its order: walked once, in the order of the text. C: what holds all through it. -/
theorem wp_region_mix {id : Nat} {Q : Exit → Act → World → Prop} {a : Act} {w : World} {l : List Oper} (C : World → Prop) (hm : P.follows .mixedOrders = true) (hB : mixB l.toArray = true) (hC : C { w with drawn := w.drawn + 1 })
    (h : wpMix P l.toArray C (Q .normal) l a { w with drawn := w.drawn + 1 }) : (Code.region id l.toArray true).wp P Q a w := by
  refine wp_region_any hm (wpAny_of_mix (C := C) hB _ (List.range l.toArray.size) _ a _ (by simp) ?_ hC ?_)
  · refine ⟨by simp, List.pairwise_lt_range, fun i hi => List.mem_range.1 hi, fun i hi => ?_, fun j oj _ hl => ?_⟩
    · simp only [List.mem_range, hi, iff_true]
      simp at hi
      simp [hi]
    · rw [show (Array.replicate l.toArray.size false).getD j false = false from by by_cases h : j < l.length <;> simp [h]] at hl; cases hl
  · rw [opersOf_range]; exact h

end
end Go.Cob
