/-
  A region of two effects that don't wait for one another: two walks serve every order.
-/
import Derived.Test.YtjhpdmiafecdnaaMixC
import Derived.Test.YtjhpdmiafecdnaaMem
set_option linter.unusedSectionVars false
set_option linter.unusedSimpArgs false
namespace Go.Cob
open Go
section
variable {P : Program} {ops : Array Oper} {C : World → Prop}

/-- What is left, in an order of its own. -/
structure Lst (ops : Array Oper) (rem : List Nat) (listed : Array Bool) : Prop where
  size : listed.size = ops.size
  nodup : rem.Nodup
  lt : ∀ i ∈ rem, i < ops.size
  left : ∀ i, i < ops.size → (listed.getD i true = false ↔ i ∈ rem)
  closed : ∀ j oj, ops[j]? = some oj → listed.getD j false = true → ∀ e ∈ oj.after, Region.binds .any e = true → listed.getD e.on false = true
/-- A list in whose order the region may be walked. -/
structure Lin (ops : Array Oper) (rem : List Nat) : Prop where
  ahead : ∀ A x B, rem = A ++ x :: B → ∀ ox, ops[x]? = some ox → ∀ e ∈ ox.after, Region.binds .any e = true → e.on < ops.size ∧ e.on ∉ x :: B
  pair : ∀ A x B, rem = A ++ x :: B → ∀ ox, ops[x]? = some ox → ∀ k ∈ A, ∀ ok, ops[k]? = some ok → Waits ops x k ∨ (ok.apart ops ox = true ∧ (isEff ok && isEff ox) = false)
theorem Lin.drop {A B : List Nat} {x : Nat} (h : Lin ops (A ++ x :: B)) : Lin ops (A ++ B) := by
  refine ⟨fun A' y B' he oy hy e hee hb => ?_, fun A' y B' he oy hy k hk ok hok => ?_⟩
  · rcases List.append_eq_append_iff.1 he with ⟨M, h1, h2⟩ | ⟨M, h1, h2⟩
    · obtain ⟨a, b⟩ := h.ahead (A ++ x :: M) y B' (by rw [h2]; simp) oy hy e hee hb
      exact ⟨a, b⟩
    · cases M with
      | nil =>
        simp only [List.nil_append] at h2
        obtain ⟨a, b⟩ := h.ahead (A ++ [x]) y B' (by rw [← h2]; simp) oy hy e hee hb
        exact ⟨a, b⟩
      | cons z M =>
        simp only [List.cons_append, List.cons.injEq] at h2
        obtain ⟨rfl, h2⟩ := h2
        obtain ⟨a, b⟩ := h.ahead A' y (M ++ x :: B) (by rw [h1]; simp) oy hy e hee hb
        refine ⟨a, fun hm => b ?_⟩
        rw [h2] at hm
        simp only [List.mem_cons, List.mem_append] at hm ⊢
        rcases hm with hm | hm | hm <;> simp [hm]
  · rcases List.append_eq_append_iff.1 he with ⟨M, h1, h2⟩ | ⟨M, h1, h2⟩
    · refine h.pair (A ++ x :: M) y B' (by rw [h2]; simp) oy hy k ?_ ok hok
      rw [h1] at hk
      simp only [List.mem_append, List.mem_cons] at hk ⊢
      rcases hk with hk | hk <;> simp [hk]
    · cases M with
      | nil =>
        simp only [List.nil_append] at h2
        refine h.pair (A ++ [x]) y B' (by rw [← h2]; simp) oy hy k ?_ ok hok
        simp only [List.append_nil] at h1
        rw [h1]; simp [hk]
      | cons z M =>
        simp only [List.cons_append, List.cons.injEq] at h2
        obtain ⟨rfl, h2⟩ := h2
        exact h.pair A' y (M ++ x :: B) (by rw [h1]; simp) oy hy k hk ok hok

theorem Lst.take {A B : List Nat} {x : Nat} {listed : Array Bool} (inv : Lst ops (A ++ x :: B) listed) {ox : Oper} (hox : ops[x]? = some ox) (hall : ∀ e ∈ ox.after, Region.binds .any e = true → listed.getD e.on false = true) : Lst ops (A ++ B) (listed.setIfInBounds x true) := by
  have hnd := inv.nodup
  rw [List.nodup_append] at hnd
  obtain ⟨n1, n2, n3⟩ := hnd
  obtain ⟨n4, n5⟩ := List.nodup_cons.1 n2
  refine ⟨by simp [inv.size], ?_, fun j hj => inv.lt j (by simp at hj ⊢; rcases hj with hj | hj <;> simp [hj]), fun j hj => ?_, fun j oj hoj hlj e he hb => ?_⟩
  · rw [List.nodup_append]
    exact ⟨n1, n5, fun a ha b hb => n3 a ha b (List.mem_cons_of_mem _ hb)⟩
  · by_cases hji : x = j
    · subst hji
      have hs : x < listed.size := by rw [inv.size]; exact hj
      refine ⟨fun hx => by simp [hs] at hx, fun hx => ?_⟩
      rcases List.mem_append.1 hx with hx | hx
      · exact absurd rfl (n3 x hx x (List.mem_cons_self ..))
      · exact absurd hx n4
    · rw [getD_set_ne true hji, inv.left j hj]
      simp only [List.mem_append, List.mem_cons]
      constructor
      · rintro (h | h | h)
        · exact .inl h
        · exact absurd h.symm hji
        · exact .inr h
      · rintro (h | h)
        · exact .inl h
        · exact .inr (.inr h)
  · by_cases hji : x = j
    · subst hji
      have : oj = ox := Option.some.inj (hoj.symm.trans hox)
      subst this
      exact getD_set_true (hall e he hb)
    · rw [getD_set_ne false hji] at hlj
      exact getD_set_true (inv.closed j oj hoj hlj e he hb)
theorem Lst.head {k : Nat} {rest : List Nat} {listed : Array Bool} (inv : Lst ops (k :: rest) listed) (hl : Lin ops (k :: rest)) : k ∈ Region.ready .any ops listed := by
  have hk : k < ops.size := inv.lt k (List.mem_cons_self ..)
  refine mem_ready.2 ⟨(inv.left k hk).2 (List.mem_cons_self ..), ops[k], Array.getElem?_eq_getElem hk, fun e he hb => ?_⟩
  obtain ⟨hlt, hne⟩ := hl.ahead [] k rest rfl _ (Array.getElem?_eq_getElem hk) e he hb
  have h3 : listed.getD e.on true ≠ false := fun hx => hne ((inv.left _ hlt).1 hx)
  have : e.on < listed.size := by rw [inv.size]; exact hlt
  simp [this] at h3 ⊢
  exact h3
theorem take_pair {Q : Act → World → Prop} (hsel : ∀ (k : Nat) (o : Oper) cs b, ops[k]? = some o → o.op ≠ .select cs b) {A B : List Nat} {x : Nat} {listed : Array Bool} (inv : Lst ops (A ++ x :: B) listed) {ox : Oper} (hox : ops[x]? = some ox) (hp : ∀ k ∈ A, ∀ ok, ops[k]? = some ok → Waits ops x k ∨ (ok.apart ops ox = true ∧ (isEff ok && isEff ox) = false)) (hall : ∀ e ∈ ox.after, Region.binds .any e = true → listed.getD e.on false = true)
    {a : Act} {w : World} (hC : C w) (h : wpMix P ops C Q (opersOf ops (A ++ x :: B)) a w) : Step1 P ops C ox (wpMix P ops C Q (opersOf ops (A ++ B))) a w := by
  have hnw : ∀ k ∈ A, ¬ Waits ops x k := fun k hk hw => by
    have hkl := hw.listed inv.closed (fun oj hoj e he hb => by
      have : oj = ox := Option.some.inj (hoj.symm.trans hox)
      subst this; exact hall e he hb)
    have hklt : k < ops.size := inv.lt k (by simp [hk])
    have := (inv.left k hklt).2 (by simp [hk])
    have hs : k < listed.size := by rw [inv.size]; exact hklt
    simp [hs] at this hkl
    rw [this] at hkl; cases hkl
  have hpair : ∀ k ∈ A, ∀ ok, ops[k]? = some ok → ok.apart ops ox = true ∧ (isEff ok && isEff ox) = false := fun k hk ok hok =>
    (hp k hk ok hok).resolve_left (hnw k hk)
  have hmem : ∀ o ∈ opersOf ops A, ∃ k ∈ A, ops[k]? = some o := fun o ho => List.mem_filterMap.1 ho
  have hap : ∀ o ∈ opersOf ops A, o.apart ops ox = true ∧ ∀ cs b, o.op ≠ .select cs b := fun o ho => by
    obtain ⟨k, hk, hok⟩ := hmem o ho
    exact ⟨(hpair k hk o hok).1, fun cs b => hsel k o cs b hok⟩
  have hT : wpMix P ops C Q (opersOf ops A ++ ox :: opersOf ops B) a w := by
    have : opersOf ops (A ++ x :: B) = opersOf ops A ++ ox :: opersOf ops B := by
      rw [opersOf_append]; simp [opersOf, hox]
    rw [← this]; exact h
  rw [opersOf_append]
  cases he : isEff ox with
  | false => exact early_reader he (fun cs b => hsel x ox cs b hox) _ _ a w hC hap hT
  | true =>
    refine early_effect he (fun cs b => hsel x ox cs b hox) _ _ a w (fun o ho => ?_) hT
    obtain ⟨k, hk, hok⟩ := hmem o ho
    have h2 := (hpair k hk o hok).2
    rw [he, Bool.and_true] at h2
    exact ⟨h2, hap o ho⟩

/-- The walk in a list's order serves every order. -/
theorem wpAny_of_lin {Q : Exit → Act → World → Prop} (hsel : ∀ (k : Nat) (o : Oper) cs b, ops[k]? = some o → o.op ≠ .select cs b) : ∀ (f : Nat) (rem : List Nat) (listed : Array Bool) (a : Act) (w : World), rem.length = f → Lst ops rem listed → Lin ops rem → C w →
    wpMix P ops C (Q .normal) (opersOf ops rem) a w → wpAny P .any ops Q f listed a w := by
  intro f
  induction f
  case zero =>
    intro rem listed a w hf inv hl hC h
    have : rem = [] := List.eq_nil_of_length_eq_zero hf
    subst this
    refine ⟨?_, by simpa [opersOf, wpMix] using h⟩
    apply List.eq_nil_iff_forall_not_mem.2
    intro j hj
    obtain ⟨h0, o, ho, _⟩ := mem_ready.1 hj
    have := (inv.left j (Array.getElem?_eq_some_iff.1 ho).1).1 h0
    cases this
  case succ f ih =>
    intro rem listed a w hf inv hl hC h
    obtain ⟨k, rest, rfl⟩ : ∃ k rest, rem = k :: rest := by
      cases rem with
      | nil => simp at hf
      | cons k rest => exact ⟨k, rest, rfl⟩
    have hkr := inv.head hl
    refine ⟨fun h0 => (by rw [h0] at hkr; cases hkr), fun i hi => ?_⟩
    obtain ⟨hun, oi, hoi, hall⟩ := mem_ready.1 hi
    have hilt : i < ops.size := (Array.getElem?_eq_some_iff.1 hoi).1
    have him : i ∈ k :: rest := (inv.left i hilt).1 hun
    obtain ⟨l1, l2, hl12⟩ := List.append_of_mem him
    rw [hl12] at h hf inv hl
    have hS := take_pair hsel inv hoi (hl.pair l1 i l2 rfl oi hoi) hall hC h
    have inv' := inv.take hoi hall
    have hl' := hl.drop
    have hlen : (l1 ++ l2).length = f := by simp at hf ⊢; omega
    have next : ∀ a' w', C w' → wpMix P ops C (Q .normal) (opersOf ops (l1 ++ l2)) a' w' → wpAny P .any ops Q f (listed.setIfInBounds i true) a' w' :=
      fun a' w' hC' h' => ih _ _ a' w' hlen inv' hl' hC' h'
    unfold wpOp
    simp only [hoi]
    unfold Step1 at hS
    by_cases hw : Region.wanted oi (yielded ops a.tmps) = true
    · rw [if_pos hw] at hS ⊢
      left
      by_cases he : isEff oi = true
      · rw [if_pos he] at hS
        refine wp_of_effAt ?_
        exact effUpon_put (fun u w' hK => next _ _ hK.1 hK.2) hS.2
      · rw [if_neg he] at hS
        obtain ⟨v, hv, hK⟩ := hS
        exact wp_of_readsAt (hv w hC) (next _ _ hC hK)
    · rw [if_neg hw] at hS ⊢
      exact next _ _ hC hS

/-- Two lists of the same members; in the first i stands ahead of j, in the second j ahead of i. -/
structure Two (ops : Array Oper) (i j : Nat) (R1 R2 : List Nat) : Prop where
  perm : R1.Perm R2
  mi : i ∈ R1
  mj : j ∈ R1
  ne : i ≠ j
  ahead : ∀ A x B, R1 = A ++ x :: B → ∀ ox, ops[x]? = some ox → ∀ e ∈ ox.after, Region.binds .any e = true → e.on < ops.size ∧ e.on ∉ x :: B
  p1 : ∀ A x B, R1 = A ++ x :: B → x ≠ j → ∀ ox, ops[x]? = some ox → ∀ k ∈ A, ∀ ok, ops[k]? = some ok → Waits ops x k ∨ (ok.apart ops ox = true ∧ (isEff ok && isEff ox) = false)
  p2 : ∀ A x B, R2 = A ++ x :: B → x ≠ i → ∀ ox, ops[x]? = some ox → ∀ k ∈ A, ∀ ok, ops[k]? = some ok → Waits ops x k ∨ (ok.apart ops ox = true ∧ (isEff ok && isEff ox) = false)
  l1 : ∀ A B, R1 = A ++ i :: B → Lin ops (A ++ B)
  l2 : ∀ A B, R2 = A ++ j :: B → Lin ops (A ++ B)
  eff : ∀ x ∈ R1, x ≠ i → x ≠ j → ∀ ox, ops[x]? = some ox → isEff ox = true → Waits ops x i ∨ Waits ops x j

theorem split_ins {α : Type} {A B A' B' : List α} {x y : α} (he : A ++ B = A' ++ y :: B') : ∃ A2 B2, A ++ x :: B = A2 ++ y :: B2 ∧ (∀ k ∈ A', k ∈ A2) ∧ (∀ k ∈ B', k ∈ B2) ∧ ∃ P Q, A2 ++ B2 = P ++ x :: Q ∧ P ++ Q = A' ++ B' := by
  rcases List.append_eq_append_iff.1 he with ⟨M, h1, h2⟩ | ⟨M, h1, h2⟩
  · refine ⟨A ++ x :: M, B', by rw [h2]; simp, fun k hk => ?_, fun k hk => hk, A, M ++ B', by simp, by rw [h1]; simp⟩
    rw [h1] at hk
    simp only [List.mem_append, List.mem_cons] at hk ⊢
    rcases hk with hk | hk <;> simp [hk]
  · cases M with
    | nil =>
      simp only [List.nil_append] at h2
      simp only [List.append_nil] at h1
      subst h1
      exact ⟨A ++ [x], B', by rw [← h2]; simp, fun k hk => by simp [hk], fun k hk => hk, A, B', by simp, rfl⟩
    | cons z M =>
      simp only [List.cons_append, List.cons.injEq] at h2
      obtain ⟨rfl, h2⟩ := h2
      refine ⟨A', M ++ x :: B, by rw [h1]; simp, fun k hk => hk, fun k hk => ?_, A' ++ M, B, by simp, by rw [h2]; simp⟩
      rw [h2] at hk
      simp only [List.mem_append, List.mem_cons] at hk ⊢
      rcases hk with hk | hk <;> simp [hk]

theorem Two.drop {i j x : Nat} {A1 B1 A2 B2 : List Nat} (h : Two ops i j (A1 ++ x :: B1) (A2 ++ x :: B2)) (hi : x ≠ i) (hj : x ≠ j) : Two ops i j (A1 ++ B1) (A2 ++ B2) := by
  refine ⟨?_, ?_, ?_, h.ne, ?_, ?_, ?_, ?_, ?_, ?_⟩
  · exact List.Perm.cons_inv ((List.perm_middle.symm.trans h.perm).trans List.perm_middle)
  · have := h.mi; simp [Ne.symm hi] at this ⊢; exact this
  · have := h.mj; simp [Ne.symm hj] at this ⊢; exact this
  · intro A y B he oy hy e hee hb
    obtain ⟨A', B', q1, q2, q3, -⟩ := split_ins (x := x) he
    obtain ⟨a, b⟩ := h.ahead A' y B' q1 oy hy e hee hb
    refine ⟨a, fun hm => b ?_⟩
    rcases List.mem_cons.1 hm with hm | hm
    · simp [hm]
    · simp [q3 _ hm]
  · intro A y B he hy0 oy hy k hk
    obtain ⟨A', B', q1, q2, q3, -⟩ := split_ins (x := x) he
    exact h.p1 A' y B' q1 hy0 oy hy k (q2 k hk)
  · intro A y B he hy0 oy hy k hk
    obtain ⟨A', B', q1, q2, q3, -⟩ := split_ins (x := x) he
    exact h.p2 A' y B' q1 hy0 oy hy k (q2 k hk)
  · intro A B he
    obtain ⟨A', B', q1, -, -, P, Q, q4, q5⟩ := split_ins (x := x) he
    have := h.l1 A' B' q1
    rw [q4] at this
    rw [← q5]
    exact this.drop
  · intro A B he
    obtain ⟨A', B', q1, -, -, P, Q, q4, q5⟩ := split_ins (x := x) he
    have := h.l2 A' B' q1
    rw [q4] at this
    rw [← q5]
    exact this.drop
  · intro y hy
    exact h.eff y (by simp at hy ⊢; rcases hy with hy | hy <;> simp [hy])

theorem Lst.perm {R1 R2 : List Nat} {listed : Array Bool} (h : Lst ops R1 listed) (p : R1.Perm R2) : Lst ops R2 listed :=
  ⟨h.size, p.nodup_iff.1 h.nodup, fun i hi => h.lt i (p.mem_iff.2 hi), fun i hi => (h.left i hi).trans p.mem_iff, h.closed⟩
/-- The walks in both lists' orders serve every order. -/
theorem wpAny_of_two {Q : Exit → Act → World → Prop} (hsel : ∀ (k : Nat) (o : Oper) cs b, ops[k]? = some o → o.op ≠ .select cs b) (i j : Nat) : ∀ (f : Nat) (R1 R2 : List Nat) (listed : Array Bool) (a : Act) (w : World), R1.length = f → Lst ops R1 listed → Two ops i j R1 R2 → C w →
    wpMix P ops C (Q .normal) (opersOf ops R1) a w → wpMix P ops C (Q .normal) (opersOf ops R2) a w → wpAny P .any ops Q f listed a w := by
  intro f
  induction f
  case zero =>
    intro R1 R2 listed a w hf inv hT hC h1 h2
    have : R1 = [] := List.eq_nil_of_length_eq_zero hf
    subst this
    have := hT.mi
    cases this
  case succ f ih =>
    intro R1 R2 listed a w hf inv hT hC h1 h2
    have hready : Region.ready .any ops listed ≠ [] := by
      obtain ⟨k, rest, hk⟩ : ∃ k rest, R1 = k :: rest := by
        cases R1 with
        | nil => simp at hf
        | cons k rest => exact ⟨k, rest, rfl⟩
      have hkm : k ∈ R1 := by rw [hk]; simp
      have hlt := inv.lt k hkm
      have : k ∈ Region.ready .any ops listed := by
        refine mem_ready.2 ⟨(inv.left k hlt).2 hkm, ops[k], Array.getElem?_eq_getElem hlt, fun e he hb => ?_⟩
        obtain ⟨hl, hne⟩ := hT.ahead [] k rest hk _ (Array.getElem?_eq_getElem hlt) e he hb
        have h3 : listed.getD e.on true ≠ false := fun hx => hne (by have := (inv.left _ hl).1 hx; rw [hk] at this; exact this)
        have : e.on < listed.size := by rw [inv.size]; exact hl
        simp [this] at h3 ⊢
        exact h3
      exact fun h0 => by rw [h0] at this; cases this
    refine ⟨fun h0 => absurd h0 hready, fun x hx => ?_⟩
    obtain ⟨hun, ox, hox, hall⟩ := mem_ready.1 hx
    have hxlt : x < ops.size := (Array.getElem?_eq_some_iff.1 hox).1
    have hx1 : x ∈ R1 := (inv.left x hxlt).1 hun
    have inv2 := inv.perm hT.perm
    obtain ⟨A1, B1, e1⟩ := List.append_of_mem hx1
    obtain ⟨A2, B2, e2⟩ := List.append_of_mem (hT.perm.mem_iff.1 hx1)
    subst e1
    subst e2
    have hlen1 : (A1 ++ B1).length = f := by simp at hf ⊢; omega
    have hlen2 : (A2 ++ B2).length = f := by have := hT.perm.length_eq; simp at this hf ⊢; omega
    have nw : ∀ k ∈ A1 ++ x :: B1, k ≠ x → ¬ Waits ops x k := fun k hk _ hw => by
      have hkl := hw.listed inv.closed (fun oj hoj e he hb => by
        have : oj = ox := Option.some.inj (hoj.symm.trans hox)
        subst this; exact hall e he hb)
      have hklt : k < ops.size := inv.lt k hk
      have := (inv.left k hklt).2 hk
      have hs : k < listed.size := by rw [inv.size]; exact hklt
      simp [hs] at this hkl
      rw [this] at hkl; cases hkl
    unfold wpOp
    simp only [hox]
    by_cases hxi : x = i
    · subst hxi
      have hS := take_pair hsel inv hox (hT.p1 A1 x B1 rfl hT.ne ox hox) hall hC h1
      have next : ∀ a' w', C w' → wpMix P ops C (Q .normal) (opersOf ops (A1 ++ B1)) a' w' → wpAny P .any ops Q f (listed.setIfInBounds x true) a' w' :=
        fun a' w' hC' h' => wpAny_of_lin hsel f _ _ a' w' hlen1 (inv.take hox hall) (hT.l1 A1 B1 rfl) hC' h'
      unfold Step1 at hS
      by_cases hw : Region.wanted ox (yielded ops a.tmps) = true
      · rw [if_pos hw] at hS ⊢
        left
        by_cases he : isEff ox = true
        · rw [if_pos he] at hS
          exact wp_of_effAt (effUpon_put (fun u w' hK => next _ _ hK.1 hK.2) hS.2)
        · rw [if_neg he] at hS
          obtain ⟨v, hv, hK⟩ := hS
          exact wp_of_readsAt (hv w hC) (next _ _ hC hK)
      · rw [if_neg hw] at hS ⊢
        exact next _ _ hC hS
    by_cases hxj : x = j
    · subst hxj
      have hS := take_pair hsel inv2 hox (hT.p2 A2 x B2 rfl (Ne.symm hT.ne) ox hox) hall hC h2
      have next : ∀ a' w', C w' → wpMix P ops C (Q .normal) (opersOf ops (A2 ++ B2)) a' w' → wpAny P .any ops Q f (listed.setIfInBounds x true) a' w' :=
        fun a' w' hC' h' => wpAny_of_lin hsel f _ _ a' w' hlen2 (inv2.take hox hall) (hT.l2 A2 B2 rfl) hC' h'
      unfold Step1 at hS
      by_cases hw : Region.wanted ox (yielded ops a.tmps) = true
      · rw [if_pos hw] at hS ⊢
        left
        by_cases he : isEff ox = true
        · rw [if_pos he] at hS
          exact wp_of_effAt (effUpon_put (fun u w' hK => next _ _ hK.1 hK.2) hS.2)
        · rw [if_neg he] at hS
          obtain ⟨v, hv, hK⟩ := hS
          exact wp_of_readsAt (hv w hC) (next _ _ hC hK)
      · rw [if_neg hw] at hS ⊢
        exact next _ _ hC hS
    have he : ¬ isEff ox = true := fun he => by
      rcases hT.eff x hx1 hxi hxj ox hox he with hw | hw
      · exact nw i hT.mi (Ne.symm hxi) hw
      · exact nw j hT.mj (Ne.symm hxj) hw
    have hS1 := take_pair hsel inv hox (hT.p1 A1 x B1 rfl hxj ox hox) hall hC h1
    have hS2 := take_pair hsel inv2 hox (hT.p2 A2 x B2 rfl hxi ox hox) hall hC h2
    have next : ∀ a', wpMix P ops C (Q .normal) (opersOf ops (A1 ++ B1)) a' w → wpMix P ops C (Q .normal) (opersOf ops (A2 ++ B2)) a' w → wpAny P .any ops Q f (listed.setIfInBounds x true) a' w :=
      fun a' g1 g2 => ih _ _ _ a' w hlen1 (inv.take hox hall) (hT.drop hxi hxj) hC g1 g2
    unfold Step1 at hS1 hS2
    by_cases hw : Region.wanted ox (yielded ops a.tmps) = true
    · rw [if_pos hw] at hS1 hS2 ⊢
      left
      rw [if_neg he] at hS1 hS2
      obtain ⟨v, hv, hK⟩ := hS1
      obtain ⟨v', hv', hK'⟩ := hS2
      have : v = v' := readsAt_uniq (hv w hC) (hv' w hC)
      subst this
      exact wp_of_readsAt (hv w hC) (next _ hK hK')
    · rw [if_neg hw] at hS1 hS2 ⊢
      exact next _ hS1 hS2

/-! ### the check -/
def pairW (ops : Array Oper) (ms : List Nat) (k x : Nat) : Bool :=
  match ops[k]?, ops[x]? with
  | some ok, some ox => (ms.getD x 0).testBit k || (ok.apart ops ox && !(isEff ok && isEff ox))
  | _, _ => true
/-- sk: whose pairs aren't looked at. -/
def linFrom (ops : Array Oper) (ms : List Nat) (sk : Nat) : List Nat → List Nat → Bool
  | _, [] => true
  | seen, x :: rest =>
    (match ops[x]? with | some o => o.after.all fun e => !Region.binds .any e || (decide (e.on < ops.size) && !(x :: rest).contains e.on) | none => true) &&
    (x == sk || seen.all fun k => pairW ops ms k x) && linFrom ops ms sk (seen ++ [x]) rest
theorem linFrom_spec {sk : Nat} : ∀ (R seen : List Nat), linFrom ops (masks ops.toList []) sk seen R = true → ∀ A x B, R = A ++ x :: B → ∀ ox, ops[x]? = some ox →
    (∀ e ∈ ox.after, Region.binds .any e = true → e.on < ops.size ∧ e.on ∉ x :: B) ∧ (x ≠ sk → ∀ k ∈ seen ++ A, ∀ ok, ops[k]? = some ok → Waits ops x k ∨ (ok.apart ops ox = true ∧ (isEff ok && isEff ox) = false))
  | [], seen, _, A, x, B, he => by simp at he
  | y :: R, seen, h, A, x, B, he => by
    intro ox hox
    simp only [linFrom, Bool.and_eq_true] at h
    obtain ⟨⟨h1, h2⟩, h3⟩ := h
    cases A with
    | nil =>
      simp only [List.nil_append, List.cons.injEq] at he
      obtain ⟨rfl, rfl⟩ := he
      rw [hox] at h1
      refine ⟨fun e hee hb => ?_, fun hne k hk ok hok => ?_⟩
      · have h4 := Array.all_eq_true_iff_forall_mem.1 h1 e hee
        simp only [hb, Bool.not_true, Bool.false_or, Bool.and_eq_true, decide_eq_true_eq, Bool.not_eq_true', List.contains_eq_mem] at h4
        exact ⟨h4.1, by simpa using h4.2⟩
      · simp only [Bool.or_eq_true, beq_iff_eq, hne, false_or, List.all_eq_true] at h2
        have h4 := h2 k (by simpa using hk)
        simp only [pairW, hok, hox, Bool.or_eq_true, Bool.and_eq_true, Bool.not_eq_true'] at h4
        rcases h4 with h4 | h4
        · exact .inl (masks_spec (ops := ops) ops.toList [] (by simp) (by simp) _ _ h4)
        · exact .inr h4
    | cons z A =>
      simp only [List.cons_append, List.cons.injEq] at he
      obtain ⟨rfl, rfl⟩ := he
      have := linFrom_spec (A ++ x :: B) (seen ++ [y]) h3 A x B rfl ox hox
      refine ⟨this.1, fun hne k hk => this.2 hne k ?_⟩
      simp only [List.mem_append, List.mem_cons] at hk ⊢
      rcases hk with hk | hk | hk <;> simp [hk]
def twoB (ops : Array Oper) (i j : Nat) (R1 R2 : List Nat) : Bool :=
  let ms := masks ops.toList []
  Region.noSelect ops && R1.isPerm R2 && R1.contains i && R1.contains j && !(i == j) && linFrom ops ms j [] R1 && linFrom ops ms i [] R2 && linFrom ops ms ops.size [] (R1.erase i) && linFrom ops ms ops.size [] (R2.erase j) &&
  R1.all fun x => x == i || x == j || (match ops[x]? with | some o => !isEff o | none => true) || (ms.getD x 0).testBit i || (ms.getD x 0).testBit j
theorem lin_of {R : List Nat} (h : linFrom ops (masks ops.toList []) ops.size [] R = true) (hlt : ∀ x ∈ R, x < ops.size) : Lin ops R :=
  ⟨fun A x B he ox hox => (linFrom_spec R [] h A x B he ox hox).1, fun A x B he ox hox k hk => (linFrom_spec R [] h A x B he ox hox).2 (by have := hlt x (by rw [he]; simp); omega) k (by simpa using hk)⟩
theorem two_of {i j : Nat} {R1 R2 : List Nat} (h : twoB ops i j R1 R2 = true) (hn : R1.Nodup) (hlt : ∀ x ∈ R1, x < ops.size) : Two ops i j R1 R2 := by
  simp only [twoB, Bool.and_eq_true] at h
  obtain ⟨⟨⟨⟨⟨⟨⟨⟨⟨-, hp⟩, hi⟩, hj⟩, hne⟩, h1⟩, h2⟩, h3⟩, h4⟩, h5⟩ := h
  have hp' := List.isPerm_iff.1 hp
  have hn2 := hp'.nodup_iff.1 hn
  have er : ∀ {R A B : List Nat} {x : Nat}, R.Nodup → R = A ++ x :: B → R.erase x = A ++ B := by
    intro R A B x hN he
    subst he
    have hx : x ∉ A := fun hm => by
      rw [List.nodup_append] at hN
      exact hN.2.2 x hm x (List.mem_cons_self ..) rfl
    rw [List.erase_append_right _ hx, List.erase_cons_head]
  refine ⟨hp', by simpa using hi, by simpa using hj, by simpa using hne, fun A x B he ox hox => (linFrom_spec R1 [] h1 A x B he ox hox).1, fun A x B he hx ox hox k hk => (linFrom_spec R1 [] h1 A x B he ox hox).2 hx k (by simpa using hk), fun A x B he hx ox hox k hk => (linFrom_spec R2 [] h2 A x B he ox hox).2 hx k (by simpa using hk), fun A B he => ?_, fun A B he => ?_, fun x hx hxi hxj ox hox hef => ?_⟩
  · rw [← er hn he]
    exact lin_of h3 (fun x hx => hlt x (List.mem_of_mem_erase hx))
  · rw [← er hn2 he]
    exact lin_of h4 (fun x hx => hlt x (hp'.mem_iff.2 (List.mem_of_mem_erase hx)))
  · have := List.all_eq_true.1 h5 x hx
    simp only [hox, hef, Bool.or_eq_true, beq_iff_eq, hxi, hxj, false_or, Bool.not_true, Bool.false_eq_true] at this
    rcases this with h | h
    · exact .inl (masks_spec (ops := ops) ops.toList [] (by simp) (by simp) _ _ h)
    · exact .inr (masks_spec (ops := ops) ops.toList [] (by simp) (by simp) _ _ h)
/-- A region that draws its order, two of whose effects (i, j) don't wait for one another: walked twice, in the order of the text and in the order R2. -/
theorem wp_region_two {id : Nat} {Q : Exit → Act → World → Prop} {a : Act} {w : World} {l : List Oper} (C : World → Prop) (i j : Nat) (R2 : List Nat) (hm : P.follows .mixedOrders = true) (hB : twoB l.toArray i j (List.range l.length) R2 = true) (hC : C { w with drawn := w.drawn + 1 })
    (k1 : wpMix P l.toArray C (Q .normal) l a { w with drawn := w.drawn + 1 }) (k2 : wpMix P l.toArray C (Q .normal) (opersOf l.toArray R2) a { w with drawn := w.drawn + 1 }) : (Code.region id l.toArray true).wp P Q a w := by
  have hsel : Region.noSelect l.toArray = true := by
    simp only [twoB, Bool.and_eq_true] at hB
    obtain ⟨⟨⟨⟨⟨⟨⟨⟨⟨h, -⟩, -⟩, -⟩, -⟩, -⟩, -⟩, -⟩, -⟩, -⟩ := hB
    exact h
  have hT := two_of (ops := l.toArray) hB List.nodup_range (fun x hx => by simpa using hx)
  refine wp_region_any hm (wpAny_of_two (C := C) (fun k o cs b hk => Region.noSelect_spec hsel k o cs b hk) i j _ (List.range l.length) R2 _ a _ (by simp) ?_ hT hC ?_ k2)
  · refine ⟨by simp, List.nodup_range, fun x hx => by simpa using hx, fun x hx => ?_, fun j oj _ hl => ?_⟩
    · simp at hx
      simp [hx]
    · rw [show (Array.replicate l.toArray.size false).getD j false = false from by by_cases h : j < l.length <;> simp [h]] at hl; cases hl
  · have := opersOf_range (ops := l.toArray)
    simp only [List.size_toArray] at this
    rw [this]
    exact k1
/-- The class: what has come out of w. -/
theorem wp_region_two_ch {id : Nat} {Q : Exit → Act → World → Prop} {a : Act} {w : World} {l : List Oper} (S : Nat → Prop) (i j : Nat) (R2 : List Nat) (hm : P.follows .mixedOrders = true) (hB : twoB l.toArray i j (List.range l.length) R2 = true)
    (k1 : ∀ p : Ch S w, p.w.heap = w.heap → wpMix P l.toArray (fun w' => ∃ p : Ch S w, w' = p.w) (Q .normal) l a p.w) (k2 : ∀ p : Ch S w, p.w.heap = w.heap → wpMix P l.toArray (fun w' => ∃ p : Ch S w, w' = p.w) (Q .normal) (opersOf l.toArray R2) a p.w) : (Code.region id l.toArray true).wp P Q a w :=
  wp_region_two (C := fun w' => ∃ p : Ch S w, w' = p.w) i j R2 hm hB ⟨⟨{ w with drawn := w.drawn + 1 }, rfl, rfl, rfl, Nat.le_refl _, fun _ _ _ => rfl⟩, rfl⟩ (k1 ⟨{ w with drawn := w.drawn + 1 }, rfl, rfl, rfl, Nat.le_refl _, fun _ _ _ => rfl⟩ rfl) (k2 ⟨{ w with drawn := w.drawn + 1 }, rfl, rfl, rfl, Nat.le_refl _, fun _ _ _ => rfl⟩ rfl)
end
end Go.Cob
