/-
  A region of any order whose last operation waits for all the others.
-/
import Derived.Test.YtjhpdmiafecdnaaMix
namespace Go.Cob
open Go
set_option linter.unusedVariables false
section
variable {P : Program} {ops : Array Oper} {C : World → Prop}

/-- Does the last operation wait for all the others? -/
def lateB (ops : Array Oper) : Bool := (List.range (ops.size - 1)).all fun i => ((masks ops.toList []).getD (ops.size - 1) 0).testBit i

theorem lateB_spec (h : lateB ops = true) {i n : Nat} (hn : ops.size = n + 1) (hi : i < n) : Waits ops n i := by
  unfold lateB at h
  rw [List.all_eq_true] at h
  have h1 := h i (List.mem_range.2 (by omega))
  rw [hn] at h1
  exact masks_spec (ops := ops) ops.toList [] (by simp) (by simp) _ _ h1

/-- The last operation's own step. -/
def LastStep (P : Program) (ops : Array Oper) (o : Oper) (K : Act → World → Prop) (a : Act) (w : World) : Prop :=
  if Region.wanted o (yielded ops a.tmps) = true then
    if isEff o = true then effAt P o a w K else ∃ v, readsAt P o a w v ∧ K (a.put o.dst v) w
  else K (a.put o.dst undef) w

theorem wpAny_of_late {Q : Exit → Act → World → Prop} (hB : mixB ops = true) (n : Nat) (ol : Oper) (hn : ops.size = n + 1) (hol : ops[n]? = some ol) (hlate : lateB ops = true) : ∀ (f : Nat) (rem : List Nat) (listed : Array Bool) (a : Act) (w : World), rem.length = f → MixInv ops (rem ++ [n]) listed → C w →
    wpMix P ops C (LastStep P ops ol (Q .normal)) (opersOf ops rem) a w → wpAny P .any ops Q (f + 1) listed a w := by
  simp only [mixB, Bool.and_eq_true, List.all_eq_true, List.mem_range] at hB
  obtain ⟨hsel, hB⟩ := hB
  have hms := masks_spec (ops := ops) ops.toList [] (by simp) (by simp)
  have hsel' := Region.noSelect_spec hsel
  intro f
  induction f
  case zero =>
    intro rem listed a w hf inv hC h
    have : rem = [] := List.eq_nil_of_length_eq_zero hf
    subst this
    have hun : listed.getD n true = false := (inv.left n (by omega)).2 (by simp)
    have hready : n ∈ Region.ready .any ops listed := by
      refine mem_ready.2 ⟨hun, ol, hol, fun e he hb => ?_⟩
      have h1 := (hB n (by omega)).1
      rw [hol] at h1
      have h2 := Array.all_eq_true_iff_forall_mem.1 h1 e he
      simp only [hb, Bool.not_true, Bool.false_or, decide_eq_true_eq] at h2
      have hlt : e.on < ops.size := by omega
      have h3 : listed.getD e.on true ≠ false := fun hx => by have := (inv.left _ hlt).1 hx; simp at this; omega
      have : e.on < listed.size := by rw [inv.size]; exact hlt
      simp [this] at h3 ⊢
      exact h3
    refine ⟨fun h0 => (by rw [h0] at hready; cases hready), fun i hi => ?_⟩
    obtain ⟨hui, oi, hoi, hall⟩ := mem_ready.1 hi
    have hilt : i < ops.size := (Array.getElem?_eq_some_iff.1 hoi).1
    have hin : i = n := by have := (inv.left i hilt).1 hui; simpa using this
    subst hin
    have : oi = ol := Option.some.inj (hoi.symm.trans hol)
    subst this
    have next : ∀ a' w', Q .normal a' w' → wpAny P .any ops Q 0 (listed.setIfInBounds i true) a' w' := fun a' w' hq => by
      refine ⟨?_, hq⟩
      apply List.eq_nil_iff_forall_not_mem.2
      intro j hj
      obtain ⟨h0, o, ho, _⟩ := mem_ready.1 hj
      have hjlt := (Array.getElem?_eq_some_iff.1 ho).1
      by_cases hji : i = j
      · subst hji
        have hs : i < listed.size := by rw [inv.size]; exact hjlt
        simp [hs] at h0
      · rw [getD_set_ne true hji] at h0
        have := (inv.left j hjlt).1 h0
        simp at this
        exact hji this.symm
    have hL : LastStep P ops oi (Q .normal) a w := by simpa [opersOf, wpMix] using h
    unfold wpOp
    simp only [hoi]
    unfold LastStep at hL
    by_cases hw : Region.wanted oi (yielded ops a.tmps) = true
    · rw [if_pos hw] at hL ⊢
      left
      by_cases he : isEff oi = true
      · rw [if_pos he] at hL
        refine wp_of_effAt ?_
        exact effUpon_put (fun u w' hK => next _ _ hK) hL
      · rw [if_neg he] at hL
        obtain ⟨v, hv, hK⟩ := hL
        exact wp_of_readsAt hv (next _ _ hK)
    · rw [if_neg hw] at hL ⊢
      exact next _ _ hL
  case succ f ih =>
    intro rem listed a w hf inv hC h
    -- the first of the rest is ready
    obtain ⟨k, rest, rfl⟩ : ∃ k rest, rem = k :: rest := by
      cases rem with
      | nil => simp at hf
      | cons k rest => exact ⟨k, rest, rfl⟩
    have hrk := inv.rise
    rw [List.pairwise_append] at hrk
    have hkn : k < n := hrk.2.2 k (List.mem_cons_self ..) n (by simp)
    have hkr : k ∈ Region.ready .any ops listed := by
      have hk : k < ops.size := inv.lt k (by simp)
      refine mem_ready.2 ⟨(inv.left k hk).2 (by simp), ops[k], Array.getElem?_eq_getElem hk, fun e he hb => ?_⟩
      have h1 := (hB k hk).1
      rw [Array.getElem?_eq_getElem hk] at h1
      have h2 := Array.all_eq_true_iff_forall_mem.1 h1 e he
      simp only [hb, Bool.not_true, Bool.false_or, decide_eq_true_eq] at h2
      have hne : e.on ∉ k :: rest ++ [n] := by
        intro hm
        rw [List.cons_append] at hm
        rcases List.mem_cons.1 hm with hm | hm
        · omega
        · have := (List.pairwise_cons.1 (by simpa using inv.rise)).1 _ hm; omega
      have hlt : e.on < ops.size := by omega
      have h3 : listed.getD e.on true ≠ false := fun hx => hne ((inv.left _ hlt).1 hx)
      have : e.on < listed.size := by rw [inv.size]; exact hlt
      simp [this] at h3 ⊢
      exact h3
    refine ⟨fun h0 => (by rw [h0] at hkr; cases hkr), fun i hi => ?_⟩
    obtain ⟨hun, oi, hoi, hall⟩ := mem_ready.1 hi
    have hilt : i < ops.size := (Array.getElem?_eq_some_iff.1 hoi).1
    have him0 : i ∈ k :: rest ++ [n] := (inv.left i hilt).1 hun
    have hin : i ≠ n := fun hx => by
      subst hx
      have : oi = ol := Option.some.inj (hoi.symm.trans hol)
      subst this
      have h3 := (lateB_spec hlate hn hkn).listed inv.closed (fun oj hoj e he hb => by
        have : oj = oi := Option.some.inj (hoj.symm.trans hoi)
        subst this; exact hall e he hb)
      have h4 := (inv.left k (by omega)).2 (by simp)
      have hs : k < listed.size := by rw [inv.size]; omega
      simp [hs] at h3 h4
      rw [h4] at h3; cases h3
    have him : i ∈ k :: rest := by
      rcases List.mem_append.1 him0 with hx | hx
      · exact hx
      · exact absurd (by simpa using hx) hin
    obtain ⟨l1, l2, hl⟩ := List.append_of_mem him
    have hriseA := inv.rise
    rw [hl] at h hf hriseA
    have hrise := (List.pairwise_append.1 hriseA).1
    have hriseN : ∀ x ∈ l1 ++ i :: l2, x < n := fun x hx => (List.pairwise_append.1 hriseA).2.2 x hx n (by simp)
    rw [List.pairwise_append] at hrise
    -- nothing ahead of i is waited for
    have hnw : ∀ k ∈ l1, ¬ Waits ops i k := fun k hk hw => by
      have hkl := hw.listed inv.closed (fun oj hoj e he hb => by
        have : oj = oi := Option.some.inj (hoj.symm.trans hoi)
        subst this; exact hall e he hb)
      have hklt : k < ops.size := inv.lt k (by rw [hl]; simp [hk])
      have := (inv.left k hklt).2 (by rw [hl]; simp [hk])
      have hs : k < listed.size := by rw [inv.size]; exact hklt
      simp [hs] at this hkl
      rw [this] at hkl; cases hkl
    have hpair : ∀ k ∈ l1, ∀ ok, ops[k]? = some ok → ok.apart ops oi = true ∧ (isEff ok && isEff oi) = false := fun k hk ok hok => by
      have hki : k < i := hrise.2.2 k hk i (List.mem_cons_self ..)
      have h1 := (hB i hilt).2 k hki
      simp only [pairB, hok, hoi, Bool.or_eq_true, Bool.and_eq_true, Bool.not_eq_true'] at h1
      rcases h1 with h1 | h1
      · exact absurd (hms _ _ h1) (hnw k hk)
      · exact ⟨h1.1, h1.2⟩
    have hmem : ∀ o ∈ opersOf ops l1, ∃ k ∈ l1, ops[k]? = some o := fun o ho => List.mem_filterMap.1 ho
    have hap : ∀ o ∈ opersOf ops l1, o.apart ops oi = true ∧ ∀ cs b, o.op ≠ .select cs b := fun o ho => by
      obtain ⟨k, hk, hok⟩ := hmem o ho
      exact ⟨(hpair k hk o hok).1, fun cs b => hsel' k o cs b hok⟩
    have hT : wpMix P ops C (LastStep P ops ol (Q .normal)) (opersOf ops l1 ++ oi :: opersOf ops l2) a w := by
      have : opersOf ops (l1 ++ i :: l2) = opersOf ops l1 ++ oi :: opersOf ops l2 := by
        rw [opersOf_append]; simp [opersOf, hoi]
      rw [← this]; exact h
    -- taken first
    have hS : Step1 P ops C oi (wpMix P ops C (LastStep P ops ol (Q .normal)) (opersOf ops (l1 ++ l2))) a w := by
      rw [opersOf_append]
      cases he : isEff oi with
      | false => exact early_reader he (fun cs b => hsel' i oi cs b hoi) _ _ a w hC hap hT
      | true =>
        refine early_effect he (fun cs b => hsel' i oi cs b hoi) _ _ a w (fun o ho => ?_) hT
        obtain ⟨k, hk, hok⟩ := hmem o ho
        have h2 := (hpair k hk o hok).2
        rw [he, Bool.and_true] at h2
        exact ⟨h2, hap o ho⟩
    -- the rest
    have inv' : MixInv ops (l1 ++ l2 ++ [n]) (listed.setIfInBounds i true) := by
      refine ⟨by simp [inv.size], ?_, fun j hj => inv.lt j (by rw [hl]; simp at hj ⊢; rcases hj with hj | hj | hj <;> simp [hj]), fun j hj => ?_, fun j oj hoj hlj e he hb => ?_⟩
      · rw [List.pairwise_append]
        refine ⟨?_, by simp, fun x hx y hy => ?_⟩
        · rw [List.pairwise_append]
          exact ⟨hrise.1, (List.pairwise_cons.1 hrise.2.1).2, fun x hx y hy => hrise.2.2 x hx y (List.mem_cons_of_mem _ hy)⟩
        · have : y = n := by simpa using hy
          subst this
          exact hriseN x (by rcases List.mem_append.1 hx with hx | hx <;> simp [hx])
      · by_cases hji : i = j
        · subst hji
          have hs : i < listed.size := by rw [inv.size]; exact hj
          refine ⟨fun hx => by simp [hs] at hx, fun hx => ?_⟩
          rcases List.mem_append.1 hx with hx | hx
          · rcases List.mem_append.1 hx with hx | hx
            · exact absurd (hrise.2.2 i hx i (List.mem_cons_self ..)) (Nat.lt_irrefl _)
            · exact absurd ((List.pairwise_cons.1 hrise.2.1).1 i hx) (Nat.lt_irrefl _)
          · exact absurd (by simpa using hx) hin
        · rw [getD_set_ne true hji, inv.left j hj, hl]
          simp only [List.mem_append, List.mem_cons]
          constructor
          · rintro ((h | h | h) | h)
            · exact .inl (.inl h)
            · exact absurd h.symm hji
            · exact .inl (.inr h)
            · exact .inr h
          · rintro ((h | h) | h)
            · exact .inl (.inl h)
            · exact .inl (.inr (.inr h))
            · exact .inr h
      · by_cases hji : i = j
        · subst hji
          have : oj = oi := Option.some.inj (hoj.symm.trans hoi)
          subst this
          exact getD_set_true (hall e he hb)
        · rw [getD_set_ne false hji] at hlj
          exact getD_set_true (inv.closed j oj hoj hlj e he hb)
    have hlen : (l1 ++ l2).length = f := by simp at hf ⊢; omega
    have next : ∀ a' w', C w' → wpMix P ops C (LastStep P ops ol (Q .normal)) (opersOf ops (l1 ++ l2)) a' w' → wpAny P .any ops Q (f + 1) (listed.setIfInBounds i true) a' w' :=
      fun a' w' hC' h' => ih _ _ a' w' hlen inv' hC' h'
    unfold wpOp
    simp only [hoi]
    unfold Step1 at hS
    by_cases hw : Region.wanted oi (yielded ops a.tmps) = true
    · rw [if_pos hw] at hS ⊢
      left
      by_cases he : isEff oi = true
      · rw [if_pos he] at hS
        refine wp_of_effAt ?_
        exact effUpon_put (fun u w' hK => next _ _ hK.1 hK.2) hS.2
      · rw [if_neg he] at hS
        obtain ⟨v, hv, hK⟩ := hS
        exact wp_of_readsAt (hv w hC) (next _ _ hC hK)
    · rw [if_neg hw] at hS ⊢
      exact next _ _ hC hS


/-- A region that draws its order, and whose last operation waits for all: the rest in the order of the text, then the last. -/
theorem wp_region_late {id : Nat} {Q : Exit → Act → World → Prop} {a : Act} {w : World} {l : List Oper} (C : World → Prop) (hm : P.follows .mixedOrders = true) (hB : mixB l.toArray = true) (l' : List Oper) (ol : Oper) (hl : l = l' ++ [ol]) (hlate : lateB l.toArray = true) (hC : C { w with drawn := w.drawn + 1 })
    (h : wpMix P l.toArray C (LastStep P l.toArray ol (Q .normal)) l' a { w with drawn := w.drawn + 1 }) : (Code.region id l.toArray true).wp P Q a w := by
  have hsz : l.toArray.size = l'.length + 1 := by rw [hl]; simp
  have hrg : List.range l.toArray.size = List.range l'.length ++ [l'.length] := by rw [hsz, List.range_succ]
  have hop : opersOf l.toArray (List.range l'.length) = l' := by
    have := opersOf_range (ops := l.toArray)
    rw [hrg, opersOf_append] at this
    have h2 : opersOf l.toArray [l'.length] = [ol] := by simp [opersOf, hl]
    rw [h2] at this
    have h3 : l.toArray.toList = l' ++ [ol] := by simpa using hl
    rw [h3] at this
    exact List.append_cancel_right this
  refine wp_region_any hm ?_
  rw [hsz]
  refine wpAny_of_late (C := C) hB l'.length ol hsz (by rw [hl]; simp) hlate _ (List.range l'.length) _ a _ (by simp) ?_ hC ?_
  · rw [← hrg]
    refine ⟨by simp [hsz], List.pairwise_lt_range, fun i hi => List.mem_range.1 hi, fun i hi => ?_, fun j oj _ hl => ?_⟩
    · simp only [List.mem_range, hi, iff_true]
      rw [hsz] at hi
      simp [hi]
    · rw [show (Array.replicate (l'.length + 1) false).getD j false = false from by by_cases h : j < l'.length + 1 <;> simp [h]] at hl; cases hl
  · rw [hop]; exact h
end
end Go.Cob
