/-
  The same where one operation is a bar: it waits for all ahead of it, all behind it wait for it; the class of worlds may turn there.
-/
import Derived.Test.YtjhpdmiafecdnaaMixB
set_option linter.unusedSectionVars false
set_option linter.unusedSimpArgs false
namespace Go.Cob
open Go
section
variable {P : Program} {ops : Array Oper} {C : World → Prop}

def barB (ops : Array Oper) (b : Nat) : Bool :=
  ((List.range b).all fun i => ((masks ops.toList []).getD b 0).testBit i) && ((List.range ops.size).all fun j => !decide (b < j) || ((masks ops.toList []).getD j 0).testBit b)
theorem barB_ahead {b i : Nat} (h : barB ops b = true) (hi : i < b) : Waits ops b i := by
  unfold barB at h
  rw [Bool.and_eq_true, List.all_eq_true, List.all_eq_true] at h
  exact masks_spec (ops := ops) ops.toList [] (by simp) (by simp) _ _ (h.1 i (List.mem_range.2 hi))
theorem barB_after {b j : Nat} (h : barB ops b = true) (hj : b < j) (hs : j < ops.size) : Waits ops j b := by
  unfold barB at h
  rw [Bool.and_eq_true, List.all_eq_true, List.all_eq_true] at h
  have h1 := h.2 j (List.mem_range.2 hs)
  simp only [hj, decide_true, Bool.not_true, Bool.false_or] at h1
  exact masks_spec (ops := ops) ops.toList [] (by simp) (by simp) _ _ h1

theorem wpAny_of_bar {Q : Exit → Act → World → Prop} (hB : mixB ops = true) (n : Nat) (ol : Oper) (hol : ops[n]? = some ol) (rem2 : List Nat) (hr2 : ∀ x ∈ rem2, n < x) (hbar : barB ops n = true) : ∀ (f : Nat) (rem : List Nat) (listed : Array Bool) (a : Act) (w : World), rem.length = f → MixInv ops (rem ++ n :: rem2) listed → C w →
    wpMix P ops C (LastStep P ops ol (fun a' w' => ∃ C2 : World → Prop, C2 w' ∧ wpMix P ops C2 (Q .normal) (opersOf ops rem2) a' w')) (opersOf ops rem) a w → wpAny P .any ops Q (f + 1 + rem2.length) listed a w := by
  have hB0 := hB
  simp only [mixB, Bool.and_eq_true, List.all_eq_true, List.mem_range] at hB
  obtain ⟨hsel, hB⟩ := hB
  have hms := masks_spec (ops := ops) ops.toList [] (by simp) (by simp)
  have hsel' := Region.noSelect_spec hsel
  have hnlt : n < ops.size := (Array.getElem?_eq_some_iff.1 hol).1
  -- what is behind the bar isn't ready while the bar isn't listed
  have hlater : ∀ (rem : List Nat) (listed : Array Bool), MixInv ops (rem ++ n :: rem2) listed → ∀ i ∈ rem2, ∀ oi, ops[i]? = some oi → (∀ e ∈ oi.after, Region.binds .any e = true → listed.getD e.on false = true) → False := by
    intro rem listed inv i hi oi hoi hall
    have hilt : i < ops.size := (Array.getElem?_eq_some_iff.1 hoi).1
    have h3 := (barB_after hbar (hr2 i hi) hilt).listed inv.closed (fun oj hoj e he hb => by
      have : oj = oi := Option.some.inj (hoj.symm.trans hoi)
      subst this; exact hall e he hb)
    have h4 := (inv.left n hnlt).2 (by simp)
    have hs : n < listed.size := by rw [inv.size]; omega
    simp [hs] at h3 h4
    rw [h4] at h3; cases h3
  intro f
  induction f
  case zero =>
    intro rem listed a w hf inv hC h
    have : rem = [] := List.eq_nil_of_length_eq_zero hf
    subst this
    have hun : listed.getD n true = false := (inv.left n hnlt).2 (by simp)
    have hready : n ∈ Region.ready .any ops listed := by
      refine mem_ready.2 ⟨hun, ol, hol, fun e he hb => ?_⟩
      have h1 := (hB n hnlt).1
      rw [hol] at h1
      have h2 := Array.all_eq_true_iff_forall_mem.1 h1 e he
      simp only [hb, Bool.not_true, Bool.false_or, decide_eq_true_eq] at h2
      have hlt : e.on < ops.size := by omega
      have h3 : listed.getD e.on true ≠ false := fun hx => by
        have := (inv.left _ hlt).1 hx
        simp at this
        rcases this with h | h
        · omega
        · have := hr2 _ h; omega
      have : e.on < listed.size := by rw [inv.size]; exact hlt
      simp [this] at h3 ⊢
      exact h3
    rw [show 0 + 1 + rem2.length = rem2.length + 1 from by omega]
    refine ⟨fun h0 => (by rw [h0] at hready; cases hready), fun i hi => ?_⟩
    obtain ⟨hui, oi, hoi, hall⟩ := mem_ready.1 hi
    have hilt : i < ops.size := (Array.getElem?_eq_some_iff.1 hoi).1
    have hin : i = n := by
      have := (inv.left i hilt).1 hui
      simp at this
      rcases this with h | h
      · exact h
      · exact (hlater [] listed inv i h oi hoi hall).elim
    subst hin
    have : oi = ol := Option.some.inj (hoi.symm.trans hol)
    subst this
    have inv2 : MixInv ops rem2 (listed.setIfInBounds i true) := by
      have hri := inv.rise
      rw [List.nil_append] at hri
      refine ⟨by simp [inv.size], (List.pairwise_cons.1 hri).2, fun j hj => inv.lt j (by simp [hj]), fun j hj => ?_, fun j oj hoj hlj e he hb => ?_⟩
      · by_cases hji : i = j
        · subst hji
          have hs : i < listed.size := by rw [inv.size]; exact hj
          refine ⟨fun hx => by simp [hs] at hx, fun hx => ?_⟩
          have := hr2 _ hx; omega
        · rw [getD_set_ne true hji, inv.left j hj]
          simp only [List.nil_append, List.mem_cons]
          constructor
          · rintro (h | h)
            · exact absurd h.symm hji
            · exact h
          · exact .inr
      · by_cases hji : i = j
        · subst hji
          have : oj = oi := Option.some.inj (hoj.symm.trans hoi)
          subst this
          exact getD_set_true (hall e he hb)
        · rw [getD_set_ne false hji] at hlj
          exact getD_set_true (inv.closed j oj hoj hlj e he hb)
    have next : ∀ a' w', (∃ C2 : World → Prop, C2 w' ∧ wpMix P ops C2 (Q .normal) (opersOf ops rem2) a' w') → wpAny P .any ops Q rem2.length (listed.setIfInBounds i true) a' w' := fun a' w' hq =>
      hq.elim fun C2 hq => wpAny_of_mix (C := C2) hB0 rem2.length rem2 _ a' w' rfl inv2 hq.1 hq.2
    have hL : LastStep P ops oi (fun a' w' => ∃ C2 : World → Prop, C2 w' ∧ wpMix P ops C2 (Q .normal) (opersOf ops rem2) a' w') a w := by simpa [opersOf, wpMix] using h
    unfold wpOp
    simp only [hoi]
    unfold LastStep at hL
    by_cases hw : Region.wanted oi (yielded ops a.tmps) = true
    · rw [if_pos hw] at hL ⊢
      left
      by_cases he : isEff oi = true
      · rw [if_pos he] at hL
        refine wp_of_effAt ?_
        exact effUpon_put (fun u w' hK => next _ _ hK) hL
      · rw [if_neg he] at hL
        obtain ⟨v, hv, hK⟩ := hL
        exact wp_of_readsAt hv (next _ _ hK)
    · rw [if_neg hw] at hL ⊢
      exact next _ _ hL
  case succ f ih =>
    intro rem listed a w hf inv hC h
    -- the first of the rest is ready
    obtain ⟨k, rest, rfl⟩ : ∃ k rest, rem = k :: rest := by
      cases rem with
      | nil => simp at hf
      | cons k rest => exact ⟨k, rest, rfl⟩
    have hrk := inv.rise
    rw [List.pairwise_append] at hrk
    have hkn : k < n := hrk.2.2 k (List.mem_cons_self ..) n (by simp)
    have hkr : k ∈ Region.ready .any ops listed := by
      have hk : k < ops.size := inv.lt k (by simp)
      refine mem_ready.2 ⟨(inv.left k hk).2 (by simp), ops[k], Array.getElem?_eq_getElem hk, fun e he hb => ?_⟩
      have h1 := (hB k hk).1
      rw [Array.getElem?_eq_getElem hk] at h1
      have h2 := Array.all_eq_true_iff_forall_mem.1 h1 e he
      simp only [hb, Bool.not_true, Bool.false_or, decide_eq_true_eq] at h2
      have hne : e.on ∉ k :: rest ++ n :: rem2 := by
        intro hm
        rw [List.cons_append] at hm
        rcases List.mem_cons.1 hm with hm | hm
        · omega
        · have := (List.pairwise_cons.1 (by simpa using inv.rise)).1 _ hm; omega
      have hlt : e.on < ops.size := by omega
      have h3 : listed.getD e.on true ≠ false := fun hx => hne ((inv.left _ hlt).1 hx)
      have : e.on < listed.size := by rw [inv.size]; exact hlt
      simp [this] at h3 ⊢
      exact h3
    rw [show f + 1 + 1 + rem2.length = (f + 1 + rem2.length) + 1 from by omega]
    refine ⟨fun h0 => (by rw [h0] at hkr; cases hkr), fun i hi => ?_⟩
    obtain ⟨hun, oi, hoi, hall⟩ := mem_ready.1 hi
    have hilt : i < ops.size := (Array.getElem?_eq_some_iff.1 hoi).1
    have him0 : i ∈ k :: rest ++ n :: rem2 := (inv.left i hilt).1 hun
    have hin : i ≠ n := fun hx => by
      subst hx
      have : oi = ol := Option.some.inj (hoi.symm.trans hol)
      subst this
      have h3 := (barB_ahead hbar hkn).listed inv.closed (fun oj hoj e he hb => by
        have : oj = oi := Option.some.inj (hoj.symm.trans hoi)
        subst this; exact hall e he hb)
      have h4 := (inv.left k (by omega)).2 (by simp)
      have hs : k < listed.size := by rw [inv.size]; omega
      simp [hs] at h3 h4
      rw [h4] at h3; cases h3
    have him : i ∈ k :: rest := by
      rcases List.mem_append.1 him0 with hx | hx
      · exact hx
      · rcases List.mem_cons.1 hx with hx | hx
        · exact absurd hx hin
        · exact (hlater _ listed inv i hx oi hoi hall).elim
    obtain ⟨l1, l2, hl⟩ := List.append_of_mem him
    have hriseA := inv.rise
    rw [hl] at h hf hriseA
    have hrise := (List.pairwise_append.1 hriseA).1
    have hriseN : ∀ x ∈ l1 ++ i :: l2, x < n := fun x hx => (List.pairwise_append.1 hriseA).2.2 x hx n (by simp)
    rw [List.pairwise_append] at hrise
    -- nothing ahead of i is waited for
    have hnw : ∀ k ∈ l1, ¬ Waits ops i k := fun k hk hw => by
      have hkl := hw.listed inv.closed (fun oj hoj e he hb => by
        have : oj = oi := Option.some.inj (hoj.symm.trans hoi)
        subst this; exact hall e he hb)
      have hklt : k < ops.size := inv.lt k (by rw [hl]; simp [hk])
      have := (inv.left k hklt).2 (by rw [hl]; simp [hk])
      have hs : k < listed.size := by rw [inv.size]; exact hklt
      simp [hs] at this hkl
      rw [this] at hkl; cases hkl
    have hpair : ∀ k ∈ l1, ∀ ok, ops[k]? = some ok → ok.apart ops oi = true ∧ (isEff ok && isEff oi) = false := fun k hk ok hok => by
      have hki : k < i := hrise.2.2 k hk i (List.mem_cons_self ..)
      have h1 := (hB i hilt).2 k hki
      simp only [pairB, hok, hoi, Bool.or_eq_true, Bool.and_eq_true, Bool.not_eq_true'] at h1
      rcases h1 with h1 | h1
      · exact absurd (hms _ _ h1) (hnw k hk)
      · exact ⟨h1.1, h1.2⟩
    have hmem : ∀ o ∈ opersOf ops l1, ∃ k ∈ l1, ops[k]? = some o := fun o ho => List.mem_filterMap.1 ho
    have hap : ∀ o ∈ opersOf ops l1, o.apart ops oi = true ∧ ∀ cs b, o.op ≠ .select cs b := fun o ho => by
      obtain ⟨k, hk, hok⟩ := hmem o ho
      exact ⟨(hpair k hk o hok).1, fun cs b => hsel' k o cs b hok⟩
    have hT : wpMix P ops C (LastStep P ops ol (fun a' w' => ∃ C2 : World → Prop, C2 w' ∧ wpMix P ops C2 (Q .normal) (opersOf ops rem2) a' w')) (opersOf ops l1 ++ oi :: opersOf ops l2) a w := by
      have : opersOf ops (l1 ++ i :: l2) = opersOf ops l1 ++ oi :: opersOf ops l2 := by
        rw [opersOf_append]; simp [opersOf, hoi]
      rw [← this]; exact h
    -- taken first
    have hS : Step1 P ops C oi (wpMix P ops C (LastStep P ops ol (fun a' w' => ∃ C2 : World → Prop, C2 w' ∧ wpMix P ops C2 (Q .normal) (opersOf ops rem2) a' w')) (opersOf ops (l1 ++ l2))) a w := by
      rw [opersOf_append]
      cases he : isEff oi with
      | false => exact early_reader he (fun cs b => hsel' i oi cs b hoi) _ _ a w hC hap hT
      | true =>
        refine early_effect he (fun cs b => hsel' i oi cs b hoi) _ _ a w (fun o ho => ?_) hT
        obtain ⟨k, hk, hok⟩ := hmem o ho
        have h2 := (hpair k hk o hok).2
        rw [he, Bool.and_true] at h2
        exact ⟨h2, hap o ho⟩
    -- the rest
    have inv' : MixInv ops (l1 ++ l2 ++ n :: rem2) (listed.setIfInBounds i true) := by
      refine ⟨by simp [inv.size], ?_, fun j hj => inv.lt j (by rw [hl]; simp at hj ⊢; rcases hj with hj | hj | hj | hj <;> simp [hj]), fun j hj => ?_, fun j oj hoj hlj e he hb => ?_⟩
      · rw [List.pairwise_append]
        refine ⟨?_, (List.pairwise_append.1 hriseA).2.1, fun x hx y hy => ?_⟩
        · rw [List.pairwise_append]
          exact ⟨hrise.1, (List.pairwise_cons.1 hrise.2.1).2, fun x hx y hy => hrise.2.2 x hx y (List.mem_cons_of_mem _ hy)⟩
        · have hxn := hriseN x (by rcases List.mem_append.1 hx with hx | hx <;> simp [hx])
          rcases List.mem_cons.1 hy with rfl | hy
          · exact hxn
          · have := hr2 y hy; omega
      · by_cases hji : i = j
        · subst hji
          have hs : i < listed.size := by rw [inv.size]; exact hj
          refine ⟨fun hx => by simp [hs] at hx, fun hx => ?_⟩
          rcases List.mem_append.1 hx with hx | hx
          · rcases List.mem_append.1 hx with hx | hx
            · exact absurd (hrise.2.2 i hx i (List.mem_cons_self ..)) (Nat.lt_irrefl _)
            · exact absurd ((List.pairwise_cons.1 hrise.2.1).1 i hx) (Nat.lt_irrefl _)
          · rcases List.mem_cons.1 hx with hx | hx
            · exact (hin hx).elim
            · exact (hlater _ listed inv _ hx oi hoi hall).elim
        · rw [getD_set_ne true hji, inv.left j hj, hl]
          simp only [List.mem_append, List.mem_cons]
          constructor
          · rintro ((h | h | h) | h)
            · exact .inl (.inl h)
            · exact absurd h.symm hji
            · exact .inl (.inr h)
            · exact .inr h
          · rintro ((h | h) | h)
            · exact .inl (.inl h)
            · exact .inl (.inr (.inr h))
            · exact .inr h
      · by_cases hji : i = j
        · subst hji
          have : oj = oi := Option.some.inj (hoj.symm.trans hoi)
          subst this
          exact getD_set_true (hall e he hb)
        · rw [getD_set_ne false hji] at hlj
          exact getD_set_true (inv.closed j oj hoj hlj e he hb)
    have hlen : (l1 ++ l2).length = f := by simp at hf ⊢; omega
    have next : ∀ a' w', C w' → wpMix P ops C (LastStep P ops ol (fun a' w' => ∃ C2 : World → Prop, C2 w' ∧ wpMix P ops C2 (Q .normal) (opersOf ops rem2) a' w')) (opersOf ops (l1 ++ l2)) a' w' → wpAny P .any ops Q (f + 1 + rem2.length) (listed.setIfInBounds i true) a' w' :=
      fun a' w' hC' h' => ih _ _ a' w' hlen inv' hC' h'
    unfold wpOp
    simp only [hoi]
    unfold Step1 at hS
    by_cases hw : Region.wanted oi (yielded ops a.tmps) = true
    · rw [if_pos hw] at hS ⊢
      left
      by_cases he : isEff oi = true
      · rw [if_pos he] at hS
        refine wp_of_effAt ?_
        exact effUpon_put (fun u w' hK => next _ _ hK.1 hK.2) hS.2
      · rw [if_neg he] at hS
        obtain ⟨v, hv, hK⟩ := hS
        exact wp_of_readsAt (hv w hC) (next _ _ hC hK)
    · rw [if_neg hw] at hS ⊢
      exact next _ _ hC hS



/-- A list parted at a place. -/
inductive PartAt : Nat → List Oper → List Oper → Oper → List Oper → Prop
  | here (o : Oper) (l : List Oper) : PartAt 0 (o :: l) [] o l
  | there (o : Oper) {n : Nat} {l l1 l2 : List Oper} {x : Oper} (h : PartAt n l l1 x l2) : PartAt (n + 1) (o :: l) (o :: l1) x l2
theorem PartAt.eq {n : Nat} {l l1 l2 : List Oper} {x : Oper} (h : PartAt n l l1 x l2) : l = l1 ++ x :: l2 ∧ l1.length = n := by
  induction h with
  | here => exact ⟨rfl, rfl⟩
  | there o _ ih => exact ⟨by rw [ih.1]; rfl, by simp [ih.2]⟩

/-- A region that draws its order, with a bar. -/
theorem wp_region_bar {id : Nat} {Q : Exit → Act → World → Prop} {a : Act} {w : World} {l : List Oper} (C : World → Prop) (n : Nat) {l1 l2 : List Oper} {ob : Oper} (hm : P.follows .mixedOrders = true) (hp : PartAt n l l1 ob l2) (hB : mixB l.toArray = true) (hbar : barB l.toArray n = true) (hC : C { w with drawn := w.drawn + 1 })
    (h : wpMix P l.toArray C (LastStep P l.toArray ob (fun a' w' => ∃ C2 : World → Prop, C2 w' ∧ wpMix P l.toArray C2 (Q .normal) l2 a' w')) l1 a { w with drawn := w.drawn + 1 }) : (Code.region id l.toArray true).wp P Q a w := by
  obtain ⟨hl, hn⟩ := hp.eq
  have hsz : l.toArray.size = n + 1 + l2.length := by rw [hl]; simp; omega
  have hrg : List.range l.toArray.size = List.range n ++ n :: List.range' (n + 1) l2.length := by
    rw [hsz, List.range_eq_range', List.range_eq_range', show n + 1 + l2.length = n + (1 + l2.length) from by omega, ← List.range'_append_1, show 1 + l2.length = l2.length + 1 from by omega, List.range'_succ]
    simp
  have hall := opersOf_range (ops := l.toArray)
  rw [hrg, opersOf_append] at hall
  have hob : l.toArray[n]? = some ob := by simp [hl, ← hn]
  have h2 : opersOf l.toArray (n :: List.range' (n + 1) l2.length) = ob :: opersOf l.toArray (List.range' (n + 1) l2.length) := by
    unfold opersOf; rw [List.filterMap_cons, hob]
  rw [h2, show l.toArray.toList = l1 ++ ob :: l2 from by simpa using hl] at hall
  have hlen : (opersOf l.toArray (List.range n)).length = l1.length := by
    have : ∀ m, m ≤ l.toArray.size → (opersOf l.toArray (List.range m)).length = m := by
      intro m
      induction m with
      | zero => intro _; rfl
      | succ m ih =>
        intro hm
        have hs : l.toArray[m]? = some l.toArray[m] := Array.getElem?_eq_getElem (by omega)
        rw [List.range_succ, opersOf_append, List.length_append, ih (by omega)]
        have h1 : opersOf l.toArray [m] = [l.toArray[m]] := by
          unfold opersOf; rw [List.filterMap_cons, hs]; rfl
        rw [h1]; rfl
    rw [this n (by omega), hn]
  obtain ⟨e1, e2⟩ := List.append_inj hall hlen
  have e3 : opersOf l.toArray (List.range' (n + 1) l2.length) = l2 := (List.cons.inj e2).2
  refine wp_region_any hm ?_
  rw [hsz, show n + 1 + l2.length = n + 1 + (List.range' (n + 1) l2.length).length from by simp]
  refine wpAny_of_bar (C := C) hB n ob hob (List.range' (n + 1) l2.length) (fun x hx => by have := List.mem_range'_1.1 hx; omega) hbar n (List.range n) _ a _ (by simp) ?_ hC ?_
  · rw [← hrg]
    refine ⟨by simp [hsz], List.pairwise_lt_range, fun i hi => List.mem_range.1 hi, fun i hi => ?_, fun j oj _ hl => ?_⟩
    · simp only [List.mem_range, hi, iff_true]
      rw [hsz] at hi
      simp [hi]
    · rw [show (Array.replicate (n + 1 + (List.range' (n + 1) l2.length).length) false).getD j false = false from by by_cases h : j < n + 1 + l2.length <;> simp [h]] at hl; cases hl
  · rw [e1, e3]; exact h
end
end Go.Cob
