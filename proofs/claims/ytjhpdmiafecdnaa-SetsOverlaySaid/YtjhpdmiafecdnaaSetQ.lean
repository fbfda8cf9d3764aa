/-
  Layer 13: the law's own gate: awake answers true; key.
-/
import Derived.Test.YtjhpdmiafecdnaaSetG
import Derived.Test.YtjhpdmiafecdnaaRowIn
import Derived.Test.YtjhpdmiafecdnaaScene
import Derived.Test.YtjhpdmiafecdnaaHolds
import Derived.Test.YtjhpdmiafecdnaaAwake
namespace Go.Proofs.Cob
open Go Go.RowKit Go.Cob
set_option linter.unusedSimpArgs false
set_option linter.unusedVariables false

abbrev keyN13 (n : Int) : Key := ⟨1, n, 0, ⟨#[]⟩⟩
theorem key13_any (n : Int) (w : World) : Calls Try.prog 70 #[.int .i64 n] w fun e w' => e = .returned (keyV (keyN13 n)) ∧ ∃ p : Ext w, w' = p.w := by
  go_enter Try.func70, Try.ntmps70
  go_wp2
  refine bodyPost_ret (v := .agg #[.int .i64 1, .int .i64 n, .int .i64 0, .string ⟨#[]⟩]) (by simp [results, Try.results70, go_sem]) rfl ⟨rfl, (Ch.refl _ w).alloc _, rfl⟩
abbrev yS : ByteArray := ⟨#[121]⟩
abbrev zS : ByteArray := ⟨#[122]⟩
abbrev S13 : List (Key × Sn) := [(key1, ⟨3, xS, true⟩)]
theorem aq1 : seeM [] key1 ⟨3, xS, true⟩ = (0, S13) := by kernel_rfl
theorem aq2 : putM S13 [] key1 yS = (0, [(key1, ⟨yS, true⟩)]) := by kernel_rfl
theorem aq3 : getM S13 [(key1, ⟨yS, true⟩)] key1 = ((yS, true), true) := by kernel_rfl
theorem aq4 : putM S13 [(key1, ⟨yS, true⟩)] key1 xS = (0, [(key1, ⟨xS, true⟩)]) := by kernel_rfl
theorem aq5 : putM S13 [(key1, ⟨xS, true⟩)] key1 zS = (0, [(key1, ⟨zS, true⟩)]) := by kernel_rfl
theorem aw_y : (writesM S13 [(key1, ⟨yS, true⟩)]).length = 1 := by
  unfold writesM
  rw [show ([(key1, ⟨yS, true⟩)] : List (Key × Tx)).map (·.1) = [key1] from rfl, sortK_one]
  kernel_rfl
theorem aw_x : (writesM S13 [(key1, ⟨xS, true⟩)]).length = 0 := by
  unfold writesM
  rw [show ([(key1, ⟨xS, true⟩)] : List (Key × Tx)).map (·.1) = [key1] from rfl, sortK_one]
  kernel_rfl
theorem aw_n : (writesM S13 []).length = 0 := by simp [writesM, sortK]
theorem WritesOut.form {w0 : World} {v : Value} {xs : List Wr} {w' : World} (h : WritesOut w0 v xs w') : ∃ (p : Ext w0) (fa : Option Addr) (cap : Nat), w' = p.w ∧ v = .slice fa xs.length cap ∧ xs.length ≤ cap ∧ RowIn encWr 6 p.w fa xs ∧ ∀ a, fa = some a → w0.heap.size ≤ a.block := by
  obtain ⟨p, rfl, hr⟩ := h
  obtain ⟨fa, cap, h1, h2, h3, h4⟩ := rowIn_own (f := encWr) (fun _ => rfl) hr rfl
  exact ⟨p, fa, cap, rfl, h1, h2, h3, fun a ha => (h4 a ha).1⟩
set_option maxHeartbeats 3200000 in
theorem awake13_any (w : World) : Calls Try.prog 50 #[] w fun e w' => e = .returned (.bool true) ∧ ∃ p : Ext w, w' = p.w := by
  go_enter Try.func50, Try.ntmps50
  go_wp2_with fail
  go_at_call 51
  refine (new_s w).mono ?_
  rintro e w' ⟨s, rfl, p, rfl, hS⟩
  have HS : Hid (SetM p.w s [] [] [] (Wide w [])) := hS.mono (fun b _ h => ⟨h, by simp⟩)
  have HC : Hid (Scene w p.w []) := (Scene.refl w).ext p
  clear hS
  generalize p.w = W at HS HC ⊢
  clear p
  go_wp2_with (first
    | (go_at_call 70; go_must (refine (key13_any _ _).mono ?_); rintro e w' ⟨rfl, q, rfl⟩; replace HS : Hid _ := HS.out.ext q; replace HC : Hid _ := HC.out.ext q; generalize q.w = W' at HS HC ⊢; clear q)
    | (go_at_call 53; go_must (have := see_s s _ _ _ _ key1 ⟨3, xS, true⟩ _ HS.out; rw [aq1] at this; refine this.mono ?_); clear this; rintro e w' ⟨rfl, q, rfl, hS⟩; replace HS : Hid _ := hS; replace HC : Hid _ := HC.out.ch q; clear hS; generalize q.w = W' at HS HC ⊢; clear q)
    | fail)
  go_at_call 55
  have := put_s s _ _ _ _ key1 yS _ HS.out
  rw [aq2] at this
  refine this.mono ?_
  clear this; rintro e w' ⟨rfl, q, rfl, hS⟩; replace HS : Hid _ := hS; replace HC : Hid _ := HC.out.ch q; clear hS; generalize q.w = W' at HS HC ⊢; clear q
  go_wp2_with (first
    | (go_at_call 70; go_must (refine (key13_any _ _).mono ?_); rintro e w' ⟨rfl, q, rfl⟩; replace HS : Hid _ := HS.out.ext q; replace HC : Hid _ := HC.out.ext q; generalize q.w = W' at HS HC ⊢; clear q)
    | (go_at_call 61; go_must (have := get_s s _ _ _ _ key1 _ HS.out; rw [aq3] at this; refine this.mono ?_); clear this; rintro e w' ⟨rfl, q, rfl⟩; replace HS : Hid _ := HS.out.ext q; replace HC : Hid _ := HC.out.ext q; generalize q.w = W' at HS HC ⊢; clear q)
    | fail)
  go_at_call 68
  have := writes_s s _ _ _ _ _ HS.out (by simp)
  refine this.mono ?_
  clear this
  rintro e w' ⟨v, rfl, hW⟩
  obtain ⟨q, fa, cap, rfl, rfl, -, -, -⟩ := hW.form
  rw [aw_y]
  clear hW
  replace HS : Hid _ := HS.out.ext q; replace HC : Hid _ := HC.out.ext q; generalize q.w = W' at HS HC ⊢; clear q
  go_wp2_with (first
    | (go_at_call 70; go_must (refine (key13_any _ _).mono ?_); rintro e w' ⟨rfl, q, rfl⟩; replace HS : Hid _ := HS.out.ext q; replace HC : Hid _ := HC.out.ext q; generalize q.w = W' at HS HC ⊢; clear q)
    | fail)
  go_at_call 55
  have := put_s s _ _ _ _ key1 xS _ HS.out
  rw [aq4] at this
  refine this.mono ?_
  clear this; rintro e w' ⟨rfl, q, rfl, hS⟩; replace HS : Hid _ := hS; replace HC : Hid _ := HC.out.ch q; clear hS; generalize q.w = W' at HS HC ⊢; clear q
  go_wp2_with fail
  go_at_call 68
  have := writes_s s _ _ _ _ _ HS.out (by simp)
  refine this.mono ?_
  clear this
  rintro e w' ⟨v, rfl, hW⟩
  obtain ⟨q, fa2, cap2, rfl, rfl, -, -, -⟩ := hW.form
  rw [aw_x]
  clear hW
  replace HS : Hid _ := HS.out.ext q; replace HC : Hid _ := HC.out.ext q; generalize q.w = W' at HS HC ⊢; clear q
  go_wp2_with (first
    | (go_at_call 70; go_must (refine (key13_any _ _).mono ?_); rintro e w' ⟨rfl, q, rfl⟩; replace HS : Hid _ := HS.out.ext q; replace HC : Hid _ := HC.out.ext q; generalize q.w = W' at HS HC ⊢; clear q)
    | fail)
  go_at_call 55
  have := put_s s _ _ _ _ key1 zS _ HS.out
  rw [aq5] at this
  refine this.mono ?_
  clear this; rintro e w' ⟨rfl, q, rfl, hS⟩; replace HS : Hid _ := hS; replace HC : Hid _ := HC.out.ch q; clear hS; generalize q.w = W' at HS HC ⊢; clear q
  go_wp2_with fail
  go_at_call 60
  have := back_s s _ _ _ _ _ HS.out HC.out.wide
  refine this.mono ?_
  clear this; rintro e w' ⟨rfl, q, rfl, hS⟩; replace HS : Hid _ := hS; replace HC : Hid _ := HC.out.ch q; clear hS; generalize q.w = W' at HS HC ⊢; clear q
  go_wp2_with fail
  go_at_call 68
  have := writes_s s _ _ _ _ _ HS.out (by simp)
  refine this.mono ?_
  clear this
  rintro e w' ⟨v, rfl, hW⟩
  obtain ⟨q, fa3, cap3, rfl, rfl, -, -, -⟩ := hW.form
  rw [aw_n]
  clear hW
  replace HS : Hid _ := HS.out.ext q; replace HC : Hid _ := HC.out.ext q; generalize q.w = W' at HS HC ⊢; clear q
  go_wp2_with fail
  obtain ⟨q, hq⟩ := HC.out.fin
  go_ret
  exact ⟨rfl, q, hq⟩
end Go.Proofs.Cob
