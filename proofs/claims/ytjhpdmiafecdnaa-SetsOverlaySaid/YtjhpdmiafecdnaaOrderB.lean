/-
  The reference's order of keys.
-/
import Derived.Test.YtjhpdmiafecdnaaOrder
import Derived.WalkKit
namespace Go.Proofs.Cob
open Go Go.RowKit Go.Cob
set_option linter.unusedSimpArgs false
set_option linter.unusedVariables false

theorem sign_any (b : Bool) (w : World) : Calls Try.prog 193 #[.bool b] w fun e w' => e = .returned (.int .i64 (if b then -1 else 1)) ∧ w = w' := by
  cases b <;> (go_enter Try.func193, Try.ntmps193; go_wp2; go_ret; exact ⟨rfl, rfl⟩)

theorem num_any (x y : Int) (w : World) : Calls Try.prog 113 #[.int .i64 x, .int .i64 y] w fun e w' => e = .returned (.int .i64 (cmpI x y)) ∧ w = w' := by
  rcases Int.lt_trichotomy x y with h | h | h
  · have e : cmpI x y = -1 := by unfold cmpI; rw [if_pos h]
    rw [e]
    clear e
    go_enter Try.func113, Try.ntmps113
    go_wp2
    go_ret
    exact ⟨rfl, rfl⟩
  · subst h
    have e : cmpI x x = 0 := by unfold cmpI; simp
    rw [e]
    clear e
    go_enter Try.func113, Try.ntmps113
    go_wp2
    go_ret
    exact ⟨rfl, rfl⟩
  · have h' : ¬ x < y := by omega
    have e : cmpI x y = 1 := by unfold cmpI; rw [if_neg h', if_pos h]
    rw [e]
    clear e
    go_enter Try.func113, Try.ntmps113
    go_wp2
    go_ret
    exact ⟨rfl, rfl⟩

theorem drop_step (a : ByteArray) (k : Nat) (h : k < a.size) : a.data.toList.drop k = a[k] :: a.data.toList.drop (k + 1) := by
  have h' : k < a.data.toList.length := by simpa using h
  rw [List.drop_eq_getElem_cons h']
  rfl

theorem cmpS_step (a b : ByteArray) (k : Nat) (ha : k < a.size) (hb : k < b.size) :
    Lib.compareBytes (a.data.toList.drop k) (b.data.toList.drop k) = if a[k] < b[k] then -1 else if b[k] < a[k] then 1 else Lib.compareBytes (a.data.toList.drop (k + 1)) (b.data.toList.drop (k + 1)) := by
  rw [drop_step a k ha, drop_step b k hb, Lib.compareBytes]

theorem cmpS_endA (a b : ByteArray) (k : Nat) (ha : a.size = k) (hb : b.size = k) : Lib.compareBytes (a.data.toList.drop k) (b.data.toList.drop k) = 0 := by
  rw [List.drop_eq_nil_of_le (by simpa using Nat.le_of_eq ha), List.drop_eq_nil_of_le (by simpa using Nat.le_of_eq hb), Lib.compareBytes]
theorem cmpS_endB (a b : ByteArray) (k : Nat) (ha : a.size = k) (hb : k < b.size) : Lib.compareBytes (a.data.toList.drop k) (b.data.toList.drop k) = -1 := by
  rw [List.drop_eq_nil_of_le (by simpa using Nat.le_of_eq ha), drop_step b k hb, Lib.compareBytes]
theorem cmpS_endC (a b : ByteArray) (k : Nat) (ha : k < a.size) (hb : b.size = k) : Lib.compareBytes (a.data.toList.drop k) (b.data.toList.drop k) = 1 := by
  have e : b.data.toList.drop k = [] := List.drop_eq_nil_of_le (by simpa using Nat.le_of_eq hb)
  rw [drop_step a k ha, e, Lib.compareBytes]


set_option maxHeartbeats 1600000 in
theorem ref02_any (a b : ByteArray) (w : World) (ha : a.size < 4611686018427387904) (hb : b.size < 4611686018427387904) :
    Calls Try.prog 114 #[.string a, .string b] w fun e w' => e = .returned (.int .i64 (cmpS a b)) ∧ ∃ p : Ext w, w' = p.w := by
  have hs := sign_any
  go_enter Try.func114, Try.ntmps114
  go_wp2
  go_loopw [5] (fun n w' => (∃ p : Ext w, w' = p.w) ∧ ∃ k : Nat, n = .int .i64 k ∧ k ≤ a.size ∧ k ≤ b.size ∧ Lib.compareBytes (a.data.toList.drop k) (b.data.toList.drop k) = cmpS a b) (fun n _ => a.size - (intOf n).toNat)
  case atStart => exact ⟨⟨Ch.refl NoS w, rfl⟩, 0, rfl, by omega, by omega, rfl⟩
  case round =>
    obtain ⟨⟨p, rfl⟩, k, rfl, hka, hkb, hc⟩ := hrel
    by_cases h1 : k < a.size
    · by_cases h2 : k < b.size
      · have ia : ∀ w : World, (Instr.index 9 (.string a) (.int .i64 (k : Int))).run Try.prog w = .ok (.int .u8 (a[k]).toNat) w := fun w => by
          rw [run_index_string w 9 a .i64 k (by kernel_rfl), dif_pos ⟨by omega, by omega⟩]; rfl
        have ib : ∀ w : World, (Instr.index 9 (.string b) (.int .i64 (k : Int))).run Try.prog w = .ok (.int .u8 (b[k]).toNat) w := fun w => by
          rw [run_index_string w 9 b .i64 k (by kernel_rfl), dif_pos ⟨by omega, by omega⟩]; rfl
        have hstep := cmpS_step a b k h1 h2
        rw [hc] at hstep
        clear hc
        generalize a[k] = x at hstep ia
        generalize b[k] = y at hstep ib
        by_cases hxy : x = y
        · subst hxy
          have nx : (((x.toNat : Int)) != (x.toNat : Int)) = false := by simp
          rw [if_neg (UInt8.lt_irrefl _), if_neg (UInt8.lt_irrefl _)] at hstep
          have Hstep : Hid (cmpS a b = Lib.compareBytes (a.data.toList.drop (k + 1)) (b.data.toList.drop (k + 1))) := hstep
          clear hstep
          go_wp2_with fail
          refine wp_region_ch NoS (by kernel_rfl) (by kernel_rfl) (fun q hq => ?_)
          clear hq
          (repeat (first | (refine wpMix_skip rfl rfl ?_) | (refine wpMix_step (fun K hK => ?_); go_simp; (with_reducible (refine hK _ _ ?_)); clear hK K)))
          refine wpMix_nil ?_
          clear nx ia ib
          go_wp2_with fail
          go_roundw
          case rel => exact ⟨⟨p.thenE q, rfl⟩, k + 1, by go_num, by omega, by omega, Hstep.out.symm⟩
          case measure => simp [intOf]; omega
        · have hne : (x.toNat : Int) ≠ (y.toNat : Int) := fun e => hxy (UInt8.toNat_inj.mp (by exact_mod_cast e))
          have nx : (((x.toNat : Int)) != (y.toNat : Int)) = true := by simpa using hne
          rcases Int.lt_or_gt_of_ne hne with hlt | hlt
          · have hlt' : x < y := UInt8.lt_iff_toNat_lt.mpr (by omega)
            rw [if_pos hlt'] at hstep
            have Hs : Hid _ := hstep
            clear hlt' hstep hne hxy
            go_wp2_with fail
            refine wp_region_ch NoS (by kernel_rfl) (by kernel_rfl) (fun q hq => ?_)
            clear hq
            (repeat (first | (refine wpMix_skip rfl rfl ?_) | (refine wpMix_step (fun K hK => ?_); go_simp; (with_reducible (refine hK _ _ ?_)); clear hK K)))
            refine wpMix_nil ?_
            go_wp2_with fail
            refine wp_region_ch NoS (by kernel_rfl) (by kernel_rfl) (fun r hr => ?_)
            clear hr
            (repeat (first | (refine wpMix_skip rfl rfl ?_) | (refine wpMix_step (fun K hK => ?_); go_simp; (with_reducible (refine hK _ _ ?_)); clear hK K)))
            refine wpMix_step (fun K hK => ?_); go_simp; refine (sign_any _ _).mono ?_; rintro e w' ⟨rfl, rfl⟩; refine ⟨⟨r, rfl⟩, hK _ _ ?_⟩; clear hK K
            (repeat (first | (refine wpMix_skip rfl rfl ?_) | (refine wpMix_step (fun K hK => ?_); go_simp; (with_reducible (refine hK _ _ ?_)); clear hK K)))
            refine wpMix_nil ?_
            go_wp2_with fail
            go_ret
            exact ⟨by rw [Hs.out]; rfl, (p.thenE q).thenE r, rfl⟩
          · have hlt' : y < x := UInt8.lt_iff_toNat_lt.mpr (by omega)
            have hlt2 : ¬ x < y := fun h => by have := UInt8.lt_iff_toNat_lt.mp h; omega
            have hlt3 : ¬ (x.toNat : Int) < (y.toNat : Int) := by omega
            rw [if_neg hlt2, if_pos hlt'] at hstep
            have Hs : Hid _ := hstep
            clear hlt' hstep hne hxy hlt2
            go_wp2_with fail
            refine wp_region_ch NoS (by kernel_rfl) (by kernel_rfl) (fun q hq => ?_)
            clear hq
            (repeat (first | (refine wpMix_skip rfl rfl ?_) | (refine wpMix_step (fun K hK => ?_); go_simp; (with_reducible (refine hK _ _ ?_)); clear hK K)))
            refine wpMix_nil ?_
            go_wp2_with fail
            refine wp_region_ch NoS (by kernel_rfl) (by kernel_rfl) (fun r hr => ?_)
            clear hr
            (repeat (first | (refine wpMix_skip rfl rfl ?_) | (refine wpMix_step (fun K hK => ?_); go_simp; (with_reducible (refine hK _ _ ?_)); clear hK K)))
            refine wpMix_step (fun K hK => ?_); go_simp; refine (sign_any _ _).mono ?_; rintro e w' ⟨rfl, rfl⟩; refine ⟨⟨r, rfl⟩, hK _ _ ?_⟩; clear hK K
            (repeat (first | (refine wpMix_skip rfl rfl ?_) | (refine wpMix_step (fun K hK => ?_); go_simp; (with_reducible (refine hK _ _ ?_)); clear hK K)))
            refine wpMix_nil ?_
            go_wp2_with fail
            go_ret
            exact ⟨by rw [Hs.out]; rfl, (p.thenE q).thenE r, rfl⟩
      · have e2 : b.size = k := by omega
        have hstep := cmpS_endC a b k h1 e2
        rw [hc] at hstep
        have Hs : Hid _ := hstep
        clear hc hstep
        have e3 : ¬ (a.size : Int) < (b.size : Int) := by omega
        have e4 : ¬ (a.size : Int) = (b.size : Int) := by omega
        have e5 : ((a.size : Int) == (b.size : Int)) = false := by simpa using e4
        go_wp2_with (go_at_call 193; go_must (refine (sign_any _ _).mono ?_); rintro e w' ⟨rfl, rfl⟩)
        go_ret
        exact ⟨by rw [Hs.out]; rfl, p, rfl⟩
    · have e1 : a.size = k := by omega
      by_cases h2 : k < b.size
      · have hstep := cmpS_endB a b k e1 h2
        rw [hc] at hstep
        have Hs : Hid _ := hstep
        clear hc hstep
        have e3 : (a.size : Int) < (b.size : Int) := by omega
        have e4 : ¬ (a.size : Int) = (b.size : Int) := by omega
        have e5 : ((a.size : Int) == (b.size : Int)) = false := by simpa using e4
        go_wp2_with (go_at_call 193; go_must (refine (sign_any _ _).mono ?_); rintro e w' ⟨rfl, rfl⟩)
        go_ret
        exact ⟨by rw [Hs.out]; rfl, p, rfl⟩
      · have hstep := cmpS_endA a b k e1 (by omega)
        rw [hc] at hstep
        have Hs : Hid _ := hstep
        clear hc hstep
        have e4 : (a.size : Int) = (b.size : Int) := by omega
        have e5 : ((k : Int) == (b.size : Int)) = true := by rw [← e1]; simpa using e4
        go_wp2_with (go_at_call 193; go_must (refine (sign_any _ _).mono ?_); rintro e w' ⟨rfl, rfl⟩)
        go_ret
        exact ⟨by rw [Hs.out]; rfl, p, rfl⟩

theorem cmpI_zero (x y : Int) : cmpI x y = 0 ↔ x = y := by unfold cmpI; split <;> (try split) <;> omega

def refK (a b : Key) : Int := if a.kind ≠ b.kind then cmpI a.kind b.kind else if a.a ≠ b.a then cmpI a.a b.a else if a.b ≠ b.b then cmpI a.b b.b else cmpS a.s b.s
theorem refK_eq (a b : Key) : refK a b = ordK a b := by
  unfold refK ordK or4
  have h1 := cmpI_zero a.kind b.kind
  have h2 := cmpI_zero a.a b.a
  have h3 := cmpI_zero a.b b.b
  by_cases e1 : a.kind = b.kind <;> by_cases e2 : a.a = b.a <;> by_cases e3 : a.b = b.b <;> simp_all

set_option maxHeartbeats 800000 in
theorem ref23_any (a b : Key) (w : World) (ha : a.s.size < 4611686018427387904) (hb : b.s.size < 4611686018427387904) :
    Calls Try.prog 23 #[keyV a, keyV b] w fun e w' => e = .returned (.int .i64 (ordK a b)) ∧ ∃ p : Ext w, w' = p.w := by
  rw [← refK_eq]
  obtain ⟨ak, aa, ab, sa⟩ := a
  obtain ⟨bk, ba, bb, sb⟩ := b
  simp only [refK]
  have fin : ∀ (u v) (p : Ext ((w.alloc u).alloc v)), ∃ q : Ext w, p.w = q.w := fun u v p => ⟨(((Ch.refl NoS w).alloc u).alloc v).thenE p, rfl⟩
  by_cases e1 : ak = bk
  · by_cases e2 : aa = ba
    · by_cases e3 : ab = bb
      · rw [if_neg (by simpa using e1), if_neg (by simpa using e2), if_neg (by simpa using e3)]
        subst e1 e2 e3
        have n1 : (ak != ak) = false := by simp
        have n2 : (aa != aa) = false := by simp
        have n3 : (ab != ab) = false := by simp
        go_enter Try.func23, Try.ntmps23
        go_wp2_with (go_at_call 114; go_must (refine (ref02_any _ _ _ ha hb).mono ?_); rintro e w' ⟨rfl, p, rfl⟩)
        go_ret
        exact ⟨rfl, fin _ _ p⟩
      · rw [if_neg (by simpa using e1), if_neg (by simpa using e2), if_pos e3]
        subst e1 e2
        have n1 : (ak != ak) = false := by simp
        have n2 : (aa != aa) = false := by simp
        have n3 : (ab != bb) = true := by simpa using e3
        clear e3
        go_enter Try.func23, Try.ntmps23
        go_wp2_with (go_at_call 113; go_must (refine (num_any _ _ _).mono ?_); rintro e w' ⟨rfl, rfl⟩)
        go_ret
        exact ⟨rfl, fin _ _ (Ch.refl NoS _)⟩
    · rw [if_neg (by simpa using e1), if_pos e2]
      subst e1
      have n1 : (ak != ak) = false := by simp
      have n2 : (aa != ba) = true := by simpa using e2
      clear e2
      go_enter Try.func23, Try.ntmps23
      go_wp2_with (go_at_call 113; go_must (refine (num_any _ _ _).mono ?_); rintro e w' ⟨rfl, rfl⟩)
      go_ret
      exact ⟨rfl, fin _ _ (Ch.refl NoS _)⟩
  · rw [if_pos e1]
    have n1 : (ak != bk) = true := by simpa using e1
    clear e1
    go_enter Try.func23, Try.ntmps23
    go_wp2_with (go_at_call 113; go_must (refine (num_any _ _ _).mono ?_); rintro e w' ⟨rfl, rfl⟩)
    go_ret
    exact ⟨rfl, fin _ _ (Ch.refl NoS _)⟩
end Go.Proofs.Cob
