/-
  Words in plain numbers: a stamp below 2^62, the absent bit, the lock bit.
-/
import Derived.Test.YtjhpdmiafecdnaaCellG
import Derived.Laws.BitsAllLaws
namespace Go.Proofs.Cob
open Go Go.RowKit Go.Cob
set_option linter.unusedSimpArgs false
set_option linter.unusedVariables false

theorem and_split (a b s t : Nat) (hs : s < 4611686018427387904) (ht : t < 4611686018427387904) : (4611686018427387904 * a + s) &&& (4611686018427387904 * b + t) = 4611686018427387904 * (a &&& b) + (s &&& t) := by
  have h1 := Nat.and_div_two_pow (n := 62) (a := 4611686018427387904 * a + s) (b := 4611686018427387904 * b + t)
  have h2 := Nat.and_mod_two_pow (n := 62) (a := 4611686018427387904 * a + s) (b := 4611686018427387904 * b + t)
  have e : (2 : Nat) ^ 62 = 4611686018427387904 := by decide
  rw [e] at h1 h2
  rw [show (4611686018427387904 * a + s) / 4611686018427387904 = a from by omega, show (4611686018427387904 * b + t) / 4611686018427387904 = b from by omega] at h1
  rw [show (4611686018427387904 * a + s) % 4611686018427387904 = s from by omega, show (4611686018427387904 * b + t) % 4611686018427387904 = t from by omega] at h2
  generalize (4611686018427387904 * a + s) &&& (4611686018427387904 * b + t) = x at *
  generalize a &&& b = y at *
  generalize s &&& t = z at *
  omega
theorem or_split (a b s t : Nat) (hs : s < 4611686018427387904) (ht : t < 4611686018427387904) : (4611686018427387904 * a + s) ||| (4611686018427387904 * b + t) = 4611686018427387904 * (a ||| b) + (s ||| t) := by
  have h1 := Nat.or_div_two_pow (n := 62) (a := 4611686018427387904 * a + s) (b := 4611686018427387904 * b + t)
  have h2 := Nat.or_mod_two_pow (n := 62) (a := 4611686018427387904 * a + s) (b := 4611686018427387904 * b + t)
  have e : (2 : Nat) ^ 62 = 4611686018427387904 := by decide
  rw [e] at h1 h2
  rw [show (4611686018427387904 * a + s) / 4611686018427387904 = a from by omega, show (4611686018427387904 * b + t) / 4611686018427387904 = b from by omega] at h1
  rw [show (4611686018427387904 * a + s) % 4611686018427387904 = s from by omega, show (4611686018427387904 * b + t) % 4611686018427387904 = t from by omega] at h2
  generalize (4611686018427387904 * a + s) ||| (4611686018427387904 * b + t) = x at *
  generalize a ||| b = y at *
  generalize s ||| t = z at *
  omega

/-- A word: its stamp, absent, locked. -/
def mkN (s : Nat) (g l : Bool) : Nat := 4611686018427387904 * ((if g then 1 else 0) + (if l then 2 else 0)) + s
def mkW (s : Nat) (g l : Bool) : Int := ((mkN s g l : Nat) : Int)
theorem mkN_lt {s : Nat} (hs : s < 4611686018427387904) (g l : Bool) : mkN s g l < 18446744073709551616 := by unfold mkN; cases g <;> cases l <;> simp <;> omega

section
variable {s : Nat} (hs : s < 4611686018427387904) (g l : Bool)
include hs
theorem stamp_mk : stampZ (mkW s g l) = (s : Int) := by
  unfold stampZ mkW
  rw [show (13835058055282163712 : Int) = ((13835058055282163712 : Nat) : Int) from rfl, u64_andNot_nat _ _ (mkN_lt hs g l) (by decide)]
  rw [show 18446744073709551615 - 13835058055282163712 = 4611686018427387904 * 0 + 4611686018427387903 from by decide]
  unfold mkN
  rw [and_split _ _ _ _ hs (by decide), Nat.and_zero]
  have : s &&& 4611686018427387903 = s % 2 ^ 62 := Nat.and_two_pow_sub_one_eq_mod s 62
  rw [this, show (2 : Nat) ^ 62 = 4611686018427387904 from by decide, Nat.mod_eq_of_lt hs]
  simp
theorem free_mk : freeB (mkW s g l) = !l := by
  unfold freeB mkW
  rw [show (9223372036854775808 : Int) = ((9223372036854775808 : Nat) : Int) from rfl, u64_and_nat _ _ (mkN_lt hs g l) (by decide)]
  rw [show (9223372036854775808 : Nat) = 4611686018427387904 * 2 + 0 from by decide]
  unfold mkN
  rw [and_split _ _ _ _ hs (by decide), Nat.and_zero]
  cases g <;> cases l <;> simp
theorem gone_mk : goneB (mkW s g l) = g := by
  unfold goneB absentZ mkW
  rw [if_pos rfl, show (4611686018427387904 : Int) = ((4611686018427387904 : Nat) : Int) from rfl, u64_or_nat _ _ (mkN_lt hs g l) (by decide)]
  have e : mkN s g l ||| 4611686018427387904 = 4611686018427387904 * (((if g then 1 else 0) + (if l then 2 else 0)) ||| 1) + s := by
    unfold mkN
    rw [show (4611686018427387904 * ((if g = true then 1 else 0) + if l = true then 2 else 0) + s ||| 4611686018427387904) = (4611686018427387904 * ((if g = true then 1 else 0) + if l = true then 2 else 0) + s ||| (4611686018427387904 * 1 + 0)) from rfl]
    rw [or_split _ _ _ _ hs (by decide), Nat.or_zero]
  rw [e]
  unfold mkN
  cases g <;> cases l <;> simp <;> omega
theorem lock_mk : lockZ (mkW s g false) = mkW s g true := by
  unfold lockZ mkW
  rw [show (9223372036854775808 : Int) = ((9223372036854775808 : Nat) : Int) from rfl, u64_or_nat _ _ (mkN_lt hs g false) (by decide)]
  rw [show (9223372036854775808 : Nat) = 4611686018427387904 * 2 + 0 from by decide]
  unfold mkN
  rw [or_split _ _ _ _ hs (by decide), Nat.or_zero]
  cases g <;> simp
theorem unlock_mk : unlockZ (mkW s g l) = mkW s g false := by
  unfold unlockZ mkW
  rw [show (9223372036854775808 : Int) = ((9223372036854775808 : Nat) : Int) from rfl, u64_andNot_nat _ _ (mkN_lt hs g l) (by decide)]
  rw [show 18446744073709551615 - 9223372036854775808 = 4611686018427387904 * 1 + 4611686018427387903 from by decide]
  unfold mkN
  rw [and_split _ _ _ _ hs (by decide)]
  have : s &&& 4611686018427387903 = s % 2 ^ 62 := Nat.and_two_pow_sub_one_eq_mod s 62
  rw [this, show (2 : Nat) ^ 62 = 4611686018427387904 from by decide, Nat.mod_eq_of_lt hs]
  cases g <;> cases l <;> simp
theorem absent_mk : absentZ (s : Int) g = mkW s g false := by
  have e0 : (s : Nat) = 4611686018427387904 * 0 + s := by omega
  have hlt : s < 18446744073709551616 := by omega
  unfold absentZ mkW
  cases g
  · rw [if_neg (by simp), show (4611686018427387904 : Int) = ((4611686018427387904 : Nat) : Int) from rfl, u64_andNot_nat _ _ hlt (by decide)]
    rw [show 18446744073709551615 - 4611686018427387904 = 4611686018427387904 * 2 + 4611686018427387903 from by decide]
    have h := and_split 0 2 s 4611686018427387903 hs (by decide)
    rw [← e0] at h
    rw [h]
    have : s &&& 4611686018427387903 = s % 2 ^ 62 := Nat.and_two_pow_sub_one_eq_mod s 62
    rw [this, show (2 : Nat) ^ 62 = 4611686018427387904 from by decide, Nat.mod_eq_of_lt hs]
    simp [mkN]
  · rw [if_pos rfl, show (4611686018427387904 : Int) = ((4611686018427387904 : Nat) : Int) from rfl, u64_or_nat _ _ hlt (by decide)]
    have h := or_split 0 1 s 0 hs (by decide)
    rw [← e0, Nat.or_zero] at h
    rw [show (s ||| 4611686018427387904) = (s ||| (4611686018427387904 * 1 + 0)) from rfl, h]
    simp [mkN]
end
/-- Every word is one. -/
theorem mk_all (x : Nat) (hx : x < 18446744073709551616) : ∃ g l, x = mkN (x % 4611686018427387904) g l := by
  have h : x / 4611686018427387904 = 0 ∨ x / 4611686018427387904 = 1 ∨ x / 4611686018427387904 = 2 ∨ x / 4611686018427387904 = 3 := by omega
  rcases h with h | h | h | h
  · exact ⟨false, false, by simp [mkN]; omega⟩
  · exact ⟨true, false, by simp [mkN]; omega⟩
  · exact ⟨false, true, by simp [mkN]; omega⟩
  · exact ⟨true, true, by simp [mkN]; omega⟩
theorem stamp_all (x : Int) (h0 : 0 ≤ x) (h1 : x < 18446744073709551616) : stampZ x = x % 4611686018427387904 := by
  obtain ⟨n, rfl⟩ := Int.eq_ofNat_of_zero_le h0
  have hn : n < 18446744073709551616 := by omega
  obtain ⟨g, l, e⟩ := mk_all n hn
  have := stamp_mk (s := n % 4611686018427387904) (Nat.mod_lt _ (by decide)) g l
  unfold mkW at this
  rw [← e] at this
  rw [this]
  omega
theorem stamp_bad (x : Int) (h0 : 0 ≤ x) (h1 : x < 18446744073709551616) : (x != stampZ x) = decide (4611686018427387904 ≤ x) := by
  rw [stamp_all x h0 h1]
  by_cases h : 4611686018427387904 ≤ x
  · have : x ≠ x % 4611686018427387904 := by omega
    simp [h, this]
  · have : x = x % 4611686018427387904 := by omega
    rw [decide_eq_false h, ← this]
    simp
end Go.Proofs.Cob
