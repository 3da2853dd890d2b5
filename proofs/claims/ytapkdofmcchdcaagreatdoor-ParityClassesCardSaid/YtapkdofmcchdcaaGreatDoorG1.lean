/- The binary method for the greatest common divisor. Plain numbers. -/
import Derived.Test.YtapkdofmcchdcaaGreatDoorE1
import Derived.Lib.TrailingZeros
namespace Go.Ev
open Go.Lib
theorem lead_form {x c m : Nat} (h : x = 2 ^ c * (2 * m + 1)) : Lead x c := by
  subst h
  constructor
  · rw [Nat.testBit_eq_decide_div_mod_eq, Nat.mul_div_cancel_left _ (Nat.two_pow_pos c)]
    simp
  · intro b hb
    rw [Nat.testBit_eq_decide_div_mod_eq, decide_eq_false_iff_not]
    obtain ⟨d, rfl⟩ : ∃ d, c = b + 1 + d := ⟨c - b - 1, by omega⟩
    rw [show (2 : Nat) ^ (b + 1 + d) * (2 * m + 1) = 2 ^ b * (2 * (2 ^ d * (2 * m + 1))) by rw [Nat.pow_add, Nat.pow_succ]; simp only [Nat.mul_assoc], Nat.mul_div_cancel_left _ (Nat.two_pow_pos b)]
    omega
theorem lead_or {x y i j : Nat} (hx : Lead x i) (hy : Lead y j) : Lead (x ||| y) (min i j) := by
  constructor
  · rw [Nat.testBit_or]
    rcases Nat.le_total i j with h | h
    · rw [Nat.min_eq_left h, hx.1]; rfl
    · rw [Nat.min_eq_right h, hy.1]; simp
  · intro b hb
    rw [Nat.testBit_or, hx.2 b (by omega), hy.2 b (by omega)]; rfl
theorem ctz_spec {x : Nat} (h0 : x ≠ 0) (hx : x < 18446744073709551616) : ∃ m, x = 2 ^ ctz 64 x * (2 * m + 1) ∧ ctz 64 x < 64 := by
  obtain ⟨m, hm, hk⟩ := ctzFrom_spec 64 x (by omega) (by omega)
  have : ctz 64 x = ctzFrom 64 x := by unfold ctz; rw [if_neg h0]
  rw [this]
  exact ⟨m, hm, hk⟩
theorem odd_coprime_pow {a : Nat} (h : a % 2 = 1) (k : Nat) : Nat.gcd a (2 ^ k) = 1 := by
  have h2 : Nat.gcd a 2 = 1 := by
    rw [Nat.gcd_comm, Nat.gcd_rec, h]; rfl
  exact Nat.Coprime.pow_right k h2
theorem gcd_shift {a b k : Nat} (h : a % 2 = 1) : Nat.gcd a (2 ^ k * b) = Nat.gcd a b :=
  Nat.Coprime.gcd_mul_left_cancel_right b (Nat.Coprime.symm (odd_coprime_pow h k))
/-- A number without its factors 2. -/
def odd (x : Nat) : Nat := x / 2 ^ ctz 64 x
theorem odd_spec {x : Nat} (h0 : x ≠ 0) (hx : x < 18446744073709551616) : odd x % 2 = 1 ∧ x = 2 ^ ctz 64 x * odd x ∧ 0 < odd x ∧ odd x ≤ x ∧ ctz 64 x < 64 := by
  obtain ⟨m, hm, hk⟩ := ctz_spec h0 hx
  have e : odd x = 2 * m + 1 := by
    unfold odd
    generalize ctz 64 x = c at *
    rw [hm, Nat.mul_div_cancel_left _ (Nat.two_pow_pos c)]
  refine ⟨by rw [e]; omega, by rw [e]; exact hm, by rw [e]; omega, Nat.div_le_self _ _, hk⟩
theorem gcd_two {x y : Nat} (hx0 : x ≠ 0) (hy0 : y ≠ 0) (hx : x < 18446744073709551616) (hy : y < 18446744073709551616) :
    Nat.gcd x y = Nat.gcd (odd x) y * 2 ^ ctz 64 (x ||| y) ∧ ctz 64 (x ||| y) < 64 := by
  obtain ⟨a1, a2, a3, _, _⟩ := odd_spec hx0 hx
  obtain ⟨b1, b2, b3, _, _⟩ := odd_spec hy0 hy
  have hxy : x ||| y < 18446744073709551616 := Nat.or_lt_two_pow (n := 64) hx hy
  have hxy0 : x ||| y ≠ 0 := fun e => hx0 (Nat.le_zero.1 (e ▸ Nat.left_le_or))
  obtain ⟨m, hm, hk⟩ := ctz_spec hxy0 hxy
  refine ⟨?_, hk⟩
  have l1 : Lead x (ctz 64 x) := by obtain ⟨m, hm, _⟩ := ctz_spec hx0 hx; exact lead_form hm
  have l2 : Lead y (ctz 64 y) := by obtain ⟨m, hm, _⟩ := ctz_spec hy0 hy; exact lead_form hm
  have e := (lead_form hm).inj (lead_or l1 l2)
  rw [e]
  generalize odd x = p at *
  generalize odd y = q at *
  generalize ctz 64 x = i at *
  generalize ctz 64 y = j at *
  subst a2 b2
  rw [gcd_shift a1]
  rcases Nat.le_total i j with h | h
  · obtain ⟨d, rfl⟩ : ∃ d, j = i + d := ⟨j - i, by omega⟩
    rw [Nat.min_eq_left h, Nat.pow_add, Nat.mul_assoc, Nat.gcd_mul_left, gcd_shift a1, Nat.mul_comm]
  · obtain ⟨d, rfl⟩ : ∃ d, i = j + d := ⟨i - j, by omega⟩
    rw [Nat.min_eq_right h, Nat.pow_add, Nat.mul_assoc, Nat.gcd_mul_left, Nat.gcd_comm _ q, gcd_shift b1, Nat.mul_comm, Nat.gcd_comm]
theorem gcd_odd {a y : Nat} (ha : a % 2 = 1) (hy0 : y ≠ 0) (hy : y < 18446744073709551616) : Nat.gcd a y = Nat.gcd a (odd y) := by
  obtain ⟨_, b2, _⟩ := odd_spec hy0 hy
  have : Nat.gcd a y = Nat.gcd a (2 ^ ctz 64 y * odd y) := by rw [← b2]
  rw [this, gcd_shift ha]
theorem gcd_sub {a b : Nat} (h : a ≤ b) : Nat.gcd a (b - a) = Nat.gcd a b := by
  have := Nat.gcd_add_self_right (m := a) (n := b - a)
  rw [Nat.sub_add_cancel h] at this
  exact this.symm
end Go.Ev
