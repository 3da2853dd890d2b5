/- Parities: the inner product modulo 2 of a list of exponents and a sign vector, by sums and by bits. Plain numbers. -/
import Derived.Test.YtapkdofmcchdcaaGreatDoorE1
import Derived.Test.YtapkdofmcchdcaaGreatDoorBits
namespace Go.Ev
open Go.Gr
def pr (row : List Int) (x : Nat) : Nat → Nat
  | 0 => 0
  | i + 1 => pr row x i + (if x.testBit i = true then (row.getD i 0).toNat else 0)
theorem pr_xor (row : List Int) (x y : Nat) : ∀ n, pr row (x ^^^ y) n % 2 = (pr row x n + pr row y n) % 2
  | 0 => rfl
  | n + 1 => by
    have ih := pr_xor row x y n
    simp only [pr, Nat.testBit_xor]
    cases x.testBit n <;> cases y.testBit n <;> simp <;> omega
/-- The sign vectors of n variables that are orthogonal to all rows. -/
def V (rows : List (List Int)) (n x : Nat) : Prop := x < 2 ^ n ∧ ∀ row ∈ rows, pr row x n % 2 = 0
theorem V_space (rows : List (List Int)) (n : Nat) : Space (V rows n) n :=
  ⟨fun _ h => h.1, fun x y hx hy => ⟨Nat.xor_lt_two_pow hx.1 hy.1, fun row hr => by
    have := pr_xor row x y n
    have h1 := hx.2 row hr
    have h2 := hy.2 row hr
    omega⟩⟩
/-- A list of numbers as bits: bit i is the parity of number i. -/
def pk (l : List Int) : Nat → Nat
  | 0 => 0
  | k + 1 => pk l k ^^^ (((l.getD k 0).toNat % 2) <<< k)
theorem pk_bit (l : List Int) (b : Nat) : ∀ k, (pk l k).testBit b = (decide (b < k) && decide ((l.getD b 0).toNat % 2 = 1))
  | 0 => by simp [pk]
  | k + 1 => by
    rw [pk, Nat.testBit_xor, pk_bit l b k, Nat.testBit_shiftLeft]
    have h01 : (l.getD k 0).toNat % 2 = 0 ∨ (l.getD k 0).toNat % 2 = 1 := by omega
    by_cases e : b = k
    · subst e
      rcases h01 with h | h <;> rw [h] <;> simp
    · by_cases hlt : b < k
      · simp [hlt, show b < k + 1 by omega, show ¬ k ≤ b by omega]
      · have : k ≤ b := by omega
        simp only [hlt, show ¬ b < k + 1 by omega, decide_false, Bool.false_and, Bool.false_xor, ge_iff_le, this, decide_true, Bool.true_and]
        rcases h01 with h | h
        · rw [h]; simp
        · rw [h]
          exact Nat.testBit_lt_two_pow (i := b - k) (x := 1) (Nat.lt_of_lt_of_le (show 1 < 2 ^ 1 by decide) (Nat.pow_le_pow_right (by omega) (by omega)))
theorem pk_lt (l : List Int) (k : Nat) : pk l k < 2 ^ k := by
  apply Nat.lt_pow_two_of_testBit
  intro i hi
  rw [pk_bit]; simp; omega
theorem cnt_and (l : List Int) (x k : Nat) : ∀ n, n ≤ k → ((List.range n).filter (x &&& pk l k).testBit).length % 2 = pr l x n % 2
  | 0, _ => rfl
  | n + 1, h => by
    have ih := cnt_and l x k n (by omega)
    rw [List.range_succ, List.filter_append, List.length_append, pr]
    simp only [List.filter_cons, List.filter_nil, Nat.testBit_and, pk_bit, show n < k by omega, decide_true, Bool.true_and]
    cases x.testBit n
    · simp; omega
    · by_cases h2 : (l.getD n 0).toNat % 2 = 1
      · simp only [h2, decide_true, Bool.and_true, if_true, List.length_singleton]; omega
      · simp only [h2, decide_false, Bool.and_false, Bool.false_eq_true, if_false, if_true, List.length_nil]; omega
theorem cnt_high (z k : Nat) (hz : z < 2 ^ k) : ∀ m, ((List.range (k + m)).filter z.testBit).length = ((List.range k).filter z.testBit).length
  | 0 => rfl
  | m + 1 => by
    have : z.testBit (k + m) = false := Nat.testBit_lt_two_pow (Nat.lt_of_lt_of_le hz (Nat.pow_le_pow_right (by omega) (by omega)))
    rw [show k + (m + 1) = k + m + 1 from rfl, List.range_succ, List.filter_append, List.length_append, cnt_high z k hz m]
    simp [this]
/-- The number of common bits of a sign vector and the packed exponents is odd exactly if the inner product is. -/
theorem size_and (l : List Int) (x k : Nat) (hk : k ≤ 64) : size (x &&& pk l k) % 2 = pr l x k % 2 := by
  have hz : x &&& pk l k < 2 ^ k := Nat.lt_of_le_of_lt Nat.and_le_right (pk_lt l k)
  have := cnt_high _ k hz (64 - k)
  rw [show k + (64 - k) = 64 by omega] at this
  unfold size verts
  rw [this]
  exact cnt_and l x k k (Nat.le_refl _)
/-- The inner product of two lists. -/
def dotN (a s : List Int) : Nat → Int
  | 0 => 0
  | i + 1 => dotN a s i + a.getD i 0 * s.getD i 0
/-- A list of zeros and ones. -/
def Bit01 (s : List Int) : Prop := ∀ x ∈ s, x = 0 ∨ x = 1
theorem getD_mem (s : List Int) (i : Nat) (h : i < s.length) : s.getD i 0 ∈ s := by
  rw [List.getD_eq_getElem?_getD, List.getElem?_eq_getElem h, Option.getD_some]; exact List.getElem_mem h
theorem dotN_pr (a s : List Int) (k : Nat) (hs : Bit01 s) (hk : k = s.length) (ha : ∀ x ∈ a, 0 ≤ x) : ∀ n, n ≤ k → dotN a s n = (pr a (pk s k) n : Nat)
  | 0, _ => rfl
  | n + 1, h => by
    have h0 : 0 ≤ a.getD n 0 := by
      rcases Nat.lt_or_ge n a.length with h1 | h1
      · exact ha _ (getD_mem a n h1)
      · rw [List.getD_eq_getElem?_getD, List.getElem?_eq_none h1]; simp
    rw [dotN, pr, dotN_pr a s k hs hk ha n (by omega), pk_bit]
    simp only [show n < k by omega, decide_true, Bool.true_and]
    generalize a.getD n 0 = x at *
    rcases hs _ (getD_mem s n (by omega)) with e | e <;> rw [e] <;> simp
    omega
/-- A sign vector as a list. -/
def unp (x n : Nat) : List Int := (List.range n).map fun i => if x.testBit i = true then 1 else 0
theorem unp_len (x n : Nat) : (unp x n).length = n := by simp [unp]
theorem unp_getD (x n i : Nat) (h : i < n) : (unp x n).getD i 0 = if x.testBit i = true then 1 else 0 := by
  unfold unp
  rw [List.getD_eq_getElem?_getD, List.getElem?_map, List.getElem?_range h]; rfl
theorem unp_bit (x n : Nat) : Bit01 (unp x n) := by
  intro v hv
  obtain ⟨i, _, rfl⟩ := List.mem_map.1 hv
  split <;> simp
theorem pk_unp {x n : Nat} (hx : x < 2 ^ n) : pk (unp x n) n = x := by
  refine Nat.eq_of_testBit_eq fun b => ?_
  rw [pk_bit]
  by_cases hb : b < n
  · rw [unp_getD x n b hb]
    cases x.testBit b <;> simp [hb]
  · simp [hb]
    exact (Nat.testBit_lt_two_pow (Nat.lt_of_lt_of_le hx (Nat.pow_le_pow_right (n := 2) (by omega) (by omega : n ≤ b))))
end Go.Ev
