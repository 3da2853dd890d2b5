/- Parts of the proof: BNS. -/
import Derived.Test.YtodjofbneeejpaaGreatDoorMBD25
section
/- Plain: digits shifted to the right in place. -/
namespace Go.Bn
/-- The digits of a number shifted to the right by k bits, k < 32. -/
def shrD (k : Nat) : List Nat → List Nat
  | [] => []
  | [x] => [x / 2 ^ k]
  | x :: y :: l => (x / 2 ^ k + y * 2 ^ (32 - k) % B) :: shrD k (y :: l)
theorem shrD_len (k : Nat) : ∀ l : List Nat, (shrD k l).length = l.length
  | [] => rfl
  | [_] => rfl
  | x :: y :: l => by
    show (shrD k (y :: l)).length + 1 = _
    rw [shrD_len k (y :: l)]; rfl
theorem pow_split {k : Nat} (hk : k < 32) : B = 2 ^ k * 2 ^ (32 - k) := by
 rw [← Nat.pow_add, show k + (32 - k) = 32 by omega]
theorem shr_low {k y : Nat} (hk : k < 32) : y * 2 ^ (32 - k) % B = y % 2 ^ k * 2 ^ (32 - k) := by
 rw [pow_split hk, Nat.mul_mod_mul_right]
theorem shr_dgt {k x y : Nat} (hk : k < 32) (hx : x < B) : x / 2 ^ k + y * 2 ^ (32 - k) % B < B ∧ x / 2 ^ k < 2 ^ (32 - k) := by
 have h1 : x / 2 ^ k < 2 ^ (32 - k) := by
  rw [Nat.div_lt_iff_lt_mul (Nat.two_pow_pos k), Nat.mul_comm, ← pow_split hk]; exact hx
 refine ⟨?_, h1⟩
 rw [shr_low hk]
 have h2 : y % 2 ^ k + 1 ≤ 2 ^ k := Nat.mod_lt _ (Nat.two_pow_pos k)
 have h3 := Nat.mul_le_mul_right (2 ^ (32 - k)) h2
 rw [← pow_split hk, Nat.add_mul, Nat.one_mul] at h3
 omega
theorem shrD_dig {k : Nat} (hk : k < 32) : ∀ {l : List Nat}, Dig l → Dig (shrD k l)
  | [], _, x, hx => absurd hx (by simp [shrD])
  | [a], h, x, hx => by
    rw [List.mem_singleton.1 hx]
    exact Nat.lt_of_le_of_lt (Nat.div_le_self _ _) (h a (by simp))
  | a :: b :: l, h, x, hx => by
    rcases List.mem_cons.1 hx with rfl | hx
    ·exact (shr_dgt hk (h a (by simp))).1
    ·exact shrD_dig hk (fun z hz => h z (by simp [List.mem_cons.1 hz])) x hx
theorem shr_div {k b V : Nat} (hk : k < 32) : (b + B * V) / 2 ^ k = b / 2 ^ k + 2 ^ (32 - k) * V := by
 rw [pow_split hk, Nat.mul_assoc, Nat.add_mul_div_left _ _ (Nat.two_pow_pos k)]
theorem shrD_val {k : Nat} (hk : k < 32) : ∀ l : List Nat, val (shrD k l) = val l / 2 ^ k
  | [] => by simp [shrD, val]
  | [x] => by simp [shrD, val]
  | x :: y :: l => by
    have ih := shrD_val hk (y :: l)
    show (x / 2 ^ k + y * 2 ^ (32 - k) % B) + B * val (shrD k (y :: l)) = (x + B * val (y :: l)) / 2 ^ k
    rw [ih, shr_div hk, shr_low hk]
    have hv : val (y :: l) = y + B * val l := rfl
    have h1 := Nat.div_add_mod (val (y :: l)) (2 ^ k)
    have h2 : val (y :: l) % 2 ^ k = y % 2 ^ k := by
     rw [hv, pow_split hk, Nat.mul_assoc, Nat.add_mul_mod_self_left]
    rw [h2] at h1
    generalize val (y :: l) = V at *
    generalize V / 2 ^ k = q at *
    generalize y % 2 ^ k = r at *
    have h3 : 2 ^ (32 - k) * V = B * q + r * 2 ^ (32 - k) := by
     rw [← h1, Nat.mul_add, pow_split hk, ← Nat.mul_assoc, Nat.mul_comm (2 ^ (32 - k)) (2 ^ k), Nat.mul_comm r]
    omega
theorem shrD_at {k : Nat} : ∀ {l : List Nat} {i : Nat} {x : Nat}, l[i]? = some x → (shrD k l)[i]? = some (match l[i + 1]? with | some y => x / 2 ^ k + y * 2 ^ (32 - k) % B | none => x / 2 ^ k)
  | [], i, x, h => absurd h (by simp)
  | [a], 0, x, h => by
    have : a = x := by simpa using h
    subst this; rfl
  | [a], i + 1, x, h => absurd h (by simp)
  | a :: b :: l, 0, x, h => by
    have : a = x := by simpa using h
    subst this; rfl
  | a :: b :: l, i + 1, x, h => by
    have h2 : (b :: l)[i]? = some x := by simpa using h
    have := shrD_at (k := k) h2
    show (shrD k (b :: l))[i]? = _
    rw [this]
    simp
/-- In place: the first i digits are new. -/
def shrT (k : Nat) (l : List Nat) (i : Nat) : List Nat := (shrD k l).take i ++ l.drop i
theorem shrT_zero (k : Nat) (l : List Nat) : shrT k l 0 = l := by simp [shrT]
theorem shrT_all (k : Nat) (l : List Nat) : shrT k l l.length = shrD k l := by
 unfold shrT
 rw [List.drop_length, List.append_nil, List.take_of_length_le (by rw [shrD_len]; exact Nat.le_refl _)]
theorem shrT_len {k i : Nat} {l : List Nat} (hi : i ≤ l.length) : (shrT k l i).length = l.length := by
 unfold shrT
 rw [List.length_append, List.length_take, List.length_drop, shrD_len]; omega
theorem shrT_get {k i j : Nat} {l : List Nat} (hi : i ≤ j) (hj : j < l.length) : (shrT k l i)[j]? = some l[j] := by
 unfold shrT
 rw [List.getElem?_append_right (by rw [List.length_take, shrD_len]; omega), List.length_take, shrD_len, Nat.min_eq_left (by omega), List.getElem?_drop, show i + (j - i) = j by omega, List.getElem?_eq_getElem hj]
theorem shrT_set {k i x : Nat} {l : List Nat} (hi : i < l.length) (hx : (shrD k l)[i]? = some x) : (shrT k l i).set i x = shrT k l (i + 1) := by
 unfold shrT
 obtain ⟨h1, h2⟩ := List.getElem?_eq_some_iff.1 hx
 rw [List.set_append_right _ _ (by rw [List.length_take]; omega), List.length_take, Nat.min_eq_left (by omega), Nat.sub_self, List.drop_eq_getElem_cons hi, List.set_cons_zero, List.take_succ_eq_append_getElem h1, h2, List.append_assoc]; rfl
/-- The or of the parts of a digit. -/
theorem shr_or {k x y : Nat} (hk : k < 32) (hx : x < B) : (x / 2 ^ k) ||| (y * 2 ^ (32 - k) % B) = x / 2 ^ k + y * 2 ^ (32 - k) % B := by
 rw [shr_low hk]
 have h := (shr_dgt (y := y) hk hx).2
 rw [Nat.or_comm, Nat.add_comm, ← Nat.shiftLeft_eq, ← Nat.shiftLeft_add_eq_or_of_lt h]
end Go.Bn
end
