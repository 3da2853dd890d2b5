/- Plain mathematics of sets of numbers below 64 as bits of a number: how many there are (by the sums of neighbouring lanes), and the least one. -/
namespace Go.Gr

theorem and_split (k a b : Nat) : a &&& b = (a % 2 ^ k &&& b % 2 ^ k) + 2 ^ k * (a / 2 ^ k &&& b / 2 ^ k) := by
  rw [← Nat.and_mod_two_pow, ← Nat.and_div_two_pow]
  exact (Nat.mod_add_div _ _).symm
theorem and_split8 (a b : Nat) : a &&& b = (a % 256 &&& b % 256) + 256 * (a / 256 &&& b / 256) := and_split 8 a b

def lane1 (b : Nat) : Nat := (b / 2 &&& 85) + (b &&& 85)
def lane2 (b : Nat) : Nat := (b / 4 &&& 51) + (b &&& 51)
def lane3 (b : Nat) : Nat := (b / 16 + b) &&& 15
def pop8 (b : Nat) : Nat := b % 2 + b / 2 % 2 + b / 4 % 2 + b / 8 % 2 + b / 16 % 2 + b / 32 % 2 + b / 64 % 2 + b / 128 % 2
theorem lanes : ∀ b : Fin 256, lane3 (lane2 (lane1 b.val)) = pop8 b.val ∧ lane1 b.val ≤ 170 ∧ lane2 (lane1 b.val) ≤ 68 ∧ lane2 (lane1 b.val) / 16 ≤ 4 ∧ lane2 (lane1 b.val) % 16 ≤ 4 ∧ pop8 b.val ≤ 8 := by decide +kernel
theorem mask1 : ∀ b : Fin 128, ∀ c : Fin 2, (b.val + 128 * c.val) &&& 85 = b.val &&& 85 := by decide +kernel
theorem mask2 : ∀ b : Fin 64, ∀ c : Fin 4, (b.val + 64 * c.val) &&& 51 = b.val &&& 51 := by decide +kernel

def spread (m : Nat) : Nat → Nat
  | 0 => 0
  | k + 1 => m + 256 * spread m k
def lanesum (f : Nat → Nat) : Nat → Nat → Nat
  | 0, _ => 0
  | k + 1, x => f (x % 256) + 256 * lanesum f k (x / 256)
def every (p : Nat → Prop) : Nat → Nat → Prop
  | 0, _ => True
  | k + 1, x => p (x % 256) ∧ every p k (x / 256)

theorem spread_mod (m k : Nat) (h : m < 256) : spread m (k + 1) % 256 = m ∧ spread m (k + 1) / 256 = spread m k := by
  simp only [spread]; omega

theorem step1 : ∀ k x, (x / 2 &&& spread 85 k) + (x &&& spread 85 k) = lanesum lane1 k x
  | 0, x => by simp [spread, lanesum]
  | k + 1, x => by
    obtain ⟨h1, h2⟩ := spread_mod 85 k (by omega)
    rw [and_split8 (x / 2), and_split8 x, h1, h2]
    have e1 : x / 2 / 256 = x / 256 / 2 := by omega
    have e2 : x / 2 % 256 = x % 256 / 2 + 128 * (x / 256 % 2) := by omega
    have := mask1 ⟨x % 256 / 2, by omega⟩ ⟨x / 256 % 2, by omega⟩
    simp only at this
    rw [e1, e2, this]
    have ih := step1 k (x / 256)
    simp only [lanesum, ← ih, lane1]
    omega
theorem step2 : ∀ k x, (x / 4 &&& spread 51 k) + (x &&& spread 51 k) = lanesum lane2 k x
  | 0, x => by simp [spread, lanesum]
  | k + 1, x => by
    obtain ⟨h1, h2⟩ := spread_mod 51 k (by omega)
    rw [and_split8 (x / 4), and_split8 x, h1, h2]
    have e1 : x / 4 / 256 = x / 256 / 4 := by omega
    have e2 : x / 4 % 256 = x % 256 / 4 + 64 * (x / 256 % 4) := by omega
    have := mask2 ⟨x % 256 / 4, by omega⟩ ⟨x / 256 % 4, by omega⟩
    simp only at this
    rw [e1, e2, this]
    have ih := step2 k (x / 256)
    simp only [lanesum, ← ih, lane2]
    omega
def nib (b : Nat) : Prop := b ≤ 68 ∧ b / 16 ≤ 4 ∧ b % 16 ≤ 4
theorem mask3 (a : Nat) : a &&& 15 = a % 16 := Nat.and_two_pow_sub_one_eq_mod a 4
theorem step3 : ∀ k x, every nib k x → x < 256 ^ k → ((x / 16 + x) &&& spread 15 k) = lanesum lane3 k x
  | 0, x, _, hx => by simp [spread, lanesum]
  | k + 1, x, ⟨hn, hr⟩, hx => by
    obtain ⟨h1, h2⟩ := spread_mod 15 k (by omega)
    unfold nib at hn
    have hlt : x / 256 < 256 ^ k := by rw [Nat.pow_succ] at hx; omega
    have hc : x / 256 % 16 ≤ 4 := by
      cases k with
      | zero => simp at hlt; omega
      | succ k => have := hr.1; unfold nib at this; omega
    rw [and_split8, h1, h2]
    have e1 : (x / 16 + x) / 256 = x / 256 / 16 + x / 256 := by omega
    have e2 : (x / 16 + x) % 256 % 16 = (x % 256 / 16 + x % 256) % 16 := by omega
    rw [e1, step3 k (x / 256) hr hlt, mask3, e2, lanesum, lane3, mask3]

theorem lanesum_at (f : Nat → Nat) (k x : Nat) (h : f (x % 256) < 256) : lanesum f (k + 1) x % 256 = f (x % 256) ∧ lanesum f (k + 1) x / 256 = lanesum f k (x / 256) := by
  simp only [lanesum]; omega
theorem lanesum_comp (f g : Nat → Nat) (hg : ∀ b, b < 256 → g b < 256) : ∀ k x, lanesum f k (lanesum g k x) = lanesum (fun b => f (g b)) k x
  | 0, _ => rfl
  | k + 1, x => by
    obtain ⟨h1, h2⟩ := lanesum_at g k x (hg _ (by omega))
    rw [lanesum, h1, h2, lanesum_comp f g hg k]
    rfl
theorem lanesum_congr (f g : Nat → Nat) (h : ∀ b, b < 256 → f b = g b) : ∀ k x, lanesum f k x = lanesum g k x
  | 0, _ => rfl
  | k + 1, x => by simp only [lanesum, h (x % 256) (by omega), lanesum_congr f g h k]
theorem lanesum_lt (f : Nat → Nat) (h : ∀ b, b < 256 → f b < 256) : ∀ k x, lanesum f k x < 256 ^ k
  | 0, _ => by simp [lanesum]
  | k + 1, x => by
    have h1 := h (x % 256) (by omega)
    have h2 := lanesum_lt f h k (x / 256)
    simp only [lanesum, Nat.pow_succ]; omega
theorem every_lanesum (f : Nat → Nat) (p : Nat → Prop) (h : ∀ b, b < 256 → f b < 256 ∧ p (f b)) : ∀ k x, every p k (lanesum f k x)
  | 0, _ => trivial
  | k + 1, x => by
    obtain ⟨h1, h2⟩ := lanesum_at f k x (h _ (by omega)).1
    refine ⟨?_, ?_⟩
    · rw [h1]; exact (h _ (by omega)).2
    · rw [h2]; exact every_lanesum f p h k _

/-- How many of the first k bits are set. -/
def popc : Nat → Nat → Nat
  | 0, _ => 0
  | k + 1, x => x % 2 + popc k (x / 2)
theorem popc_le : ∀ k x, popc k x ≤ k
  | 0, _ => by simp [popc]
  | k + 1, x => by have := popc_le k (x / 2); simp only [popc]; omega
theorem popc_8 (k x : Nat) : popc (k + 8) x = pop8 (x % 256) + popc k (x / 256) := by
  have e : x / 2 / 2 / 2 / 2 / 2 / 2 / 2 / 2 = x / 256 := by omega
  have e7 : x / 2 / 2 / 2 / 2 / 2 / 2 / 2 % 2 = x % 256 / 128 % 2 := by omega
  have e6 : x / 2 / 2 / 2 / 2 / 2 / 2 % 2 = x % 256 / 64 % 2 := by omega
  have e5 : x / 2 / 2 / 2 / 2 / 2 % 2 = x % 256 / 32 % 2 := by omega
  have e4 : x / 2 / 2 / 2 / 2 % 2 = x % 256 / 16 % 2 := by omega
  have e3 : x / 2 / 2 / 2 % 2 = x % 256 / 8 % 2 := by omega
  have e2 : x / 2 / 2 % 2 = x % 256 / 4 % 2 := by omega
  have e1 : x / 2 % 2 = x % 256 / 2 % 2 := by omega
  have e0 : x % 2 = x % 256 % 2 := by omega
  simp only [popc, pop8]
  rw [e, e7, e6, e5, e4, e3, e2, e1, e0]
  simp only [Nat.add_assoc]
/-- The sums of the lanes of eight bits. -/
def swar (x : Nat) : Nat :=
  let a := (x / 2 &&& 6148914691236517205) + (x &&& 6148914691236517205)
  let b := (a / 4 &&& 3689348814741910323) + (a &&& 3689348814741910323)
  (b / 16 + b) &&& 1085102592571150095
theorem swar_lanes (x : Nat) : swar x = lanesum pop8 8 x := by
  have l1 : ∀ b, b < 256 → lane1 b < 256 := fun b hb => by have := (lanes ⟨b, hb⟩).2.1; simp only at this; omega
  have l2 : ∀ b, b < 256 → lane2 (lane1 b) < 256 ∧ nib (lane2 (lane1 b)) := fun b hb => by
    have := lanes ⟨b, hb⟩; simp only at this
    exact ⟨by omega, by unfold nib; omega⟩
  have e1 : (6148914691236517205 : Nat) = spread 85 8 := by decide +kernel
  have e2 : (3689348814741910323 : Nat) = spread 51 8 := by decide +kernel
  have e3 : (1085102592571150095 : Nat) = spread 15 8 := by decide +kernel
  unfold swar
  rw [e1, e2, e3]
  dsimp only
  rw [step1, step2, lanesum_comp lane2 lane1 l1, step3 8 _ (every_lanesum _ _ l2 8 x) (lanesum_lt _ (fun b hb => (l2 b hb).1) 8 x), lanesum_comp lane3 _ (fun b hb => (l2 b hb).1)]
  exact lanesum_congr _ _ (fun b hb => (lanes ⟨b, hb⟩).1) 8 x
theorem swar_bits (x : Nat) : ∃ c0 c1 c2 c3 c4 c5 c6 c7 : Nat, c0 ≤ 8 ∧ c1 ≤ 8 ∧ c2 ≤ 8 ∧ c3 ≤ 8 ∧ c4 ≤ 8 ∧ c5 ≤ 8 ∧ c6 ≤ 8 ∧ c7 ≤ 8 ∧ popc 64 x = c0 + c1 + c2 + c3 + c4 + c5 + c6 + c7 ∧
    swar x = c0 + 256 * c1 + 65536 * c2 + 16777216 * c3 + 4294967296 * c4 + 1099511627776 * c5 + 281474976710656 * c6 + 72057594037927936 * c7 := by
  have h8 : ∀ y : Nat, pop8 (y % 256) ≤ 8 := fun y => (lanes ⟨y % 256, by omega⟩).2.2.2.2.2
  refine ⟨_, _, _, _, _, _, _, _, h8 x, h8 (x / 256), h8 (x / 256 / 256), h8 (x / 256 / 256 / 256), h8 (x / 256 / 256 / 256 / 256), h8 (x / 256 / 256 / 256 / 256 / 256), h8 (x / 256 / 256 / 256 / 256 / 256 / 256), h8 (x / 256 / 256 / 256 / 256 / 256 / 256 / 256), ?_, ?_⟩
  · have h : popc 64 x = pop8 (x % 256) + (pop8 (x / 256 % 256) + (pop8 (x / 256 / 256 % 256) + (pop8 (x / 256 / 256 / 256 % 256) + (pop8 (x / 256 / 256 / 256 / 256 % 256) + (pop8 (x / 256 / 256 / 256 / 256 / 256 % 256) +
        (pop8 (x / 256 / 256 / 256 / 256 / 256 / 256 % 256) + (pop8 (x / 256 / 256 / 256 / 256 / 256 / 256 / 256 % 256) + 0))))))) := by
      exact (popc_8 56 x).trans (congrArg _ ((popc_8 48 _).trans (congrArg _ ((popc_8 40 _).trans (congrArg _ ((popc_8 32 _).trans (congrArg _ ((popc_8 24 _).trans (congrArg _ ((popc_8 16 _).trans (congrArg _ ((popc_8 8 _).trans (congrArg _ (popc_8 0 _))))))))))))))
    rw [h]
    simp only [Nat.add_zero, Nat.add_assoc]
  · rw [swar_lanes]
    simp only [lanesum]
    omega

/-- The set's elements. -/
def verts (s : Nat) : List Nat := (List.range 64).filter s.testBit
def size (s : Nat) : Nat := (verts s).length
theorem testBit_succ' (x i : Nat) : x.testBit (i + 1) = (x / 2).testBit i := by rw [Nat.testBit_succ]
theorem filter_popc : ∀ k x, ((List.range k).filter x.testBit).length = popc k x
  | 0, _ => rfl
  | k + 1, x => by
    rw [List.range_succ_eq_map, List.filter_cons, popc, ← filter_popc k (x / 2)]
    have e : ((List.map Nat.succ (List.range k)).filter x.testBit).length = ((List.range k).filter (x / 2).testBit).length := by
      rw [List.filter_map, List.length_map]
      congr 1
      apply List.filter_congr
      intro i _
      exact testBit_succ' x i
    have h0 : x.testBit 0 = decide (x % 2 = 1) := by rw [Nat.testBit_zero]
    rcases Nat.mod_two_eq_zero_or_one x with h | h
    · simp [h, e, h0]
    · simp [h, e, h0]; omega
theorem size_popc (s : Nat) : size s = popc 64 s := filter_popc 64 s
theorem size_le (s : Nat) : size s ≤ 64 := by rw [size_popc]; exact popc_le _ _

theorem filter_first (p q : Nat → Bool) (c : Nat) : ∀ (n : Nat), c < n → p c = true → (∀ i, i < c → p i = false) → (∀ i, q i = (decide (i ≠ c) && p i)) → (List.range n).filter p = c :: (List.range n).filter q := by
  intro n hc hp hlow hq
  induction n with
  | zero => omega
  | succ n ih =>
    rw [List.range_succ, List.filter_append, List.filter_append]
    by_cases h : c = n
    · subst h
      have e1 : (List.range c).filter p = [] := by
        rw [List.filter_eq_nil_iff]; intro a ha; simp [hlow a (by simpa using ha)]
      have e2 : (List.range c).filter q = [] := by
        rw [List.filter_eq_nil_iff]; intro a ha; simp [hq, hlow a (by simpa using ha)]
      simp [e1, e2, hp, hq]
    · rw [ih (by omega)]
      have : q n = p n := by rw [hq, decide_eq_true (show n ≠ c from fun e => h e.symm), Bool.true_and]
      simp [List.filter_cons, this]

theorem verts_step (x c m : Nat) (hx : x = 2 ^ c * (2 * m + 1)) (hc : c < 64) : verts x = c :: verts (x &&& (x - 1)) ∧ (x &&& (x - 1)) < x := by
  have hp : 0 < 2 ^ c := Nat.two_pow_pos c
  have e1 : x = 2 ^ (c + 1) * m + 2 ^ c := by rw [hx, Nat.pow_succ, Nat.mul_add, Nat.mul_one, Nat.mul_assoc]
  have hlt : 2 ^ c < 2 ^ (c + 1) := by rw [Nat.pow_succ]; omega
  have e2 : x - 1 = 2 ^ (c + 1) * m + (2 ^ c - 1) := by omega
  have hand : x &&& (x - 1) = 2 ^ (c + 1) * m := by
    rw [and_split (c + 1) x (x - 1)]
    have m1 : x % 2 ^ (c + 1) = 2 ^ c := by rw [e1, Nat.mul_add_mod, Nat.mod_eq_of_lt hlt]
    have m2 : (x - 1) % 2 ^ (c + 1) = 2 ^ c - 1 := by rw [e2, Nat.mul_add_mod, Nat.mod_eq_of_lt (by omega)]
    have d1 : x / 2 ^ (c + 1) = m := by rw [e1, Nat.mul_add_div (by omega), Nat.div_eq_of_lt hlt, Nat.add_zero]
    have d2 : (x - 1) / 2 ^ (c + 1) = m := by rw [e2, Nat.mul_add_div (by omega), Nat.div_eq_of_lt (by omega), Nat.add_zero]
    have z : 2 ^ c &&& (2 ^ c - 1) = 0 := by rw [Nat.and_two_pow_sub_one_eq_mod, Nat.mod_self]
    rw [m1, m2, d1, d2, z, Nat.and_self, Nat.zero_add]
  rw [hand]
  refine ⟨?_, by omega⟩
  unfold verts
  have tx : ∀ i, x.testBit i = if i < c + 1 then (2 ^ c).testBit i else m.testBit (i - (c + 1)) := by
    intro i; rw [e1, Nat.testBit_two_pow_mul_add _ hlt]
  have ty : ∀ i, (2 ^ (c + 1) * m).testBit i = if i < c + 1 then false else m.testBit (i - (c + 1)) := by
    intro i
    have := Nat.testBit_two_pow_mul_add (i := c + 1) (b := 0) m (by omega) i
    rw [Nat.add_zero] at this
    rw [this]; simp
  refine filter_first _ _ c 64 hc ?_ ?_ ?_
  · rw [tx]; simp
  · intro i hi; rw [tx, if_pos (by omega)]; simp [Nat.testBit_two_pow]; omega
  · intro i
    rw [ty, tx]
    by_cases h : i < c + 1
    · rw [if_pos h, if_pos h]
      by_cases h2 : i = c
      · simp [h2]
      · simp [Nat.testBit_two_pow, h2]; omega
    · rw [if_neg h, if_neg h]
      have : i ≠ c := by omega
      simp [this]
theorem verts_zero : verts 0 = [] := by decide
end Go.Gr
