/- Parts of the proof: Bits, WA, Fr. -/
import Derived.Test.YticpnfjdooileaaGreatDoorProg
import Derived.WalkKit
import Derived.WalkSpells
import Derived.WalkLawsBesides
import Derived.Laws.BitsAllLaws
import Derived.Lib.TrailingZeros
import Derived.Laws.Bits64b
import Derived.Deep.QuietTactic
import Derived.BigQuiet
import Derived.Lib.Hide
import Derived.Test.YticpnfjdooileaaGreatDoorCards
import Derived.Test.YticpnfjdooileaaGreatDoorTie
import Derived.ProofKit
import Derived.OpenShut
import Derived.Carry
import Derived.Deep.Slices
import Derived.Deep.Matrix
import Derived.Deep.DeepHandedRow
import Derived.Lib.LaidTab
import Derived.Test.YticpnfjdooileaaGreatDoorMCPA0
section
/- Plain mathematics of sets of numbers below 64 as bits of a number: how many there are (by the sums of neighbouring lanes), and the least one. -/
namespace Go.Gr

theorem and_split (k a b : Nat) : a &&& b = (a % 2 ^ k &&& b % 2 ^ k) + 2 ^ k * (a / 2 ^ k &&& b / 2 ^ k) := by
  rw [← Nat.and_mod_two_pow, ← Nat.and_div_two_pow]
  exact (Nat.mod_add_div _ _).symm
theorem and_split8 (a b : Nat) : a &&& b = (a % 256 &&& b % 256) + 256 * (a / 256 &&& b / 256) := and_split 8 a b

def lane1 (b : Nat) : Nat := (b / 2 &&& 85) + (b &&& 85)
def lane2 (b : Nat) : Nat := (b / 4 &&& 51) + (b &&& 51)
def lane3 (b : Nat) : Nat := (b / 16 + b) &&& 15
def pop8 (b : Nat) : Nat := b % 2 + b / 2 % 2 + b / 4 % 2 + b / 8 % 2 + b / 16 % 2 + b / 32 % 2 + b / 64 % 2 + b / 128 % 2
theorem lanes : ∀ b : Fin 256, lane3 (lane2 (lane1 b.val)) = pop8 b.val ∧ lane1 b.val ≤ 170 ∧ lane2 (lane1 b.val) ≤ 68 ∧ lane2 (lane1 b.val) / 16 ≤ 4 ∧ lane2 (lane1 b.val) % 16 ≤ 4 ∧ pop8 b.val ≤ 8 := by decide +kernel
theorem mask1 : ∀ b : Fin 128, ∀ c : Fin 2, (b.val + 128 * c.val) &&& 85 = b.val &&& 85 := by decide +kernel
theorem mask2 : ∀ b : Fin 64, ∀ c : Fin 4, (b.val + 64 * c.val) &&& 51 = b.val &&& 51 := by decide +kernel

def spread (m : Nat) : Nat → Nat
  | 0 => 0
  | k + 1 => m + 256 * spread m k
def lanesum (f : Nat → Nat) : Nat → Nat → Nat
  | 0, _ => 0
  | k + 1, x => f (x % 256) + 256 * lanesum f k (x / 256)
def every (p : Nat → Prop) : Nat → Nat → Prop
  | 0, _ => True
  | k + 1, x => p (x % 256) ∧ every p k (x / 256)

theorem spread_mod (m k : Nat) (h : m < 256) : spread m (k + 1) % 256 = m ∧ spread m (k + 1) / 256 = spread m k := by
  simp only [spread]; omega

theorem step1 : ∀ k x, (x / 2 &&& spread 85 k) + (x &&& spread 85 k) = lanesum lane1 k x
  | 0, x => by simp [spread, lanesum]
  | k + 1, x => by
    obtain ⟨h1, h2⟩ := spread_mod 85 k (by omega)
    rw [and_split8 (x / 2), and_split8 x, h1, h2]
    have e1 : x / 2 / 256 = x / 256 / 2 := by omega
    have e2 : x / 2 % 256 = x % 256 / 2 + 128 * (x / 256 % 2) := by omega
    have := mask1 ⟨x % 256 / 2, by omega⟩ ⟨x / 256 % 2, by omega⟩
    simp only at this
    rw [e1, e2, this]
    have ih := step1 k (x / 256)
    simp only [lanesum, ← ih, lane1]
    omega
theorem step2 : ∀ k x, (x / 4 &&& spread 51 k) + (x &&& spread 51 k) = lanesum lane2 k x
  | 0, x => by simp [spread, lanesum]
  | k + 1, x => by
    obtain ⟨h1, h2⟩ := spread_mod 51 k (by omega)
    rw [and_split8 (x / 4), and_split8 x, h1, h2]
    have e1 : x / 4 / 256 = x / 256 / 4 := by omega
    have e2 : x / 4 % 256 = x % 256 / 4 + 64 * (x / 256 % 4) := by omega
    have := mask2 ⟨x % 256 / 4, by omega⟩ ⟨x / 256 % 4, by omega⟩
    simp only at this
    rw [e1, e2, this]
    have ih := step2 k (x / 256)
    simp only [lanesum, ← ih, lane2]
    omega
def nib (b : Nat) : Prop := b ≤ 68 ∧ b / 16 ≤ 4 ∧ b % 16 ≤ 4
theorem mask3 (a : Nat) : a &&& 15 = a % 16 := Nat.and_two_pow_sub_one_eq_mod a 4
theorem step3 : ∀ k x, every nib k x → x < 256 ^ k → ((x / 16 + x) &&& spread 15 k) = lanesum lane3 k x
  | 0, x, _, hx => by simp [spread, lanesum]
  | k + 1, x, ⟨hn, hr⟩, hx => by
    obtain ⟨h1, h2⟩ := spread_mod 15 k (by omega)
    unfold nib at hn
    have hlt : x / 256 < 256 ^ k := by rw [Nat.pow_succ] at hx; omega
    have hc : x / 256 % 16 ≤ 4 := by
      cases k with
      | zero => simp at hlt; omega
      | succ k => have := hr.1; unfold nib at this; omega
    rw [and_split8, h1, h2]
    have e1 : (x / 16 + x) / 256 = x / 256 / 16 + x / 256 := by omega
    have e2 : (x / 16 + x) % 256 % 16 = (x % 256 / 16 + x % 256) % 16 := by omega
    rw [e1, step3 k (x / 256) hr hlt, mask3, e2, lanesum, lane3, mask3]

theorem lanesum_at (f : Nat → Nat) (k x : Nat) (h : f (x % 256) < 256) : lanesum f (k + 1) x % 256 = f (x % 256) ∧ lanesum f (k + 1) x / 256 = lanesum f k (x / 256) := by
  simp only [lanesum]; omega
theorem lanesum_comp (f g : Nat → Nat) (hg : ∀ b, b < 256 → g b < 256) : ∀ k x, lanesum f k (lanesum g k x) = lanesum (fun b => f (g b)) k x
  | 0, _ => rfl
  | k + 1, x => by
    obtain ⟨h1, h2⟩ := lanesum_at g k x (hg _ (by omega))
    rw [lanesum, h1, h2, lanesum_comp f g hg k]
    rfl
theorem lanesum_congr (f g : Nat → Nat) (h : ∀ b, b < 256 → f b = g b) : ∀ k x, lanesum f k x = lanesum g k x
  | 0, _ => rfl
  | k + 1, x => by simp only [lanesum, h (x % 256) (by omega), lanesum_congr f g h k]
theorem lanesum_lt (f : Nat → Nat) (h : ∀ b, b < 256 → f b < 256) : ∀ k x, lanesum f k x < 256 ^ k
  | 0, _ => by simp [lanesum]
  | k + 1, x => by
    have h1 := h (x % 256) (by omega)
    have h2 := lanesum_lt f h k (x / 256)
    simp only [lanesum, Nat.pow_succ]; omega
theorem every_lanesum (f : Nat → Nat) (p : Nat → Prop) (h : ∀ b, b < 256 → f b < 256 ∧ p (f b)) : ∀ k x, every p k (lanesum f k x)
  | 0, _ => trivial
  | k + 1, x => by
    obtain ⟨h1, h2⟩ := lanesum_at f k x (h _ (by omega)).1
    refine ⟨?_, ?_⟩
    · rw [h1]; exact (h _ (by omega)).2
    · rw [h2]; exact every_lanesum f p h k _

/-- How many of the first k bits are set. -/
def popc : Nat → Nat → Nat
  | 0, _ => 0
  | k + 1, x => x % 2 + popc k (x / 2)
theorem popc_le : ∀ k x, popc k x ≤ k
  | 0, _ => by simp [popc]
  | k + 1, x => by have := popc_le k (x / 2); simp only [popc]; omega
theorem popc_8 (k x : Nat) : popc (k + 8) x = pop8 (x % 256) + popc k (x / 256) := by
  have e : x / 2 / 2 / 2 / 2 / 2 / 2 / 2 / 2 = x / 256 := by omega
  have e7 : x / 2 / 2 / 2 / 2 / 2 / 2 / 2 % 2 = x % 256 / 128 % 2 := by omega
  have e6 : x / 2 / 2 / 2 / 2 / 2 / 2 % 2 = x % 256 / 64 % 2 := by omega
  have e5 : x / 2 / 2 / 2 / 2 / 2 % 2 = x % 256 / 32 % 2 := by omega
  have e4 : x / 2 / 2 / 2 / 2 % 2 = x % 256 / 16 % 2 := by omega
  have e3 : x / 2 / 2 / 2 % 2 = x % 256 / 8 % 2 := by omega
  have e2 : x / 2 / 2 % 2 = x % 256 / 4 % 2 := by omega
  have e1 : x / 2 % 2 = x % 256 / 2 % 2 := by omega
  have e0 : x % 2 = x % 256 % 2 := by omega
  simp only [popc, pop8]
  rw [e, e7, e6, e5, e4, e3, e2, e1, e0]
  simp only [Nat.add_assoc]
/-- The sums of the lanes of eight bits. -/
def swar (x : Nat) : Nat :=
  let a := (x / 2 &&& 6148914691236517205) + (x &&& 6148914691236517205)
  let b := (a / 4 &&& 3689348814741910323) + (a &&& 3689348814741910323)
  (b / 16 + b) &&& 1085102592571150095
theorem swar_lanes (x : Nat) : swar x = lanesum pop8 8 x := by
  have l1 : ∀ b, b < 256 → lane1 b < 256 := fun b hb => by have := (lanes ⟨b, hb⟩).2.1; simp only at this; omega
  have l2 : ∀ b, b < 256 → lane2 (lane1 b) < 256 ∧ nib (lane2 (lane1 b)) := fun b hb => by
    have := lanes ⟨b, hb⟩; simp only at this
    exact ⟨by omega, by unfold nib; omega⟩
  have e1 : (6148914691236517205 : Nat) = spread 85 8 := by decide +kernel
  have e2 : (3689348814741910323 : Nat) = spread 51 8 := by decide +kernel
  have e3 : (1085102592571150095 : Nat) = spread 15 8 := by decide +kernel
  unfold swar
  rw [e1, e2, e3]
  dsimp only
  rw [step1, step2, lanesum_comp lane2 lane1 l1, step3 8 _ (every_lanesum _ _ l2 8 x) (lanesum_lt _ (fun b hb => (l2 b hb).1) 8 x), lanesum_comp lane3 _ (fun b hb => (l2 b hb).1)]
  exact lanesum_congr _ _ (fun b hb => (lanes ⟨b, hb⟩).1) 8 x
theorem swar_bits (x : Nat) : ∃ c0 c1 c2 c3 c4 c5 c6 c7 : Nat, c0 ≤ 8 ∧ c1 ≤ 8 ∧ c2 ≤ 8 ∧ c3 ≤ 8 ∧ c4 ≤ 8 ∧ c5 ≤ 8 ∧ c6 ≤ 8 ∧ c7 ≤ 8 ∧ popc 64 x = c0 + c1 + c2 + c3 + c4 + c5 + c6 + c7 ∧
    swar x = c0 + 256 * c1 + 65536 * c2 + 16777216 * c3 + 4294967296 * c4 + 1099511627776 * c5 + 281474976710656 * c6 + 72057594037927936 * c7 := by
  have h8 : ∀ y : Nat, pop8 (y % 256) ≤ 8 := fun y => (lanes ⟨y % 256, by omega⟩).2.2.2.2.2
  refine ⟨_, _, _, _, _, _, _, _, h8 x, h8 (x / 256), h8 (x / 256 / 256), h8 (x / 256 / 256 / 256), h8 (x / 256 / 256 / 256 / 256), h8 (x / 256 / 256 / 256 / 256 / 256), h8 (x / 256 / 256 / 256 / 256 / 256 / 256), h8 (x / 256 / 256 / 256 / 256 / 256 / 256 / 256), ?_, ?_⟩
  · have h : popc 64 x = pop8 (x % 256) + (pop8 (x / 256 % 256) + (pop8 (x / 256 / 256 % 256) + (pop8 (x / 256 / 256 / 256 % 256) + (pop8 (x / 256 / 256 / 256 / 256 % 256) + (pop8 (x / 256 / 256 / 256 / 256 / 256 % 256) +
        (pop8 (x / 256 / 256 / 256 / 256 / 256 / 256 % 256) + (pop8 (x / 256 / 256 / 256 / 256 / 256 / 256 / 256 % 256) + 0))))))) := by
      exact (popc_8 56 x).trans (congrArg _ ((popc_8 48 _).trans (congrArg _ ((popc_8 40 _).trans (congrArg _ ((popc_8 32 _).trans (congrArg _ ((popc_8 24 _).trans (congrArg _ ((popc_8 16 _).trans (congrArg _ ((popc_8 8 _).trans (congrArg _ (popc_8 0 _))))))))))))))
    rw [h]
    simp only [Nat.add_zero, Nat.add_assoc]
  · rw [swar_lanes]
    simp only [lanesum]
    omega

/-- The set's elements. -/
def verts (s : Nat) : List Nat := (List.range 64).filter s.testBit
def size (s : Nat) : Nat := (verts s).length
theorem testBit_succ' (x i : Nat) : x.testBit (i + 1) = (x / 2).testBit i := by rw [Nat.testBit_succ]
theorem filter_popc : ∀ k x, ((List.range k).filter x.testBit).length = popc k x
  | 0, _ => rfl
  | k + 1, x => by
    rw [List.range_succ_eq_map, List.filter_cons, popc, ← filter_popc k (x / 2)]
    have e : ((List.map Nat.succ (List.range k)).filter x.testBit).length = ((List.range k).filter (x / 2).testBit).length := by
      rw [List.filter_map, List.length_map]
      congr 1
      apply List.filter_congr
      intro i _
      exact testBit_succ' x i
    have h0 : x.testBit 0 = decide (x % 2 = 1) := by rw [Nat.testBit_zero]
    rcases Nat.mod_two_eq_zero_or_one x with h | h
    · simp [h, e, h0]
    · simp [h, e, h0]; omega
theorem size_popc (s : Nat) : size s = popc 64 s := filter_popc 64 s
theorem size_le (s : Nat) : size s ≤ 64 := by rw [size_popc]; exact popc_le _ _

theorem filter_first (p q : Nat → Bool) (c : Nat) : ∀ (n : Nat), c < n → p c = true → (∀ i, i < c → p i = false) → (∀ i, q i = (decide (i ≠ c) && p i)) → (List.range n).filter p = c :: (List.range n).filter q := by
  intro n hc hp hlow hq
  induction n with
  | zero => omega
  | succ n ih =>
    rw [List.range_succ, List.filter_append, List.filter_append]
    by_cases h : c = n
    · subst h
      have e1 : (List.range c).filter p = [] := by
        rw [List.filter_eq_nil_iff]; intro a ha; simp [hlow a (by simpa using ha)]
      have e2 : (List.range c).filter q = [] := by
        rw [List.filter_eq_nil_iff]; intro a ha; simp [hq, hlow a (by simpa using ha)]
      simp [e1, e2, hp, hq]
    · rw [ih (by omega)]
      have : q n = p n := by rw [hq, decide_eq_true (show n ≠ c from fun e => h e.symm), Bool.true_and]
      simp [List.filter_cons, this]

theorem verts_step (x c m : Nat) (hx : x = 2 ^ c * (2 * m + 1)) (hc : c < 64) : verts x = c :: verts (x &&& (x - 1)) ∧ (x &&& (x - 1)) < x := by
  have hp : 0 < 2 ^ c := Nat.two_pow_pos c
  have e1 : x = 2 ^ (c + 1) * m + 2 ^ c := by rw [hx, Nat.pow_succ, Nat.mul_add, Nat.mul_one, Nat.mul_assoc]
  have hlt : 2 ^ c < 2 ^ (c + 1) := by rw [Nat.pow_succ]; omega
  have e2 : x - 1 = 2 ^ (c + 1) * m + (2 ^ c - 1) := by omega
  have hand : x &&& (x - 1) = 2 ^ (c + 1) * m := by
    rw [and_split (c + 1) x (x - 1)]
    have m1 : x % 2 ^ (c + 1) = 2 ^ c := by rw [e1, Nat.mul_add_mod, Nat.mod_eq_of_lt hlt]
    have m2 : (x - 1) % 2 ^ (c + 1) = 2 ^ c - 1 := by rw [e2, Nat.mul_add_mod, Nat.mod_eq_of_lt (by omega)]
    have d1 : x / 2 ^ (c + 1) = m := by rw [e1, Nat.mul_add_div (by omega), Nat.div_eq_of_lt hlt, Nat.add_zero]
    have d2 : (x - 1) / 2 ^ (c + 1) = m := by rw [e2, Nat.mul_add_div (by omega), Nat.div_eq_of_lt (by omega), Nat.add_zero]
    have z : 2 ^ c &&& (2 ^ c - 1) = 0 := by rw [Nat.and_two_pow_sub_one_eq_mod, Nat.mod_self]
    rw [m1, m2, d1, d2, z, Nat.and_self, Nat.zero_add]
  rw [hand]
  refine ⟨?_, by omega⟩
  unfold verts
  have tx : ∀ i, x.testBit i = if i < c + 1 then (2 ^ c).testBit i else m.testBit (i - (c + 1)) := by
    intro i; rw [e1, Nat.testBit_two_pow_mul_add _ hlt]
  have ty : ∀ i, (2 ^ (c + 1) * m).testBit i = if i < c + 1 then false else m.testBit (i - (c + 1)) := by
    intro i
    have := Nat.testBit_two_pow_mul_add (i := c + 1) (b := 0) m (by omega) i
    rw [Nat.add_zero] at this
    rw [this]; simp
  refine filter_first _ _ c 64 hc ?_ ?_ ?_
  · rw [tx]; simp
  · intro i hi; rw [tx, if_pos (by omega)]; simp [Nat.testBit_two_pow]; omega
  · intro i
    rw [ty, tx]
    by_cases h : i < c + 1
    · rw [if_pos h, if_pos h]
      by_cases h2 : i = c
      · simp [h2]
      · simp [Nat.testBit_two_pow, h2]; omega
    · rw [if_neg h, if_neg h]
      have : i ≠ c := by omega
      simp [this]
theorem verts_zero : verts 0 = [] := by decide
end Go.Gr
end
section
/- What the small functions of package graph and of math/bits compute: sets of numbers below 64 as bits. -/
namespace Go.Gr
def bset (s i : Nat) : Nat := s ||| (1 <<< i)
def andn (a b : Nat) : Nat := a &&& (18446744073709551615 - b)
def bclr (s i : Nat) : Nat := andn s (1 <<< i)
def firstN (n : Nat) : Nat := (1 <<< n) - 1
theorem shl_lt (i : Nat) (hi : i < 64) : 1 <<< i < 18446744073709551616 := by
  have h : (2 : Nat) ^ i < 2 ^ 64 := Nat.pow_lt_pow_right (by omega) hi
  rw [Nat.one_shiftLeft]; omega
theorem bset_lt {s i : Nat} (hs : s < 18446744073709551616) (hi : i < 64) : bset s i < 18446744073709551616 :=
  Nat.or_lt_two_pow (n := 64) (by omega) (shl_lt i hi)
theorem and_lt {a : Nat} (b : Nat) (ha : a < 18446744073709551616) : a &&& b < 18446744073709551616 :=
  Nat.lt_of_le_of_lt Nat.and_le_left ha
theorem andn_lt {a : Nat} (b : Nat) (ha : a < 18446744073709551616) : andn a b < 18446744073709551616 := and_lt _ ha
theorem bclr_lt {s : Nat} (i : Nat) (hs : s < 18446744073709551616) : bclr s i < 18446744073709551616 := andn_lt _ hs
theorem or_lt {a b : Nat} (ha : a < 18446744073709551616) (hb : b < 18446744073709551616) : a ||| b < 18446744073709551616 := Nat.or_lt_two_pow (n := 64) (by omega) (by omega)
theorem firstN_lt {n : Nat} (hn : n ≤ 64) : firstN n < 18446744073709551616 := by
  have h : (2 : Nat) ^ n ≤ 2 ^ 64 := Nat.pow_le_pow_right (by omega) hn
  have h0 : 0 < (2 : Nat) ^ n := Nat.two_pow_pos n
  unfold firstN
  rw [Nat.one_shiftLeft]; omega
theorem wrap_pow (i : Nat) (hi : i < 64) : IntKind.u64.wrap ((2 : Int) ^ i) = ((1 <<< i : Nat) : Int) := by
  have h := shl_lt i hi
  have h2 : ((2 : Int) ^ i) = ((1 <<< i : Nat) : Int) := by rw [Nat.one_shiftLeft]; simp
  rw [IntKind.wrap_u64, h2]
  generalize 1 <<< i = q at *
  omega
end Go.Gr
namespace Go.Proofs.Tg
open Go.RowKit Go.Gr
/-- The library's table of the places of single bits. -/
def Tab (w : World) : Prop := 0 < w.heap.size ∧ ∀ j, j < 64 → w.cell? ⟨0, j, none⟩ = some (.int .u8 (Lib.deBruijn64tab.getD j 0))
theorem Tab.below {B : Nat} {w w' : World} (h : Tab w) (hb : Below B w w') (hB : 0 < B) : Tab w' :=
  ⟨Nat.lt_of_lt_of_le h.1 hb.size, fun j hj => (hb.cell (p := ⟨0, j, none⟩) hB).trans (h.2 j hj)⟩
theorem Tab.drewN {w : World} (h : Tab w) (n : Nat) : Tab (w.drewN n) := h
set_option maxHeartbeats 400000
theorem has_key (s i : Nat) (hs : s < 18446744073709551616) : (bits BinOp.and IntKind.u64 ((s : Int) / 2 ^ i) 1 == 1) = s.testBit i := by
  have e : ((s : Int) / 2 ^ i) = ((s / 2 ^ i : Nat) : Int) := by simp
  have hl : s / 2 ^ i < 18446744073709551616 := Nat.lt_of_le_of_lt (Nat.div_le_self _ _) hs
  rw [e, show (1 : Int) = ((1 : Nat) : Int) from rfl, u64_and_nat _ 1 hl (by omega), Nat.and_one_is_mod, Nat.testBit_eq_decide_div_mod_eq]
  rw [Bool.eq_iff_iff]
  simp only [beq_iff_eq, decide_eq_true_eq]
  omega
/-- The steps of OnesCount64. -/
def oc1 (x : Int) : Int := IntKind.u64.wrap (bits BinOp.and IntKind.u64 (x / 2) 6148914691236517205 + bits BinOp.and IntKind.u64 x 6148914691236517205)
def oc2 (x : Int) : Int := IntKind.u64.wrap (bits BinOp.and IntKind.u64 (x / 4) 3689348814741910323 + bits BinOp.and IntKind.u64 x 3689348814741910323)
def oc3 (x : Int) : Int := bits BinOp.and IntKind.u64 (IntKind.u64.wrap (x / 16 + x)) 1085102592571150095
def oc4 (x : Int) : Int := IntKind.u64.wrap (x + x / 256)
def oc5 (x : Int) : Int := IntKind.u64.wrap (x + x / 65536)
def oc6 (x : Int) : Int := IntKind.u64.wrap (x + x / 4294967296)
theorem wrap_nat (n : Nat) (h : n < 18446744073709551616) : IntKind.u64.wrap (n : Int) = (n : Int) := by rw [IntKind.wrap_u64]; omega
theorem oc1_nat (x : Nat) (hx : x < 18446744073709551616) : oc1 (x : Int) = (((x / 2 &&& 6148914691236517205) + (x &&& 6148914691236517205) : Nat) : Int) := by
  unfold oc1
  have h1 : x / 2 &&& 6148914691236517205 ≤ 6148914691236517205 := Nat.and_le_right
  have h2 : x &&& 6148914691236517205 ≤ 6148914691236517205 := Nat.and_le_right
  rw [show (x : Int) / 2 = ((x / 2 : Nat) : Int) by simp, show (6148914691236517205 : Int) = ((6148914691236517205 : Nat) : Int) from rfl, u64_and_nat _ _ (by omega) (by omega), u64_and_nat _ _ hx (by omega), ← Int.natCast_add]
  exact wrap_nat _ (by omega)
theorem oc2_nat (x : Nat) (hx : x < 18446744073709551616) : oc2 (x : Int) = (((x / 4 &&& 3689348814741910323) + (x &&& 3689348814741910323) : Nat) : Int) := by
  unfold oc2
  have h1 : x / 4 &&& 3689348814741910323 ≤ 3689348814741910323 := Nat.and_le_right
  have h2 : x &&& 3689348814741910323 ≤ 3689348814741910323 := Nat.and_le_right
  rw [show (x : Int) / 4 = ((x / 4 : Nat) : Int) by simp, show (3689348814741910323 : Int) = ((3689348814741910323 : Nat) : Int) from rfl, u64_and_nat _ _ (by omega) (by omega), u64_and_nat _ _ hx (by omega), ← Int.natCast_add]
  exact wrap_nat _ (by omega)
theorem oc3_nat (x : Nat) (hx : x ≤ 7378697629483820646) : oc3 (x : Int) = (((x / 16 + x) &&& 1085102592571150095 : Nat) : Int) := by
  unfold oc3
  rw [show (x : Int) / 16 + (x : Int) = ((x / 16 + x : Nat) : Int) by simp, wrap_nat _ (by omega), show (1085102592571150095 : Int) = ((1085102592571150095 : Nat) : Int) from rfl, u64_and_nat _ _ (by omega) (by omega)]
theorem oc_add (f : Int → Int) (m : Nat) (hf : ∀ x, f x = IntKind.u64.wrap (x + x / m)) (low q : Nat) (hl : low < m) (hb : low + m * q + q < 18446744073709551616) : f ((low + m * q : Nat) : Int) = ((low + m * q + q : Nat) : Int) := by
  have hd : (low + m * q) / m = q := by rw [Nat.add_mul_div_left _ _ (by omega), Nat.div_eq_of_lt hl, Nat.zero_add]
  rw [hf, ← Int.natCast_ediv, hd, ← Int.natCast_add]
  exact wrap_nat _ hb
theorem oc_all (s : Nat) (hs : s < 18446744073709551616) : bits BinOp.and IntKind.i64 (wrap64 (oc6 (oc5 (oc4 (oc3 (oc2 (oc1 s))))))) 127 = ((size s : Nat) : Int) := by
  have h1 : s / 2 &&& 6148914691236517205 ≤ 6148914691236517205 := Nat.and_le_right
  have h2 : s &&& 6148914691236517205 ≤ 6148914691236517205 := Nat.and_le_right
  rw [oc1_nat s hs]
  generalize ha : (s / 2 &&& 6148914691236517205) + (s &&& 6148914691236517205) = a
  have ha' : a < 18446744073709551616 := by omega
  have h3 : a / 4 &&& 3689348814741910323 ≤ 3689348814741910323 := Nat.and_le_right
  have h4 : a &&& 3689348814741910323 ≤ 3689348814741910323 := Nat.and_le_right
  rw [oc2_nat a ha', oc3_nat _ (by omega)]
  obtain ⟨c0, c1, c2, c3, c4, c5, c6, c7, b0, b1, b2, b3, b4, b5, b6, b7, hp, hw⟩ := swar_bits s
  have hsw : swar s = (((a / 4 &&& 3689348814741910323) + (a &&& 3689348814741910323)) / 16 + ((a / 4 &&& 3689348814741910323) + (a &&& 3689348814741910323))) &&& 1085102592571150095 := by
    unfold swar; dsimp only; rw [ha]
  rw [← hsw, hw, size_popc, hp]
  clear hsw hw hp h1 h2 h3 h4 ha ha'
  have e4 := oc_add oc4 256 (fun _ => rfl) (c0) (c1 + 256 * c2 + 65536 * c3 + 16777216 * c4 + 4294967296 * c5 + 1099511627776 * c6 + 281474976710656 * c7) (by omega) (by omega)
  have e5 := oc_add oc5 65536 (fun _ => rfl) ((c0 + c1) + 256 * (c1 + c2)) ((c2 + c3) + 256 * (c3 + c4) + 65536 * (c4 + c5) + 16777216 * (c5 + c6) + 4294967296 * (c6 + c7) + 1099511627776 * c7) (by omega) (by omega)
  have e6 := oc_add oc6 4294967296 (fun _ => rfl) ((c0 + c1 + c2 + c3) + 256 * (c1 + c2 + c3 + c4) + 65536 * (c2 + c3 + c4 + c5) + 16777216 * (c3 + c4 + c5 + c6)) ((c4 + c5 + c6 + c7) + 256 * (c5 + c6 + c7) + 65536 * (c6 + c7) + 16777216 * c7) (by omega) (by omega)
  rw [show c0 + 256 * c1 + 65536 * c2 + 16777216 * c3 + 4294967296 * c4 + 1099511627776 * c5 + 281474976710656 * c6 + 72057594037927936 * c7 = c0 + 256 * (c1 + 256 * c2 + 65536 * c3 + 16777216 * c4 + 4294967296 * c5 + 1099511627776 * c6 + 281474976710656 * c7) by omega, e4,
    show c0 + 256 * (c1 + 256 * c2 + 65536 * c3 + 16777216 * c4 + 4294967296 * c5 + 1099511627776 * c6 + 281474976710656 * c7) + (c1 + 256 * c2 + 65536 * c3 + 16777216 * c4 + 4294967296 * c5 + 1099511627776 * c6 + 281474976710656 * c7) =
      ((c0 + c1) + 256 * (c1 + c2)) + 65536 * ((c2 + c3) + 256 * (c3 + c4) + 65536 * (c4 + c5) + 16777216 * (c5 + c6) + 4294967296 * (c6 + c7) + 1099511627776 * c7) by omega, e5,
    show ((c0 + c1) + 256 * (c1 + c2)) + 65536 * ((c2 + c3) + 256 * (c3 + c4) + 65536 * (c4 + c5) + 16777216 * (c5 + c6) + 4294967296 * (c6 + c7) + 1099511627776 * c7) + ((c2 + c3) + 256 * (c3 + c4) + 65536 * (c4 + c5) + 16777216 * (c5 + c6) + 4294967296 * (c6 + c7) + 1099511627776 * c7) =
      ((c0 + c1 + c2 + c3) + 256 * (c1 + c2 + c3 + c4) + 65536 * (c2 + c3 + c4 + c5) + 16777216 * (c3 + c4 + c5 + c6)) + 4294967296 * ((c4 + c5 + c6 + c7) + 256 * (c5 + c6 + c7) + 65536 * (c6 + c7) + 16777216 * c7) by omega, e6]
  clear e4 e5 e6
  have hr : ((c0 + c1 + c2 + c3) + 256 * (c1 + c2 + c3 + c4) + 65536 * (c2 + c3 + c4 + c5) + 16777216 * (c3 + c4 + c5 + c6)) + 4294967296 * ((c4 + c5 + c6 + c7) + 256 * (c5 + c6 + c7) + 65536 * (c6 + c7) + 16777216 * c7) + ((c4 + c5 + c6 + c7) + 256 * (c5 + c6 + c7) + 65536 * (c6 + c7) + 16777216 * c7) < 9223372036854775808 := by omega
  have hm : (((c0 + c1 + c2 + c3) + 256 * (c1 + c2 + c3 + c4) + 65536 * (c2 + c3 + c4 + c5) + 16777216 * (c3 + c4 + c5 + c6)) + 4294967296 * ((c4 + c5 + c6 + c7) + 256 * (c5 + c6 + c7) + 65536 * (c6 + c7) + 16777216 * c7) + ((c4 + c5 + c6 + c7) + 256 * (c5 + c6 + c7) + 65536 * (c6 + c7) + 16777216 * c7)) % 128 = c0 + c1 + c2 + c3 + c4 + c5 + c6 + c7 := by
    rw [show ((c0 + c1 + c2 + c3) + 256 * (c1 + c2 + c3 + c4) + 65536 * (c2 + c3 + c4 + c5) + 16777216 * (c3 + c4 + c5 + c6)) + 4294967296 * ((c4 + c5 + c6 + c7) + 256 * (c5 + c6 + c7) + 65536 * (c6 + c7) + 16777216 * c7) + ((c4 + c5 + c6 + c7) + 256 * (c5 + c6 + c7) + 65536 * (c6 + c7) + 16777216 * c7) = (c0 + c1 + c2 + c3 + c4 + c5 + c6 + c7) + 128 * (2 * (c1 + c2 + c3 + c4) + 512 * (c2 + c3 + c4 + c5) + 131072 * (c3 + c4 + c5 + c6) + 33554432 * ((c4 + c5 + c6 + c7) + 256 * (c5 + c6 + c7) + 65536 * (c6 + c7) + 16777216 * c7) + 2 * (c5 + c6 + c7) + 512 * (c6 + c7) + 131072 * c7) by omega, Nat.add_mul_mod_self_left]
    exact Nat.mod_eq_of_lt (by omega)
  generalize ((c0 + c1 + c2 + c3) + 256 * (c1 + c2 + c3 + c4) + 65536 * (c2 + c3 + c4 + c5) + 16777216 * (c3 + c4 + c5 + c6)) + 4294967296 * ((c4 + c5 + c6 + c7) + 256 * (c5 + c6 + c7) + 65536 * (c6 + c7) + 16777216 * c7) + ((c4 + c5 + c6 + c7) + 256 * (c5 + c6 + c7) + 65536 * (c6 + c7) + 16777216 * c7) = r at hr hm ⊢
  have hsum : c0 + c1 + c2 + c3 + c4 + c5 + c6 + c7 ≤ 64 := by omega
  generalize c0 + c1 + c2 + c3 + c4 + c5 + c6 + c7 = t at hm hsum ⊢
  clear b0 b1 b2 b3 b4 b5 b6 b7
  have w1 : wrap64 (r : Int) = (r : Int) := by unfold wrap64; omega
  rw [w1, show (127 : Int) = ((127 : Nat) : Int) from rfl]
  have hx : (BitVec.ofInt 64 (r : Int)).toNat = r := by rw [BitVec.ofInt_natCast, BitVec.toNat_ofNat]; exact Nat.mod_eq_of_lt (by omega)
  show IntKind.i64.wrap ((BitVec.ofInt 64 (r : Int) &&& BitVec.ofInt 64 ((127 : Nat) : Int)).toNat : Int) = _
  have h127 : (BitVec.ofInt 64 ((127 : Nat) : Int)).toNat = 127 := by decide
  rw [BitVec.toNat_and, hx, h127, Nat.and_two_pow_sub_one_eq_mod r 7, IntKind.wrap_i64]
  omega
theorem ones_any (s : Nat) (w : World) (hs : s < 18446744073709551616) :
    Calls Tryz.prog 58 #[.int .u64 s] w fun e w' => e = .returned (.int .i64 (size s : Nat)) ∧ w = w' := by
  go_enter Tryz.func58, Tryz.ntmps58
  go_wp2
  go_ret
  refine ⟨?_, rfl⟩
  show Ending.returned (.int .i64 (bits BinOp.and IntKind.i64 (wrap64 (oc6 (oc5 (oc4 (oc3 (oc2 (oc1 s))))))) 127)) = _
  rw [oc_all s hs]
theorem tz_core (x k idx : Nat) (w : World) (hx0 : ((x : Int) == 0) = false)
    (key : IntKind.u64.wrap (bits BinOp.and IntKind.u64 (x : Int) (IntKind.u64.wrap (-(x : Int))) * 285870213051353865) / 288230376151711744 = (idx : Int))
    (hi : idx < 64) (hk : k < 64) (hcell : w.cell? ⟨0, idx, none⟩ = some (.int .u8 k)) :
    Calls Tryz.prog 120 #[.int .u64 x] w fun e w' => e = .returned (.int .i64 k) ∧ w = w' := by
  go_enter Tryz.func120, Tryz.ntmps120
  go_wp2_with (simp only [key])
  go_ret
  exact ⟨rfl, rfl⟩
theorem tz_key (x a : Nat) (hx : x < 18446744073709551616) (hx0 : x ≠ 0) (hlow : x &&& (18446744073709551616 - x) = a) :
    IntKind.u64.wrap (bits BinOp.and IntKind.u64 (x : Int) (IntKind.u64.wrap (-(x : Int))) * 285870213051353865) / 288230376151711744 = ((a * 285870213051353865 % 18446744073709551616 / 288230376151711744 : Nat) : Int) := by
  have e1 : IntKind.u64.wrap (-(x : Int)) = ((18446744073709551616 - x : Nat) : Int) := by rw [IntKind.wrap_u64]; omega
  rw [e1, u64_and_nat x _ hx (by omega), hlow, IntKind.wrap_u64]
  omega
/-- The least element of a set, if there is one. -/
theorem tz_any (x : Nat) (w : World) (hx : x < 18446744073709551616) (hx0 : x ≠ 0) (hT : Tab w) :
    Calls Tryz.prog 120 #[.int .u64 x] w fun e w' => e = .returned (.int .i64 (Lib.ctz 64 x : Nat)) ∧ w = w' := by
  obtain ⟨hlow, hk⟩ := Lib.lowest_bit 64 x hx0 hx
  obtain ⟨hi, htab⟩ := Lib.deBruijn64_at _ hk
  have hcell := hT.2 _ hi
  rw [htab] at hcell
  exact tz_core x _ _ w (by simp; omega) (tz_key x _ hx hx0 hlow) hi hk hcell
theorem verts_cons (x : Nat) (hx : x < 18446744073709551616) (hx0 : x ≠ 0) : verts x = Lib.ctz 64 x :: verts (x &&& (x - 1)) ∧ (x &&& (x - 1)) < x := by
  obtain ⟨m, hm, hk⟩ := Lib.ctzFrom_spec 64 x (by omega) (by omega)
  have : Lib.ctz 64 x = Lib.ctzFrom 64 x := by unfold Lib.ctz; rw [if_neg hx0]
  rw [this]
  exact verts_step x _ m hm hk
end Go.Proofs.Tg
end
section
/- The frame of this seat's statements: what the reading of an argument says of memory, the listed table, the row's last step, the world of the witness. -/
namespace Go.Proofs.YticpnfjdooileaaGreatDoor.Fr
open Go.ChangeShapes Go.WideShapes Go.ChangeAt Go.RowKit Go.Deep Go.Proofs.Tg Go.Gr
set_option maxRecDepth 100000
section
variable {H : Type} {enc : TypeId × Value → H} {W W' : World}
theorem trodAll_below (hl : laidOutB Tryz.prog = true) (hb : Below W.heap.size W W') : ∀ (ts : List TypeId) (vs : List Value) (ds : List (DataW H)) (ps : List MemPlace),
    (∀ t ∈ ts, Tryz.prog.readableRec t = true ∧ t < Tryz.prog.types.size) → DataW.TrodAll enc Tryz.prog W 0 (fun _ => true) true ts vs ds ps → (∀ x ∈ ps, x.block < W.heap.size) →
    DataW.TrodAll enc Tryz.prog W' 0 (fun b => decide (b < W.heap.size)) true ts vs ds ps
  | [], [], [], ps, _, h, _ => h
  | t :: ts, v :: vs, d :: ds, ps, ht, ⟨p, q, h1, h2, e⟩, hp => by
    subst e
    exact ⟨p, q, Below.trod hl (ht t (by simp)).1 (ht t (by simp)).2 h1 hb (fun x hx => hp x (by simp [hx])), trodAll_below hl hb ts vs ds q (fun t h => ht t (by simp [h])) h2 (fun x hx => hp x (by simp [hx])), rfl⟩
theorem band {a b : Bool} (h : a = true) (k : b = true) : (a && b) = true := by rw [h, k]; rfl
theorem laidOut : laidOutB Tryz.prog = true := by kernel_rfl
/-- A law that returned true and made new memory alone meets its row. -/
theorem post_law {f : Func} {s : ChangeSpec} {args : Array Value} {ds gs : List (DataW H)} {before : List MemPlace}
    (hW : DataW.Whole enc Tryz.prog f.params.toList s.vars false W args.toList ds gs before) (hv : s.vars = []) (hf : f.resultTypes = #[4])
    (hr : (s.fn H (ds ++ gs)).results = [.lit (.bool true)]) (ha : (s.fn H (ds ++ gs)).args = ds) (hg : (s.fn H (ds ++ gs)).vars = [])
    (hp : ∀ t ∈ f.params.toList, Tryz.prog.readableRec t = true ∧ t < Tryz.prog.types.size) (hb : Below W.heap.size W W') :
    s.post enc Tryz.prog f false true false false W args (.bool true) W' := by
  have hlt := hW.lt
  have hW2 := hW
  obtain ⟨p, q, hA, hV, hps, hz, hn⟩ := hW2
  rw [hv] at hV
  obtain ⟨rfl, rfl⟩ := trodVars_none hV
  rw [List.append_nil] at hps
  subst hps
  refine ⟨ds, [], before, [], before, [], hW, ?_, ?_, ?_, World.keptBut_mono (fun x hx => ⟨hx, .inr (.inl hx)⟩) (hb.frame (· ∈ before)), fun h => by cases h⟩
  · rw [hr, hf]
    exact trodAll_cons_mk (shut_bool Tryz.underlying4 _) trodAll_mk0
  · rw [ha]
    exact trodAll_below laidOut hb _ _ _ _ hp hA hlt
  · rw [hv, hg]; rfl
theorem gTab : Tryz.prog.globalNamed "math/bits.deBruijn64tab" = some 0 := by kernel_rfl
theorem gTabType : (Tryz.prog.globals[0]?).map (·.type) = some 180 := by kernel_rfl
theorem cellsTab : Tryz.prog.cellsOf 180 = 64 := by kernel_rfl
theorem cellsU8 : Tryz.prog.cellsOf 5 = 1 := by kernel_rfl
theorem cellsRow : Tryz.prog.cellsOf 33 = 1 := by kernel_rfl
theorem cellsInt : Tryz.prog.cellsOf 3 = 1 := by kernel_rfl
def tabZ : List Int := Lib.deBruijn64tab.map fun x : Nat => (x : Int)
theorem tabZ_len : tabZ.length = 64 := by decide +kernel
theorem tab_data : (Rows.laid_math_bits_deBruijn64tab : DataW Unit) = Lib.tabData .u8 tabZ := by kernel_rfl
/-- What the row's list gives: the table's cells. -/
theorem tab_of (h : laidMetH Tryz.prog [("math/bits.deBruijn64tab", Rows.laid_math_bits_deBruijn64tab)] W) : Tab W := by
  rw [tab_data] at h
  have h1 : Lib.TabIs Tryz.prog W "math/bits.deBruijn64tab" .u8 tabZ := Lib.tabIs_of_head (rest := []) gTab gTabType Tryz.underlying180 Tryz.underlying5 cellsU8 cellsTab h
  have hc : ∀ j, j < 64 → W.cell? ⟨0, j, none⟩ = some (.int .u8 (Lib.deBruijn64tab.getD j 0)) := by
    intro j hj
    rw [h1.cell gTab j (by rw [tabZ_len]; exact hj)]
    congr 2
    unfold tabZ
    simp only [List.getD_eq_getElem?_getD, List.getElem?_map]
    cases Lib.deBruijn64tab[j]? <;> simp
  exact ⟨World.block_lt_of_cell? W ⟨0, 0, none⟩ (hc 0 (by omega)), hc⟩
/-- A slice of numbers, opened. -/
theorem open_nums {v : Value} {d : DataW H} {ps : List MemPlace} {b0 : Nat} (hval : Value.okWide Tryz.prog W .any b0 33 v) (h : DataW.Trod enc Tryz.prog W 0 (fun _ => true) true 33 v d ps) :
    ∃ A xs c, v = .slice A xs.length c ∧ Ints W A xs := by
  obtain ⟨V, len, cap, rfl⟩ := okWide_slice Tryz.underlying33 hval
  obtain ⟨fuel, h⟩ := h
  have hcs : (Value.slice V len cap).cells.toList = [.slice V len cap] := by simp [Value.cells]
  rw [hcs] at h
  rcases open_ints Tryz.underlying33 Tryz.underlying3 cellsInt h with ⟨h1, _⟩ | ⟨a, l, c, zs, h1, _, hl, hm, hz, _, hx, _⟩
  · injection h1 with h1
    injection h1 with e1 e2 e3
    subst e1 e2 e3
    exact ⟨none, [], 0, rfl, Sl.nil _ _ _⟩
  · injection h1 with h1
    injection h1 with e1 e2 e3
    subst e1 e2 e3
    simp only [if_true] at hz
    have hlen : (zs.take len).length = len := by rw [List.length_take]; omega
    refine ⟨some a, zs.take len, cap, by rw [hlen], by simp, fun hn => ⟨a, rfl, ?_, ?_⟩⟩
    · rw [hlen] at hn
      exact World.block_lt_of_cell? W _ (hx 0 (by omega))
    · intro j u hu
      have hj : j < len := by
        have := (List.getElem?_eq_some_iff.1 hu).1
        rw [List.length_map, hlen] at this
        exact this
      have e : u = .int .i64 (zs.getD j 0) := by
        rw [List.getElem?_map, List.getElem?_take, if_pos hj] at hu
        simp only [List.getElem?_eq_getElem (show j < zs.length by omega), Option.map_some] at hu
        injection hu with hu
        rw [← hu]
        simp [vi, show j < zs.length by omega]
      rw [e]
      exact hx j (by omega)
/-- A slice of slices of numbers, opened. -/
theorem open_lists {v : Value} {d : DataW H} {ps : List MemPlace} {b0 : Nat} (hval : Value.okWide Tryz.prog W .any b0 25 v) (h : DataW.Trod enc Tryz.prog W 0 (fun _ => true) true 25 v d ps) :
    ∃ V ls c, v = .slice V ls.length c ∧ Lists W V ls ∧ ls.length ≤ maxLen ∧ ∀ l ∈ ls, l.length ≤ maxLen := by
  obtain ⟨V, len, cap, rfl⟩ := okWide_slice Tryz.underlying25 hval
  obtain ⟨fuel, h⟩ := h
  have hcs : (Value.slice V len cap).cells.toList = [.slice V len cap] := by simp [Value.cells]
  rw [hcs] at h
  rcases open_int_rows Tryz.underlying25 Tryz.underlying33 Tryz.underlying3 cellsRow cellsInt h with ⟨h1, _⟩ | ⟨a, l, c, A, L, C, Z, h1, _, hl, hml, _, hx⟩
  · injection h1 with h1
    injection h1 with e1 e2 e3
    subst e1 e2 e3
    exact ⟨none, [], 0, rfl, ⟨fun _ => (none, 0), Sl.nil _ _ _, fun i hi => by simp at hi⟩, by simp, by simp⟩
  · injection h1 with h1
    injection h1 with e1 e2 e3
    subst e1 e2 e3
    have hz : ∀ i, i < len → ((Z i).take (L i)).length = L i := by
      intro i hi
      obtain ⟨_, h2, _, h4, _⟩ := hx i (by omega)
      rw [List.length_take]; omega
    have hg : ∀ i, i < len → ((List.range len).map fun i => (Z i).take (L i)).getD i [] = (Z i).take (L i) := by
      intro i hi; simp [hi]
    refine ⟨some a, (List.range len).map fun i => (Z i).take (L i), cap, by simp, ⟨fun i => (A i, C i), ?_, ?_⟩, by simp; omega, ?_⟩
    · refine ⟨by simp, fun hn => ⟨a, rfl, ?_, ?_⟩⟩
      · have hn' : 0 < len := by simpa using hn
        have := (hx 0 (by omega)).1
        exact World.block_lt_of_cell? W _ this
      · intro j u hu
        have hj : j < len := by
          have := (List.getElem?_eq_some_iff.1 hu).1
          simpa using this
        have e : u = .slice (A j) (L j) (C j) := by
          rw [List.getElem?_map, List.getElem?_range (by simpa using hj)] at hu
          simp only [Option.map_some] at hu
          injection hu with hu
          rw [← hu, hg j hj, hz j hj]
        rw [e]
        exact (hx j (by omega)).1
    · intro i hi
      have hi' : i < len := by simpa using hi
      rw [hg i hi']
      obtain ⟨h1, h2, h3, h4, h5, h6, h7⟩ := hx i (by omega)
      refine ⟨by simp, fun hn => ?_⟩
      rw [hz i hi'] at hn
      have hA : ∃ a', A i = some a' := by
        cases hA : A i with
        | none => have := h6 hA; omega
        | some a' => exact ⟨a', rfl⟩
      obtain ⟨a', hA⟩ := hA
      obtain ⟨_, hc⟩ := h7 a' hA
      refine ⟨a', hA, World.block_lt_of_cell? W _ (hc 0 (by omega)), ?_⟩
      intro j u hu
      have hj : j < L i := by
        have := (List.getElem?_eq_some_iff.1 hu).1
        rw [List.length_map, hz i hi'] at this
        exact this
      have e : u = .int .i64 ((Z i).getD j 0) := by
        rw [List.getElem?_map, List.getElem?_take, if_pos hj] at hu
        simp only [List.getElem?_eq_getElem (show j < (Z i).length by omega), Option.map_some] at hu
        injection hu with hu
        rw [← hu]
        simp [vi, show j < (Z i).length by omega]
      rw [e]
      exact hc j (by omega)
    · intro l hl2
      obtain ⟨i, hi, rfl⟩ := List.mem_map.1 hl2
      have hi' : i < len := by simpa using hi
      obtain ⟨h1, h2, h3, _⟩ := hx i (by omega)
      rw [hz i hi']; omega
end
/-- The world of the witness: the settled one, the table holding what its initialiser lays. -/
noncomputable def laidWorld (os : Os) : World :=
  { World.holding Tryz.prog os ⟨#[], #[], []⟩ with heap := (World.holding Tryz.prog os ⟨#[], #[], []⟩).heap.modify 0 fun
      | .cells _ t frozen => .cells (tabZ.map fun z => Value.int .u8 z).toArray t frozen
      | o => o }
theorem own : ownKnob Tryz.prog.godebug = none := by kernel_rfl
end Go.Proofs.YticpnfjdooileaaGreatDoor.Fr
end
