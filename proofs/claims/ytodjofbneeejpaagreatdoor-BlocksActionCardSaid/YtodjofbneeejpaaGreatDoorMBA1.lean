/- Parts of the proof: WA, E1, E2, WB1, N1, M1. -/
import Derived.Test.YtodjofbneeejpaaGreatDoorProg
import Derived.WalkKit
import Derived.WalkSpells
import Derived.WalkLawsBesides
import Derived.Laws.BitsAllLaws
import Derived.Lib.TrailingZeros
import Derived.Laws.Bits64b
import Derived.Deep.QuietTactic
import Derived.BigQuiet
import Derived.Lib.Hide
import Derived.Laws.ShiftsVarLaws
import Derived.Lib.ItoaNum
import Derived.Test.YtodjofbneeejpaaGreatDoorMBA0
section
/- What the small functions of package graph and of math/bits compute: sets of numbers below 64 as bits. -/
namespace Go.Gr
def bset (s i : Nat) : Nat := s ||| (1 <<< i)
def andn (a b : Nat) : Nat := a &&& (18446744073709551615 - b)
def bclr (s i : Nat) : Nat := andn s (1 <<< i)
def firstN (n : Nat) : Nat := (1 <<< n) - 1
theorem shl_lt (i : Nat) (hi : i < 64) : 1 <<< i < 18446744073709551616 := by
  have h : (2 : Nat) ^ i < 2 ^ 64 := Nat.pow_lt_pow_right (by omega) hi
  rw [Nat.one_shiftLeft]; omega
theorem bset_lt {s i : Nat} (hs : s < 18446744073709551616) (hi : i < 64) : bset s i < 18446744073709551616 :=
  Nat.or_lt_two_pow (n := 64) (by omega) (shl_lt i hi)
theorem and_lt {a : Nat} (b : Nat) (ha : a < 18446744073709551616) : a &&& b < 18446744073709551616 :=
  Nat.lt_of_le_of_lt Nat.and_le_left ha
theorem andn_lt {a : Nat} (b : Nat) (ha : a < 18446744073709551616) : andn a b < 18446744073709551616 := and_lt _ ha
theorem bclr_lt {s : Nat} (i : Nat) (hs : s < 18446744073709551616) : bclr s i < 18446744073709551616 := andn_lt _ hs
theorem or_lt {a b : Nat} (ha : a < 18446744073709551616) (hb : b < 18446744073709551616) : a ||| b < 18446744073709551616 := Nat.or_lt_two_pow (n := 64) (by omega) (by omega)
end Go.Gr
namespace Go.Proofs.Tg
open Go.RowKit Go.Gr
/-- The library's table of the places of single bits. -/
def Tab (w : World) : Prop := 0 < w.heap.size ∧ ∀ j, j < 64 → w.cell? ⟨0, j, none⟩ = some (.int .u8 (Lib.deBruijn64tab.getD j 0))
theorem Tab.below {B : Nat} {w w' : World} (h : Tab w) (hb : Below B w w') (hB : 0 < B) : Tab w' :=
  ⟨Nat.lt_of_lt_of_le h.1 hb.size, fun j hj => (hb.cell (p := ⟨0, j, none⟩) hB).trans (h.2 j hj)⟩
theorem Tab.drewN {w : World} (h : Tab w) (n : Nat) : Tab (w.drewN n) := h
set_option maxHeartbeats 400000
/-- The steps of OnesCount64. -/
def oc1 (x : Int) : Int := IntKind.u64.wrap (bits BinOp.and IntKind.u64 (x / 2) 6148914691236517205 + bits BinOp.and IntKind.u64 x 6148914691236517205)
def oc2 (x : Int) : Int := IntKind.u64.wrap (bits BinOp.and IntKind.u64 (x / 4) 3689348814741910323 + bits BinOp.and IntKind.u64 x 3689348814741910323)
def oc3 (x : Int) : Int := bits BinOp.and IntKind.u64 (IntKind.u64.wrap (x / 16 + x)) 1085102592571150095
def oc4 (x : Int) : Int := IntKind.u64.wrap (x + x / 256)
def oc5 (x : Int) : Int := IntKind.u64.wrap (x + x / 65536)
def oc6 (x : Int) : Int := IntKind.u64.wrap (x + x / 4294967296)
theorem wrap_nat (n : Nat) (h : n < 18446744073709551616) : IntKind.u64.wrap (n : Int) = (n : Int) := by rw [IntKind.wrap_u64]; omega
theorem oc1_nat (x : Nat) (hx : x < 18446744073709551616) : oc1 (x : Int) = (((x / 2 &&& 6148914691236517205) + (x &&& 6148914691236517205) : Nat) : Int) := by
  unfold oc1
  have h1 : x / 2 &&& 6148914691236517205 ≤ 6148914691236517205 := Nat.and_le_right
  have h2 : x &&& 6148914691236517205 ≤ 6148914691236517205 := Nat.and_le_right
  rw [show (x : Int) / 2 = ((x / 2 : Nat) : Int) by simp, show (6148914691236517205 : Int) = ((6148914691236517205 : Nat) : Int) from rfl, u64_and_nat _ _ (by omega) (by omega), u64_and_nat _ _ hx (by omega), ← Int.natCast_add]
  exact wrap_nat _ (by omega)
theorem oc2_nat (x : Nat) (hx : x < 18446744073709551616) : oc2 (x : Int) = (((x / 4 &&& 3689348814741910323) + (x &&& 3689348814741910323) : Nat) : Int) := by
  unfold oc2
  have h1 : x / 4 &&& 3689348814741910323 ≤ 3689348814741910323 := Nat.and_le_right
  have h2 : x &&& 3689348814741910323 ≤ 3689348814741910323 := Nat.and_le_right
  rw [show (x : Int) / 4 = ((x / 4 : Nat) : Int) by simp, show (3689348814741910323 : Int) = ((3689348814741910323 : Nat) : Int) from rfl, u64_and_nat _ _ (by omega) (by omega), u64_and_nat _ _ hx (by omega), ← Int.natCast_add]
  exact wrap_nat _ (by omega)
theorem oc3_nat (x : Nat) (hx : x ≤ 7378697629483820646) : oc3 (x : Int) = (((x / 16 + x) &&& 1085102592571150095 : Nat) : Int) := by
  unfold oc3
  rw [show (x : Int) / 16 + (x : Int) = ((x / 16 + x : Nat) : Int) by simp, wrap_nat _ (by omega), show (1085102592571150095 : Int) = ((1085102592571150095 : Nat) : Int) from rfl, u64_and_nat _ _ (by omega) (by omega)]
theorem oc_add (f : Int → Int) (m : Nat) (hf : ∀ x, f x = IntKind.u64.wrap (x + x / m)) (low q : Nat) (hl : low < m) (hb : low + m * q + q < 18446744073709551616) : f ((low + m * q : Nat) : Int) = ((low + m * q + q : Nat) : Int) := by
  have hd : (low + m * q) / m = q := by rw [Nat.add_mul_div_left _ _ (by omega), Nat.div_eq_of_lt hl, Nat.zero_add]
  rw [hf, ← Int.natCast_ediv, hd, ← Int.natCast_add]
  exact wrap_nat _ hb
theorem oc_all (s : Nat) (hs : s < 18446744073709551616) : bits BinOp.and IntKind.i64 (wrap64 (oc6 (oc5 (oc4 (oc3 (oc2 (oc1 s))))))) 127 = ((size s : Nat) : Int) := by
  have h1 : s / 2 &&& 6148914691236517205 ≤ 6148914691236517205 := Nat.and_le_right
  have h2 : s &&& 6148914691236517205 ≤ 6148914691236517205 := Nat.and_le_right
  rw [oc1_nat s hs]
  generalize ha : (s / 2 &&& 6148914691236517205) + (s &&& 6148914691236517205) = a
  have ha' : a < 18446744073709551616 := by omega
  have h3 : a / 4 &&& 3689348814741910323 ≤ 3689348814741910323 := Nat.and_le_right
  have h4 : a &&& 3689348814741910323 ≤ 3689348814741910323 := Nat.and_le_right
  rw [oc2_nat a ha', oc3_nat _ (by omega)]
  obtain ⟨c0, c1, c2, c3, c4, c5, c6, c7, b0, b1, b2, b3, b4, b5, b6, b7, hp, hw⟩ := swar_bits s
  have hsw : swar s = (((a / 4 &&& 3689348814741910323) + (a &&& 3689348814741910323)) / 16 + ((a / 4 &&& 3689348814741910323) + (a &&& 3689348814741910323))) &&& 1085102592571150095 := by
    unfold swar; dsimp only; rw [ha]
  rw [← hsw, hw, size_popc, hp]
  clear hsw hw hp h1 h2 h3 h4 ha ha'
  have e4 := oc_add oc4 256 (fun _ => rfl) (c0) (c1 + 256 * c2 + 65536 * c3 + 16777216 * c4 + 4294967296 * c5 + 1099511627776 * c6 + 281474976710656 * c7) (by omega) (by omega)
  have e5 := oc_add oc5 65536 (fun _ => rfl) ((c0 + c1) + 256 * (c1 + c2)) ((c2 + c3) + 256 * (c3 + c4) + 65536 * (c4 + c5) + 16777216 * (c5 + c6) + 4294967296 * (c6 + c7) + 1099511627776 * c7) (by omega) (by omega)
  have e6 := oc_add oc6 4294967296 (fun _ => rfl) ((c0 + c1 + c2 + c3) + 256 * (c1 + c2 + c3 + c4) + 65536 * (c2 + c3 + c4 + c5) + 16777216 * (c3 + c4 + c5 + c6)) ((c4 + c5 + c6 + c7) + 256 * (c5 + c6 + c7) + 65536 * (c6 + c7) + 16777216 * c7) (by omega) (by omega)
  rw [show c0 + 256 * c1 + 65536 * c2 + 16777216 * c3 + 4294967296 * c4 + 1099511627776 * c5 + 281474976710656 * c6 + 72057594037927936 * c7 = c0 + 256 * (c1 + 256 * c2 + 65536 * c3 + 16777216 * c4 + 4294967296 * c5 + 1099511627776 * c6 + 281474976710656 * c7) by omega, e4,
    show c0 + 256 * (c1 + 256 * c2 + 65536 * c3 + 16777216 * c4 + 4294967296 * c5 + 1099511627776 * c6 + 281474976710656 * c7) + (c1 + 256 * c2 + 65536 * c3 + 16777216 * c4 + 4294967296 * c5 + 1099511627776 * c6 + 281474976710656 * c7) =
      ((c0 + c1) + 256 * (c1 + c2)) + 65536 * ((c2 + c3) + 256 * (c3 + c4) + 65536 * (c4 + c5) + 16777216 * (c5 + c6) + 4294967296 * (c6 + c7) + 1099511627776 * c7) by omega, e5,
    show ((c0 + c1) + 256 * (c1 + c2)) + 65536 * ((c2 + c3) + 256 * (c3 + c4) + 65536 * (c4 + c5) + 16777216 * (c5 + c6) + 4294967296 * (c6 + c7) + 1099511627776 * c7) + ((c2 + c3) + 256 * (c3 + c4) + 65536 * (c4 + c5) + 16777216 * (c5 + c6) + 4294967296 * (c6 + c7) + 1099511627776 * c7) =
      ((c0 + c1 + c2 + c3) + 256 * (c1 + c2 + c3 + c4) + 65536 * (c2 + c3 + c4 + c5) + 16777216 * (c3 + c4 + c5 + c6)) + 4294967296 * ((c4 + c5 + c6 + c7) + 256 * (c5 + c6 + c7) + 65536 * (c6 + c7) + 16777216 * c7) by omega, e6]
  clear e4 e5 e6
  have hr : ((c0 + c1 + c2 + c3) + 256 * (c1 + c2 + c3 + c4) + 65536 * (c2 + c3 + c4 + c5) + 16777216 * (c3 + c4 + c5 + c6)) + 4294967296 * ((c4 + c5 + c6 + c7) + 256 * (c5 + c6 + c7) + 65536 * (c6 + c7) + 16777216 * c7) + ((c4 + c5 + c6 + c7) + 256 * (c5 + c6 + c7) + 65536 * (c6 + c7) + 16777216 * c7) < 9223372036854775808 := by omega
  have hm : (((c0 + c1 + c2 + c3) + 256 * (c1 + c2 + c3 + c4) + 65536 * (c2 + c3 + c4 + c5) + 16777216 * (c3 + c4 + c5 + c6)) + 4294967296 * ((c4 + c5 + c6 + c7) + 256 * (c5 + c6 + c7) + 65536 * (c6 + c7) + 16777216 * c7) + ((c4 + c5 + c6 + c7) + 256 * (c5 + c6 + c7) + 65536 * (c6 + c7) + 16777216 * c7)) % 128 = c0 + c1 + c2 + c3 + c4 + c5 + c6 + c7 := by
    rw [show ((c0 + c1 + c2 + c3) + 256 * (c1 + c2 + c3 + c4) + 65536 * (c2 + c3 + c4 + c5) + 16777216 * (c3 + c4 + c5 + c6)) + 4294967296 * ((c4 + c5 + c6 + c7) + 256 * (c5 + c6 + c7) + 65536 * (c6 + c7) + 16777216 * c7) + ((c4 + c5 + c6 + c7) + 256 * (c5 + c6 + c7) + 65536 * (c6 + c7) + 16777216 * c7) = (c0 + c1 + c2 + c3 + c4 + c5 + c6 + c7) + 128 * (2 * (c1 + c2 + c3 + c4) + 512 * (c2 + c3 + c4 + c5) + 131072 * (c3 + c4 + c5 + c6) + 33554432 * ((c4 + c5 + c6 + c7) + 256 * (c5 + c6 + c7) + 65536 * (c6 + c7) + 16777216 * c7) + 2 * (c5 + c6 + c7) + 512 * (c6 + c7) + 131072 * c7) by omega, Nat.add_mul_mod_self_left]
    exact Nat.mod_eq_of_lt (by omega)
  generalize ((c0 + c1 + c2 + c3) + 256 * (c1 + c2 + c3 + c4) + 65536 * (c2 + c3 + c4 + c5) + 16777216 * (c3 + c4 + c5 + c6)) + 4294967296 * ((c4 + c5 + c6 + c7) + 256 * (c5 + c6 + c7) + 65536 * (c6 + c7) + 16777216 * c7) + ((c4 + c5 + c6 + c7) + 256 * (c5 + c6 + c7) + 65536 * (c6 + c7) + 16777216 * c7) = r at hr hm ⊢
  have hsum : c0 + c1 + c2 + c3 + c4 + c5 + c6 + c7 ≤ 64 := by omega
  generalize c0 + c1 + c2 + c3 + c4 + c5 + c6 + c7 = t at hm hsum ⊢
  clear b0 b1 b2 b3 b4 b5 b6 b7
  have w1 : wrap64 (r : Int) = (r : Int) := by unfold wrap64; omega
  rw [w1, show (127 : Int) = ((127 : Nat) : Int) from rfl]
  have hx : (BitVec.ofInt 64 (r : Int)).toNat = r := by rw [BitVec.ofInt_natCast, BitVec.toNat_ofNat]; exact Nat.mod_eq_of_lt (by omega)
  show IntKind.i64.wrap ((BitVec.ofInt 64 (r : Int) &&& BitVec.ofInt 64 ((127 : Nat) : Int)).toNat : Int) = _
  have h127 : (BitVec.ofInt 64 ((127 : Nat) : Int)).toNat = 127 := by decide
  rw [BitVec.toNat_and, hx, h127, Nat.and_two_pow_sub_one_eq_mod r 7, IntKind.wrap_i64]
  omega
theorem ones_any (s : Nat) (w : World) (hs : s < 18446744073709551616) :
    Calls Tryz.prog 84 #[.int .u64 s] w fun e w' => e = .returned (.int .i64 (size s : Nat)) ∧ w = w' := by
  go_enter Tryz.func84, Tryz.ntmps84
  go_wp2
  go_ret
  refine ⟨?_, rfl⟩
  show Ending.returned (.int .i64 (bits BinOp.and IntKind.i64 (wrap64 (oc6 (oc5 (oc4 (oc3 (oc2 (oc1 s))))))) 127)) = _
  rw [oc_all s hs]
end Go.Proofs.Tg
end
section
/- Vectors of bits: the reduced row echelon form of a space is the list of its reduced vectors. Plain numbers. -/
namespace Go.Ev
/-- Sums of elements of a list. -/
inductive Span (vs : List Nat) : Nat → Prop
  | zero : Span vs 0
  | add {x v : Nat} : Span vs x → v ∈ vs → Span vs (x ^^^ v)
theorem Span.mem {vs : List Nat} {v : Nat} (h : v ∈ vs) : Span vs v := by
  have := Span.add (Span.zero (vs := vs)) h
  rwa [Nat.zero_xor] at this
theorem Span.xor {vs : List Nat} {x y : Nat} (hx : Span vs x) (hy : Span vs y) : Span vs (x ^^^ y) := by
  induction hy with
  | zero => rwa [Nat.xor_zero]
  | add _ hv ih => rw [← Nat.xor_assoc]; exact ih.add hv
theorem Span.sub {vs us : List Nat} (h : ∀ v ∈ vs, Span us v) {x : Nat} (hx : Span vs x) : Span us x := by
  induction hx with
  | zero => exact .zero
  | add _ hv ih => exact ih.xor (h _ hv)
structure Space (V : Nat → Prop) (n : Nat) : Prop where
  lt : ∀ x, V x → x < 2 ^ n
  xor : ∀ x y, V x → V y → V (x ^^^ y)
/-- The state of the elimination before column i: r rows are done, row j has its first bit at p j. -/
structure EInv (V : Nat → Prop) (i : Nat) (vs : List Nat) (r : Nat) (p : Nat → Nat) : Prop where
  hr : r ≤ vs.length
  hV : ∀ v ∈ vs, V v
  span : ∀ x, V x → Span vs x
  lt : ∀ j, j < r → p j < i
  mono : ∀ j k, j < k → k < r → p j < p k
  bit : ∀ j k, j < r → k < vs.length → (vs.getD k 0).testBit (p j) = decide (k = j)
  low : ∀ j, j < r → ∀ b, b < p j → (vs.getD j 0).testBit b = false
  zero : ∀ k, r ≤ k → k < vs.length → ∀ b, b < i → (vs.getD k 0).testBit b = false
theorem EInv.start {V : Nat → Prop} {vs : List Nat} (hV : ∀ v ∈ vs, V v) (hs : ∀ x, V x → Span vs x) : EInv V 0 vs 0 (fun _ => 0) :=
  ⟨Nat.zero_le _, hV, hs, fun j h => absurd h (by omega), fun j k _ h => absurd h (by omega), fun j k h => absurd h (by omega), fun j h => absurd h (by omega), fun k _ _ b h => absurd h (by omega)⟩
theorem EInv.skip {V : Nat → Prop} {i r : Nat} {vs : List Nat} {p : Nat → Nat} (h : EInv V i vs r p) (hz : ∀ k, r ≤ k → k < vs.length → (vs.getD k 0).testBit i = false) : EInv V (i + 1) vs r p := by
  refine ⟨h.hr, h.hV, h.span, fun j hj => by have := h.lt j hj; omega, h.mono, h.bit, h.low, fun k hk hl b hb => ?_⟩
  by_cases e : b = i
  · subst e; exact hz k hk hl
  · exact h.zero k hk hl b (by omega)
theorem mem_getD {vs : List Nat} {v : Nat} : v ∈ vs ↔ ∃ k, k < vs.length ∧ vs.getD k 0 = v := by
  rw [List.mem_iff_getElem]
  constructor
  · rintro ⟨k, hk, e⟩
    exact ⟨k, hk, by rw [List.getD_eq_getElem?_getD, List.getElem?_eq_getElem hk, Option.getD_some]; exact e⟩
  · rintro ⟨k, hk, e⟩
    exact ⟨k, hk, by rw [List.getD_eq_getElem?_getD, List.getElem?_eq_getElem hk, Option.getD_some] at e; exact e⟩
/-- The rows before k but r have lost the bit i. -/
def elim (vs : List Nat) (i r k : Nat) : List Nat := (List.range vs.length).map fun j => if j < k ∧ j ≠ r ∧ (vs.getD j 0).testBit i = true then vs.getD j 0 ^^^ vs.getD r 0 else vs.getD j 0
theorem elim_len (vs : List Nat) (i r k : Nat) : (elim vs i r k).length = vs.length := by simp [elim]
theorem elim_get (vs : List Nat) (i r k j : Nat) (hj : j < vs.length) : (elim vs i r k).getD j 0 = if j < k ∧ j ≠ r ∧ (vs.getD j 0).testBit i = true then vs.getD j 0 ^^^ vs.getD r 0 else vs.getD j 0 := by
  unfold elim
  rw [List.getD_eq_getElem?_getD, List.getElem?_map, List.getElem?_range hj]; rfl
theorem elim_self (vs : List Nat) (i r k : Nat) (hr : r < vs.length) : (elim vs i r k).getD r 0 = vs.getD r 0 := by
  rw [elim_get _ _ _ _ _ hr, if_neg (fun h => h.2.1 rfl)]
theorem EInv.elim {V : Nat → Prop} {n i r : Nat} {vs : List Nat} {p : Nat → Nat} (hS : Space V n) (h : EInv V i vs r p) (hr : r < vs.length) (hb : (vs.getD r 0).testBit i = true) :
    EInv V (i + 1) (Ev.elim vs i r vs.length) (r + 1) (fun j => if j = r then i else p j) := by
  have hg : ∀ k, k < vs.length → (Ev.elim vs i r vs.length).getD k 0 = if k ≠ r ∧ (vs.getD k 0).testBit i = true then vs.getD k 0 ^^^ vs.getD r 0 else vs.getD k 0 := by
    intro k hk
    rw [elim_get _ _ _ _ _ hk]
    simp [hk]
  have hbi : ∀ k, k < vs.length → ((Ev.elim vs i r vs.length).getD k 0).testBit i = decide (k = r) := by
    intro k hk
    rw [hg k hk]
    by_cases e : k = r
    · subst e; simpa using hb
    · by_cases e2 : (vs.getD k 0).testBit i = true
      · rw [if_pos ⟨e, e2⟩, Nat.testBit_xor, e2, hb]; simp [e]
      · rw [if_neg (fun h => e2 h.2)]; simp [e]; simpa using e2
  have hlow : ∀ k, k < vs.length → ∀ b, b < i → ((Ev.elim vs i r vs.length).getD k 0).testBit b = (vs.getD k 0).testBit b := by
    intro k hk b hbi'
    rw [hg k hk]
    split
    · rw [Nat.testBit_xor, h.zero r (Nat.le_refl _) hr b hbi']; simp
    · rfl
  refine ⟨by rw [elim_len]; omega, ?_, ?_, ?_, ?_, ?_, ?_, ?_⟩
  · intro v hv
    obtain ⟨k, hk, rfl⟩ := mem_getD.1 hv
    rw [elim_len] at hk
    rw [hg k hk]
    split
    · exact hS.xor _ _ (h.hV _ (mem_getD.2 ⟨k, hk, rfl⟩)) (h.hV _ (mem_getD.2 ⟨r, hr, rfl⟩))
    · exact h.hV _ (mem_getD.2 ⟨k, hk, rfl⟩)
  · intro x hx
    refine Span.sub (fun v hv => ?_) (h.span x hx)
    obtain ⟨k, hk, rfl⟩ := mem_getD.1 hv
    have hm : ∀ k, k < vs.length → Span (Ev.elim vs i r vs.length) ((Ev.elim vs i r vs.length).getD k 0) := fun k hk => Span.mem (mem_getD.2 ⟨k, by rw [elim_len]; exact hk, rfl⟩)
    have h1 := hm k hk
    have h2 := hm r hr
    rw [elim_self _ _ _ _ hr] at h2
    rw [hg k hk] at h1
    split at h1
    · have := h1.xor h2
      rwa [Nat.xor_assoc, Nat.xor_self, Nat.xor_zero] at this
    · exact h1
  · intro j hj
    show (if j = r then i else p j) < i + 1
    split
    · omega
    · have := h.lt j (by omega); omega
  · intro j k hjk hk
    show (if j = r then i else p j) < (if k = r then i else p k)
    rw [if_neg (by omega)]
    split
    · exact h.lt j (by omega)
    · exact h.mono j k hjk (by omega)
  · intro j k hj hk
    rw [elim_len] at hk
    show ((Ev.elim vs i r vs.length).getD k 0).testBit (if j = r then i else p j) = decide (k = j)
    split
    · rename_i e; rw [hbi k hk, e]
    · rw [hlow k hk _ (h.lt j (by omega)), h.bit j k (by omega) hk]
  · intro j hj b hbj
    have hbj : b < (if j = r then i else p j) := hbj
    by_cases e : j = r
    · subst e
      rw [if_pos rfl] at hbj
      rw [hlow j hr b hbj]
      exact h.zero j (Nat.le_refl _) hr b hbj
    · rw [if_neg e] at hbj
      have := h.lt j (by omega)
      rw [hlow j (by omega) b (by omega)]
      exact h.low j (by omega) b hbj
  · intro k hk hl b hbk
    rw [elim_len] at hl
    by_cases e : b = i
    · subst e; rw [hbi k hl]; simp; omega
    · rw [hlow k hl b (by omega)]
      exact h.zero k (by omega) hl b (by omega)
/-! What the last state says. -/
def Lead (x k : Nat) : Prop := x.testBit k = true ∧ ∀ b, b < k → x.testBit b = false
theorem Lead.inj {x a b : Nat} (ha : Lead x a) (hb : Lead x b) : a = b := by
  rcases Nat.lt_trichotomy a b with h | h | h
  · have := hb.2 a h; rw [ha.1] at this; cases this
  · exact h
  · have := ha.2 b h; rw [hb.1] at this; cases this
theorem xor_zero {x y : Nat} (h : x ^^^ y = 0) : x = y := by
  have : x ^^^ y ^^^ y = y := by rw [h, Nat.zero_xor]
  rwa [Nat.xor_assoc, Nat.xor_self, Nat.xor_zero] at this
/-! The reference goes through all vectors, the greatest first when the first position counts most. -/
end Go.Ev
end
section
/- Parities: the inner product modulo 2 of a list of exponents and a sign vector, by sums and by bits. Plain numbers. -/
namespace Go.Ev
open Go.Gr
def pr (row : List Int) (x : Nat) : Nat → Nat
  | 0 => 0
  | i + 1 => pr row x i + (if x.testBit i = true then (row.getD i 0).toNat else 0)
/-- The sign vectors of n variables that are orthogonal to all rows. -/
def V (rows : List (List Int)) (n x : Nat) : Prop := x < 2 ^ n ∧ ∀ row ∈ rows, pr row x n % 2 = 0
/-- A list of numbers as bits: bit i is the parity of number i. -/
def pk (l : List Int) : Nat → Nat
  | 0 => 0
  | k + 1 => pk l k ^^^ (((l.getD k 0).toNat % 2) <<< k)
/-- A list of zeros and ones. -/
def Bit01 (s : List Int) : Prop := ∀ x ∈ s, x = 0 ∨ x = 1
end Go.Ev
end
section
/- Walks: sign vectors as bits. -/
namespace Go.Proofs.Tg
open Go.RowKit Go.Gr
set_option maxHeartbeats 1000000
set_option maxRecDepth 100000
theorem i64_and_n (a b : Nat) (ha : a < 9223372036854775808) (hb : b < 9223372036854775808) : bits BinOp.and IntKind.i64 (a : Int) (b : Int) = ((a &&& b : Nat) : Int) := by
  have hx : a &&& b < 2 ^ 63 := Nat.and_lt_two_pow _ (by omega)
  show IntKind.i64.wrap ((BitVec.ofInt 64 (a : Int) &&& BitVec.ofInt 64 (b : Int)).toNat : Int) = _
  rw [BitVec.toNat_and, ofInt_u64 a (by omega), ofInt_u64 b (by omega), IntKind.wrap_i64]
  omega
theorem ones_w (s : Nat) (w : World) (hs : s < 18446744073709551616) :
    Calls Tryz.prog 63 #[.int .u64 s] w fun e w' => e = .returned (.int .i64 (size s : Nat)) ∧ w = w' := by
  go_enter Tryz.func63, Tryz.ntmps63
  go_wp2_with (go_at_call 84; refine (ones_any s _ hs).mono ?_; rintro e w' ⟨rfl, rfl⟩)
  go_ret
  exact ⟨rfl, rfl⟩
theorem int_info : (Tryz.prog.info? 3).map (fun i => (i.zero, i.size, i.bytes)) = some (some (.int .i64 0), 1, 8) := by kernel_rfl
theorem make_ints (l n : Nat) (hl : l ≤ n) (hn : n ≤ 1000000) (w : World) : (Instr.makeSlice 22 (.int .i64 (l : Int)) (.int .i64 (n : Int))).run Tryz.prog w = .ok (.slice (some ⟨w.heap.size, 0, none⟩) l n) (w.alloc (.cells (madeCells #[.int .i64 0] n) 3)) := by
  obtain ⟨i0, hi, hz0, hz1, hz2⟩ := info_parts int_info
  have hr := run_make (P := Tryz.prog) w 22 3 i0 (.int .i64 0) Tryz.underlying22 hi hz0 .i64 .i64 l n (by omega) (by omega) (by rw [hz2]; omega) (by omega)
  rw [hz1, Nat.mul_one, Int.toNat_natCast, Int.toNat_natCast] at hr
  exact hr
end Go.Proofs.Tg
end
section
/- Decimal texts of rational numbers: what the program accepts and what the reference accepts is the same. Plain lists of bytes. -/
namespace Go.Qn
open Go.Lib
def isD (c : UInt8) : Bool := decide (48 ≤ c.toNat) && decide (c.toNat ≤ 57)
def val (l : List UInt8) : Nat := l.foldl (fun n c => 10 * n + (c.toNat - 48)) 0
theorem val_snoc (l : List UInt8) (c : UInt8) : val (l ++ [c]) = 10 * val l + (c.toNat - 48) := by unfold val; rw [List.foldl_append]; rfl
theorem isD_iff {c : UInt8} : isD c = true ↔ 48 ≤ c.toNat ∧ c.toNat ≤ 57 := by unfold isD; simp
theorem snoc_ind {P : List UInt8 → Prop} (h0 : P []) (h1 : ∀ l c, P l → P (l ++ [c])) (l : List UInt8) : P l := by
  have : ∀ l : List UInt8, P l.reverse := by
    intro l
    induction l with
    | nil => exact h0
    | cons c l ih => rw [List.reverse_cons]; exact h1 _ _ ih
  have h := this l.reverse
  rwa [List.reverse_reverse] at h
theorem val_lt (l : List UInt8) (h : ∀ c ∈ l, isD c = true) : val l < 10 ^ l.length := by
  revert h
  refine snoc_ind (P := fun l => (∀ c ∈ l, isD c = true) → val l < 10 ^ l.length) ?_ ?_ l
  · intro _; decide
  · intro l c ih h
    have h1 := ih fun x hx => h x (by simp [hx])
    have h2 := isD_iff.1 (h c (by simp))
    rw [val_snoc, List.length_append, List.length_singleton, Nat.pow_succ]
    omega
theorem toNat_ofNat (n : Nat) (h : n < 256) : (UInt8.ofNat n).toNat = n := by simp; omega
theorem dec_val (l : List UInt8) (h : ∀ c ∈ l, isD c = true) (hn : l ≠ []) (hz : l.head? ≠ some 48) : decDigits (val l) = l ∧ val l ≠ 0 := by
  revert h hn hz
  refine snoc_ind (P := fun l => (∀ c ∈ l, isD c = true) → l ≠ [] → l.head? ≠ some 48 → decDigits (val l) = l ∧ val l ≠ 0) ?_ ?_ l
  · intro _ h; exact absurd rfl h
  · intro l c ih h _ hz
    have h2 := isD_iff.1 (h c (by simp))
    rw [val_snoc]
    by_cases hl : l = []
    · subst hl
      have hc : c.toNat ≠ 48 := fun e => hz (by
        have : c = 48 := UInt8.toNat_inj.1 (by rw [e]; rfl)
        simp [this])
      refine ⟨?_, by omega⟩
      show decDigits (10 * 0 + (c.toNat - 48)) = [c]
      rw [decDigits, dif_pos (by omega)]
      simp only [List.cons.injEq, and_true]
      apply UInt8.toNat_inj.1
      rw [toNat_ofNat _ (by omega)]; omega
    · have hz' : l.head? ≠ some 48 := by
        rw [List.head?_append] at hz
        cases hh : l.head? with
        | none => simp
        | some x => rw [hh] at hz; simpa using hz
      obtain ⟨h3, h4⟩ := ih (fun x hx => h x (by simp [hx])) hl hz'
      refine ⟨?_, by omega⟩
      rw [decDigits, dif_neg (by omega), show (10 * val l + (c.toNat - 48)) / 10 = val l by omega, h3]
      congr 1
      simp only [List.cons.injEq, and_true]
      apply UInt8.toNat_inj.1
      rw [toNat_ofNat _ (by omega)]; omega
def cut (l : List UInt8) : Bool × List UInt8 := if l.head? = some 45 then (true, l.tail) else (false, l)
/-- What the program reads. -/
def rdTail (neg : Bool) (num rest : List UInt8) : Option (Bool × Nat × Nat) :=
  match rest with
  | [] => some (neg, val num, 1)
  | c :: t => if c = 47 ∧ t.dropWhile isD = [] ∧ t.takeWhile isD ≠ [] ∧ (t.takeWhile isD).head? ≠ some 48 ∧ t.takeWhile isD ≠ [49] ∧ Nat.gcd (val num) (val (t.takeWhile isD)) = 1 then some (neg, val num, val (t.takeWhile isD)) else none
def rdBody (neg : Bool) (r : List UInt8) : Option (Bool × Nat × Nat) :=
  if r.takeWhile isD = [48] then (if neg = false ∧ r.dropWhile isD = [] then some (false, 0, 1) else none)
  else if r.takeWhile isD = [] ∨ (r.takeWhile isD).head? = some 48 then none
  else rdTail neg (r.takeWhile isD) (r.dropWhile isD)
def rd (l : List UInt8) : Option (Bool × Nat × Nat) := rdBody (cut l).1 (cut l).2
theorem tw_app {p : UInt8 → Bool} (a b : List UInt8) (ha : ∀ c ∈ a, p c = true) (hb : b = [] ∨ ∃ c t, b = c :: t ∧ p c = false) : (a ++ b).takeWhile p = a ∧ (a ++ b).dropWhile p = b := by
  induction a with
  | nil =>
    rcases hb with rfl | ⟨c, t, rfl, hc⟩
    · simp
    · simp [hc]
  | cons x a ih =>
    have := ih fun c hc => ha c (by simp [hc])
    simp [ha x (by simp), this]
theorem tw_all {p : UInt8 → Bool} (l : List UInt8) : ∀ c ∈ l.takeWhile p, p c = true := by
  exact List.all_eq_true.1 List.all_takeWhile
/-! The reference: cut at the first '/', read both parts, divide by the greatest common divisor, write, compare. -/
def numOk (l : List UInt8) : Bool := l.all isD && !l.isEmpty
theorem numOk_iff {l : List UInt8} : numOk l = true ↔ (∀ c ∈ l, isD c = true) ∧ l ≠ [] := by unfold numOk; simp
/-! The parts of a text. -/
def SplitIs (l : List UInt8) (b : Bool) (num den : List UInt8) (ok : Bool) : Prop :=
  num.length ≤ l.length ∧ den.length ≤ l.length ∧ (ok = false → rd l = none) ∧
  (ok = true → numOk num = true ∧ (den = [] → rd l = some (b, val num, 1)) ∧ (den ≠ [] → numOk den = true ∧ val num ≠ 0 ∧ val den ≠ 0 ∧ rd l = if Nat.gcd (val num) (val den) = 1 then some (b, val num, val den) else none))
theorem cut_len (l : List UInt8) : (cut l).2.length ≤ l.length := by
  unfold cut; split
  · simp
  · exact Nat.le_refl _
theorem tw_len (p : UInt8 → Bool) (l : List UInt8) : (l.takeWhile p).length ≤ l.length := by
  have h := congrArg List.length (List.takeWhile_append_dropWhile (p := p) (l := l))
  rw [List.length_append] at h; omega
theorem dw_len (p : UInt8 → Bool) (l : List UInt8) : (l.dropWhile p).length ≤ l.length := by
  have h := congrArg List.length (List.takeWhile_append_dropWhile (p := p) (l := l))
  rw [List.length_append] at h; omega
section
variable {l r : List UInt8} {b : Bool} (hc : cut l = (b, r))
include hc
theorem spl_len : (r.takeWhile isD).length ≤ l.length ∧ r.length ≤ l.length := by
  have h1 := cut_len l
  have h2 := tw_len isD r
  rw [hc] at h1
  exact ⟨Nat.le_trans h2 h1, h1⟩
theorem rd_of : rd l = rdBody b r := by unfold rd; rw [hc]
theorem spl_zero (h : r.takeWhile isD = [48]) : SplitIs l b (r.takeWhile isD) [] (!b && (r.dropWhile isD).isEmpty) := by
  refine ⟨(spl_len hc).1, by simp, fun e => ?_, fun e => ⟨by rw [h]; rfl, fun _ => ?_, fun e => absurd rfl e⟩⟩
  · rw [rd_of hc, rdBody, if_pos h, if_neg]
    rintro ⟨h1, h2⟩
    rw [h1, h2] at e; cases e
  · rw [rd_of hc, rdBody, if_pos h, h]
    cases b with
    | true => cases e
    | false =>
      have : r.dropWhile isD = [] := by simpa using e
      rw [if_pos ⟨rfl, this⟩]; rfl
theorem spl_bad (h : r.takeWhile isD ≠ [48]) (h2 : r.takeWhile isD = [] ∨ (r.takeWhile isD).head? = some 48) : SplitIs l b (r.takeWhile isD) [] false :=
  ⟨(spl_len hc).1, by simp, fun _ => by rw [rd_of hc, rdBody, if_neg h, if_pos h2], fun e => by cases e⟩
theorem spl_whole (h : r.takeWhile isD ≠ [48]) (h2 : ¬ (r.takeWhile isD = [] ∨ (r.takeWhile isD).head? = some 48)) (h3 : r.dropWhile isD = []) : SplitIs l b (r.takeWhile isD) [] true :=
  ⟨(spl_len hc).1, by simp, fun e => (by cases e), fun _ => ⟨numOk_iff.2 ⟨tw_all _, fun e => h2 (.inl e)⟩, fun _ => by rw [rd_of hc, rdBody, if_neg h, if_neg h2, h3]; rfl, fun e => absurd rfl e⟩⟩
theorem spl_slash (h : r.takeWhile isD ≠ [48]) (h2 : ¬ (r.takeWhile isD = [] ∨ (r.takeWhile isD).head? = some 48)) {c : UInt8} {t : List UInt8} (h3 : r.dropWhile isD = c :: t) (h4 : c ≠ 47) : SplitIs l b (r.takeWhile isD) [] false :=
  ⟨(spl_len hc).1, by simp, fun _ => by rw [rd_of hc, rdBody, if_neg h, if_neg h2, h3, rdTail, if_neg (fun e => h4 e.1)], fun e => by cases e⟩
theorem spl_den (h : r.takeWhile isD ≠ [48]) (h2 : ¬ (r.takeWhile isD = [] ∨ (r.takeWhile isD).head? = some 48)) {t : List UInt8} (h3 : r.dropWhile isD = 47 :: t) {ok : Bool}
    (hok : ok = true ↔ t.dropWhile isD = [] ∧ t.takeWhile isD ≠ [] ∧ (t.takeWhile isD).head? ≠ some 48 ∧ t.takeWhile isD ≠ [49]) : SplitIs l b (r.takeWhile isD) (t.takeWhile isD) ok := by
  refine ⟨(spl_len hc).1, ?_, fun e => ?_, fun e => ⟨numOk_iff.2 ⟨tw_all _, fun e => h2 (.inl e)⟩, fun e2 => absurd e2 (hok.1 e).2.1, fun _ => ⟨numOk_iff.2 ⟨tw_all _, (hok.1 e).2.1⟩, (dec_val _ (tw_all _) (fun e => h2 (.inl e)) (fun e => h2 (.inr e))).2, (dec_val _ (tw_all _) (hok.1 e).2.1 (hok.1 e).2.2.1).2, ?_⟩⟩⟩
  · have a1 := tw_len isD t
    have a2 := dw_len isD r
    have a3 := (spl_len hc).2
    rw [h3, List.length_cons] at a2
    omega
  · rw [rd_of hc, rdBody, if_neg h, if_neg h2, h3, rdTail, if_neg]
    rintro ⟨_, a, b, c, d, _⟩
    rw [hok.2 ⟨a, b, c, d⟩] at e; cases e
  · obtain ⟨a, b, c, d⟩ := hok.1 e
    rw [rd_of hc, rdBody, if_neg h, if_neg h2, h3, rdTail]
    by_cases g : Nat.gcd (val (r.takeWhile isD)) (val (t.takeWhile isD)) = 1
    · rw [if_pos ⟨rfl, a, b, c, d, g⟩, if_pos g]
    · rw [if_neg (fun h => g h.2.2.2.2.2), if_neg g]
end
end Go.Qn
end
section
/- Monomials and polynomials as plain lists: their order, when they are valid. -/
namespace Go.Mo
open Go.Qn
/-- The order of two exponent vectors of one degree, decided below position k. -/
def ordT (a b : List Int) : Nat → Int
  | 0 => 0
  | k + 1 => if a.getD k 0 = b.getD k 0 then ordT a b k else if b.getD k 0 < a.getD k 0 then -1 else 1
def ord (a b : List Int) : Int := if a.sum = b.sum then ordT a b a.length else if a.sum < b.sum then -1 else 1
def vldM (m : List Int) : Bool := decide (m.length ≤ 6 ∧ (∀ e ∈ m, 0 ≤ e) ∧ m.sum ≤ 24)
def degM (m : List Int) : Int := if vldM m = true then m.sum else -1
theorem sum_nonneg : ∀ (l : List Int), (∀ e ∈ l, 0 ≤ e) → 0 ≤ l.sum
  | [], _ => by simp
  | x :: l, h => by
    have h1 := h x (by simp)
    have h2 := sum_nonneg l fun e he => h e (by simp [he])
    rw [List.sum_cons]; omega
theorem sum_take_le (l : List Int) (k : Nat) (h : ∀ e ∈ l, 0 ≤ e) : (l.take k).sum ≤ l.sum := by
  have h1 : l.sum = (l.take k).sum + (l.drop k).sum := by rw [← List.sum_append, List.take_append_drop]
  have h2 := sum_nonneg (l.drop k) fun e he => h e (List.mem_of_mem_drop he)
  omega
theorem sum_take_succ (l : List Int) (k : Nat) (hk : k < l.length) : (l.take (k + 1)).sum = (l.take k).sum + l[k] := by
  rw [List.take_succ_eq_append_getElem hk, List.sum_append, List.sum_singleton]
theorem vldM_iff {m : List Int} : vldM m = true ↔ m.length ≤ 6 ∧ (∀ e ∈ m, 0 ≤ e) ∧ m.sum ≤ 24 := by unfold vldM; simp
theorem vldM_bad {m : List Int} {k : Nat} (hk : k < m.length) (h : m[k] < 0 ∨ 24 - (m.take k).sum < m[k]) : vldM m = false := by
  apply eq_false_of_ne_true
  rw [vldM_iff]
  rintro ⟨_, h1, h2⟩
  rcases h with h | h
  · have := h1 m[k] (List.getElem_mem _); omega
  · have h3 := sum_take_le m (k + 1) h1
    rw [sum_take_succ m k hk] at h3
    omega
theorem degM_ge {m : List Int} : decide (0 ≤ degM m) = vldM m := by
  unfold degM
  cases h : vldM m with
  | true =>
    have := sum_nonneg m (vldM_iff.1 h).2.1
    simp; exact this
  | false => simp
/-! Polynomials: the number of variables, and the terms as a text and exponents. -/
abbrev Term := ByteArray × List Int
def low20 (e : List Int) : Bool := e.all fun x => decide (0 ≤ x) && decide (x ≤ 1048576)
def coefOk (s : ByteArray) : Bool := match rd s.data.toList with
  | some (_, n, _) => decide (n ≠ 0)
  | none => false
def termOk (v : Int) (t : Term) : Bool := coefOk t.1 && decide ((t.2.length : Int) = v) && low20 t.2
/-- The first k terms are well formed and descend. -/
def wfTo (v : Int) (ts : List Term) (k : Nat) : Prop := ∀ i, i < k → (h : i < ts.length) → termOk v ts[i] = true ∧ (0 < i → 0 < ord (ts.getD (i - 1) default).2 ts[i].2)
def wfP (v : Int) (ts : List Term) : Prop := 0 ≤ v ∧ v ≤ 6 ∧ wfTo v ts ts.length
/-- A polynomial is valid. -/
def VldP (v : Int) (ts : List Term) : Prop := ts.length ≤ 4096 ∧ wfP v ts ∧ ∀ h : 0 < ts.length, vldM ts[0].2 = true
end Go.Mo
end
